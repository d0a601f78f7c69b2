/- slices.Delete at the recorder's ticks: two ticks, the first is dropped. Conditions: none. -/
import Derived.Shelf.RegionOpenPlain
import Derived.WalkKit
import Derived.Deep.LoopGhost
import Derived.Deep.RegionLaw
import Derived.Lib.Walk
import Derived.Sort.WalkB12
import Derived.Lib.SliceRun
import Derived.Lib.SlicesDelete
import Derived.Test.YtgigipohmiopiaaAiThaw
import Derived.Test.YtgigipohmiopiaaRec1
namespace Go.Proofs.Ytgigipohmiopiaa.Img
open Go Go.Proofs.Ytgigipohmiopiaa.AI Go.Proofs Go.RowKit Go.Lib Go.Sort
set_option maxHeartbeats 4000000 in
set_option maxRecDepth 1000000 in
theorem del_walk (g cap : Nat) (x y : Value) (i0 : TypeInfo) (hi0 : Hid (Try.prog.info? 22 = some i0)) (hz1 : Hid (i0.size = 1)) (v22 : Hid (∀ w, (zeroValue 22).run Try.prog w = .ok (.slice none 0 0) w)) (w : World)
    (hx : Hid (w.cell? ⟨g, 0, none⟩ = some x)) (hy : Hid (w.cell? ⟨g, 1, none⟩ = some y)) (fx : Hid (w.frozen? ⟨g, 0, none⟩ = false)) (fy : Hid (w.frozen? ⟨g, 1, none⟩ = false)) (h1 : Hid (y.oneCell' = true))
    (hcap : 2 ≤ cap) (hm : cap ≤ 9223372036854775807) :
    Calls Try.prog 18 #[.slice (some ⟨g, 0, none⟩) 2 cap, .int .i64 0, .int .i64 1] w fun e w' => e = .returned (.slice (some ⟨g, 0, none⟩) 1 cap) ∧ w' = (w.drew.setCells g 0 [y]).setCells g 1 [.slice none 0 0] := by
  have hc1 : ¬ cap = 1 := by omega
  have mixed : Try.prog.follows .mixedOrders = true := by kernel_rfl
  have hsrc : Hid (∀ t u, [y][t]? = some u → w.drew.cell? ((⟨g, 1, none⟩ : Addr).add t) = some u) := by
    intro t u hu
    cases t with
    | zero =>
      simp at hu
      subst hu
      exact hy.out
    | succ t => simp at hu
  obtain ⟨W1, hW1⟩ : ∃ W1, W1 = w.drew.setCells g (0 + 0 * 1) [y] := ⟨_, rfl⟩
  have s1 : Hid ([y].length = 1 * 1) := rfl
  have s2 : Hid (∀ u ∈ [y], u.oneCell' = true) := by
    intro u hu
    simp at hu
    subst hu
    exact h1.out
  have s3 : Hid (∀ t, t < [y].length → (w.drew.cell? ⟨g, 0 + 0 * 1 + t, none⟩).isSome = true ∧ w.drew.frozen? ⟨g, 0 + 0 * 1 + t, none⟩ = false) := by
    intro t ht
    have : t = 0 := by simp at ht; omega
    subst this
    exact ⟨by show (w.cell? _).isSome = true; rw [show 0 + 0 * 1 + 0 = 0 from rfl, hx.out]; rfl, fx.out⟩
  have hcl : ∀ ty, (Builtin.clear_ #[25] ty #[.slice (some ⟨g, 0 + 1, none⟩) 1 (cap - 1)]).run Try.prog W1 = .ok (.tuple #[]) (W1.setCells g (0 + 1) (List.replicate 1 (.slice none 0 0))) :=
    fun ty => Lib.run_clear_slice W1 25 22 ty (.slice none 0 0) Try.underlying25 v22.out rfl rfl g (0 + 1) 1 (cap - 1) (by omega) (fun j hj => by
      have : j = 0 := by omega
      subst this
      rw [hW1, World.cell?_setCells_out g [y] (0 + 0 * 1) w.drew ⟨g, 0 + 1 + 0, none⟩ (fun _ _ => .inr (by simp))]
      show (w.cell? ⟨g, 1, none⟩).isSome = true
      rw [hy.out]; rfl) (fun j hj => by
      have : j = 0 := by omega
      subst this
      rw [hW1, World.frozen?_setCells]
      exact fy.out)
  have hW : Hid (W1 = w.drew.setCells g (0 + 0 * 1) [y]) := hW1
  clear hW1
  go_enter Try.func18, Try.ntmps18
  go_wp2_with fail
  go_region_law_o (refine step_append_room rfl (.tmp 22) (.tmp 25) 25 rfl 22 i0 1 Try.underlying25 hi0.out hz1.out g 0 0 cap (by simp [Act.eval, Act.put]) ⟨g, 1, none⟩ 1 (cap - 1) [y] (by simp [Act.eval, Act.put]) s1.out hsrc.out s2.out (by omega) s3.out ?_; rw [← hW.out])
  go_wp2
  go_ret
  exact ⟨rfl, by rw [hW.out]⟩

theorem setCell_obj {w : World} {g k : Nat} {v : Value} {arr : Array Value} {t : TypeId} {fr : Nat × Nat} (h : w.heap[g]? = some (.cells arr t fr)) :
    (w.setCell ⟨g, k, none⟩ v).heap[g]? = some (.cells (arr.setIfInBounds k v) t fr) := by
  have hlt : g < w.heap.size := (Array.getElem?_eq_some_iff.1 h).1
  have hv : w.heap[g] = .cells arr t fr := (Array.getElem?_eq_some_iff.1 h).2
  unfold World.setCell
  rw [Array.getElem?_eq_getElem (by simpa using hlt), Array.getElem_modify]
  simp [hv]
theorem setCell_oth {w : World} {g k b : Nat} {v : Value} (h : b ≠ g) : (w.setCell ⟨g, k, none⟩ v).heap[b]? = w.heap[b]? := by
  simp [World.setCell, Array.getElem?_modify, Ne.symm h]

/-- Of a row with names, what is no name. -/
def plainV : AV → AV
  | .int k z => .int k z
  | .bit b => .bit b
  | _ => .bad
/-- The rows behind it: the old name is gone. -/
def delM (rv : List (Nat × Row)) (id : Nat) (f : Nat → Nat → AV) : Nat → Option Row := fun k => match Nat.beq k (id + 1000) with
  | true => some ⟨22, 1, 1, fun i j => f (i + 1) j, 0, false⟩
  | false => match Nat.beq k id with
    | true => none
    | false => match lookR rv k with
      | some ⟨e, sz, n, g, st, true⟩ => some ⟨e, sz, n, fun i j => plainV (g i j), st, true⟩
      | r => r
structure DelP (S : List Nat) (rv : List (Nat × Row)) (id : Nat) (K : AV → (Nat → Option Row) → Prop) : Prop where
  go : ∃ f, lookR rv id = some ⟨22, 1, 2, f, 0, false⟩ ∧ (S.all fun k => !Nat.beq k id) = true ∧ lookR rv (id + 1000) = none ∧ K (.own (id + 1000) 1) (delM rv id f)
def delT : InlT := fun S rv args K => match args with
  | [.own id n, .int .i64 lo, .int .i64 hi] => (n = 2 ∧ lo = 0 ∧ hi = 1) ∧ DelP S rv id K
  | _ => False
theorem delT_ok : InlEnt Try.prog TE 18 delT := by
  refine ⟨callable_of Try.func18 (by kernel_rfl), fun S rv args K hg B w0 I0 ρ I w vs hi0 M hargs => ?_⟩
  unfold delT at hg
  split at hg
  · rename_i id n lo hi
    obtain ⟨⟨rfl, rfl, rfl⟩, ⟨f, m0, hS, m1, hK⟩⟩ := hg
    obtain ⟨v0, v1, v2, hvs, r0, r1, r2⟩ : ∃ v0 v1 v2, vs.toList = [v0, v1, v2] ∧ Rep2 TE I w ρ (.own id 2) v0 ∧ Rep2 TE I w ρ (.int .i64 0) v1 ∧ Rep2 TE I w ρ (.int .i64 1) v2 := by
      match hl : vs.toList, hargs with
      | [a, b, c], ⟨h1, h2, h3, _⟩ => exact ⟨a, b, c, rfl, h1, h2, h3⟩
    have hvs' : vs = #[v0, v1, v2] := by apply Array.ext'; simpa using hvs
    simp only [Rep2, Rep1] at r0 r1 r2
    subst r1 r2
    have hne : id ≠ id + 1000 := by omega
    have p1000 : ρ (id + 1000) = .no := M.dom _ m1
    rcases r0 with ⟨g, cap, sz, hp, rfl⟩ | ⟨_, _, h, _⟩
    · have hR := M.rows id _ m0
      rw [hp] at hR
      obtain ⟨z1, _, z3, z4, z5, ⟨arr, ha, hsz, hc⟩, z7, _⟩ := hR
      have z1 : sz = 1 := z1
      subst z1
      have hI : ∀ k, ¬ I g k := z7 rfl
      obtain ⟨c0, a0, o0, _⟩ := hc 0 0 (by omega) (by omega)
      obtain ⟨c1, a1, o1, q1⟩ := hc 1 0 (by omega) (by omega)
      have a0 : arr[0]? = some c0 := a0
      have a1 : arr[1]? = some c1 := a1
      have hgl : g < w.heap.size := (Array.getElem?_eq_some_iff.1 ha).1
      obtain ⟨i22, zz22, g22⟩ := tabE0.gives (t := 22) (td := ⟨.slice 3, 1, 24, [.nilS]⟩) rfl
      have hz22 : ∀ w, (zeroValue 22).run Try.prog w = .ok (.slice none 0 0) w := fun w => by kernel_rfl
      have fz : ∀ k, w.frozen? ⟨g, k, none⟩ = false := fun k => by
        unfold World.frozen?
        rw [ha]; simp
      have run := del_walk g cap c0 c1 i22 g22.info g22.size hz22 w (by show w.cell? _ = _; rw [cell_of ha]; exact a0) (by show w.cell? _ = _; rw [cell_of ha]; exact a1) (fz 0) (fz 1) o1 z4 (by unfold maxLen at z5; omega)
      rw [hvs']
      refine run.mono fun e w' ⟨he, hw⟩ => ?_
      have hw : w' = (w.drew.setCell ⟨g, 0, none⟩ c1).setCell ⟨g, 1, none⟩ (.slice none 0 0) := hw
      have hd : w.drew.heap[g]? = some (.cells arr 22 (0, 0)) := ha
      have harr : w'.heap[g]? = some (.cells ((arr.setIfInBounds 0 c1).setIfInBounds 1 (.slice none 0 0)) 22 (0, 0)) := by rw [hw]; exact setCell_obj (setCell_obj hd)
      have hoth : ∀ b, b ≠ g → w'.heap[b]? = w.heap[b]? := fun b hb => by rw [hw, setCell_oth hb, setCell_oth hb]; rfl
      have hsize : w'.heap.size = w.heap.size := by rw [hw]; simp only [World.setCell, Array.size_modify]; rfl
      have hbel : Below B w w' := ⟨by rw [hw]; rfl, by rw [hw]; rfl, by rw [hw]; rfl, by omega, fun b hb => hoth b (by omega)⟩
      have hce : ∀ b k, I b k → w'.cell? ⟨b, k, none⟩ = w.cell? ⟨b, k, none⟩ := fun b k h => by
        have : b ≠ g := fun e => hI k (e ▸ h)
        simp only [World.cell?, hoth b this]
      have X0 : Ext noPl I w noPl I w' := ⟨fun _ h => absurd rfl h, fun _ _ h => h, hce⟩
      obtain ⟨ρ', hρ⟩ : ∃ ρ' : Nat → AI.Place, ρ' = fun k => if k = id + 1000 then .at g cap 1 1 else if k = id then .no else ρ k := ⟨_, rfl⟩
      have e1 : ρ' (id + 1000) = .at g cap 1 1 := by rw [hρ]; simp
      have e2 : ρ' id = .no := by rw [hρ]; simp [hne]
      have e3 : ∀ k, k ≠ id → k ≠ id + 1000 → ρ' k = ρ k := fun k h1 h2 => by rw [hρ]; simp [h1, h2]
      have d1 : delM rv id f (id + 1000) = some ⟨22, 1, 1, fun i j => f (i + 1) j, 0, false⟩ := by simp [delM]
      have nb : ∀ {a b : Nat}, a ≠ b → Nat.beq a b = false := fun {a b} h => by
        cases hq : Nat.beq a b
        · rfl
        · exact absurd (Nat.eq_of_beq_eq_true hq) h
      have d2 : delM rv id f id = none := by simp [delM, nb hne]
      have d3 : ∀ k, k ≠ id → k ≠ id + 1000 → (delM rv id f k = none ∧ lookR rv k = none) ∨ ∃ r, lookR rv k = some r ∧ delM rv id f k = some ⟨r.e, r.sz, r.n, fun i j => (match r.bx with | true => plainV (r.f i j) | false => r.f i j), r.st, r.bx⟩ := fun k h1 h2 => by
        simp only [delM, nb h1, nb h2]
        cases hq : lookR rv k with
        | none => exact .inl ⟨rfl, rfl⟩
        | some r =>
          obtain ⟨e, sz, n, gg, st, bx⟩ := r
          cases bx <;> exact .inr ⟨_, rfl, rfl⟩
      have nog : ∀ k r g2 cap2 sz2 n2, k ≠ id → lookR rv k = some r → ρ k = .at g2 cap2 sz2 n2 → g2 ≠ g := fun k r g2 cap2 sz2 n2 hk hr hp2 hgg => by
        subst hgg
        obtain ⟨h, _⟩ := M.excl id k _ r g2 cap 1 2 cap2 sz2 n2 (Ne.symm hk) m0 hr hp hp2 (by show (0 : Nat) ≠ 2; decide)
        cases h
      refine ⟨_, .own (id + 1000) 1, delM rv id f, he, hK, ρ', I, ⟨fun k hk hn => ?_, fun _ _ h => h, hce⟩, MRel.mk (fun k h => ?_) (fun k r h => ?_) (fun k k' r r' gg cc ss nn cc' ss' nn' hkk h1 h2 h3 h4 h5 => ?_) (fun b k h => by rw [hsize]; exact M.ilt b k h) M.i0 M.inew (M.below.trans hbel) (by rw [hsize]; exact M.hB), ?_⟩
      · have h1 : k ≠ id := by
          simp only [List.all_eq_true, Bool.not_eq_true'] at hS
          intro e
          have := hS k hk
          rw [e, Nat.beq_refl] at this
          cases this
        have h2 : k ≠ id + 1000 := fun e => hn (e ▸ p1000)
        exact e3 k h1 h2
      · by_cases h2 : k = id + 1000
        · subst h2; rw [d1] at h; cases h
        by_cases h1 : k = id
        · subst h1; exact e2
        rw [e3 k h1 h2]
        rcases d3 k h1 h2 with ⟨_, h3⟩ | ⟨r, _, h4⟩
        · exact M.dom k h3
        · rw [h4] at h; cases h
      · by_cases h2 : k = id + 1000
        · subst h2
          rw [d1] at h
          injection h with h
          subst h
          rw [e1]
          refine ⟨rfl, rfl, z3, by omega, z5, ⟨_, harr, by simp [hsz], fun i j hi hj => ?_⟩, fun _ k hk => hI k hk, fun h => by cases h⟩
          have hi0 : i = 0 := by have : i < 1 := hi; omega
          have hj0 : j = 0 := by have : j < 1 := hj; omega
          subst hi0 hj0
          refine ⟨c1, ?_, o1, Rep1.mono X0 _ _ q1⟩
          have hl : 0 < arr.size := by rw [hsz]; omega
          simp [Array.getElem?_setIfInBounds, hl]
        by_cases h1 : k = id
        · subst h1; rw [d2] at h; cases h
        rcases d3 k h1 h2 with ⟨h3, _⟩ | ⟨r0, h3, h4⟩
        · rw [h3] at h; cases h
        · rw [h4] at h
          injection h with h
          subst h
          rw [e3 k h1 h2]
          have hR := M.rows k r0 h3
          cases hp2 : ρ k with
          | no => rw [hp2] at hR; exact hR
          | nil sz => rw [hp2] at hR; exact hR
          | «at» g2 cap2 sz2 n2 =>
            rw [hp2] at hR
            have hgg := nog k r0 g2 cap2 sz2 n2 h1 h3 hp2
            obtain ⟨w1, w2, w3, w4, w5, ⟨arr2, ha2, hs2, hc2⟩, w7, w8⟩ := hR
            refine ⟨w1, w2, w3, w4, w5, ⟨arr2, by rw [hoth g2 hgg]; exact ha2, hs2, fun i j hi hj => ?_⟩, w7, w8⟩
            obtain ⟨c, y1, y2, y3⟩ := hc2 i j hi hj
            refine ⟨c, y1, y2, ?_⟩
            cases hbx : r0.bx with
            | true =>
              rw [hbx] at y3
              show Rep1 TE I w' ρ' (plainV (r0.f i j)) c
              have y3 : Rep1 TE I w ρ (r0.f i j) c := y3
              cases hv : r0.f i j <;> rw [hv] at y3 <;> simp only [plainV, Rep1] at y3 ⊢ <;> exact y3
            | false =>
              rw [hbx] at y3
              exact Rep1.mono X0 _ _ y3
      · by_cases h2' : k = id + 1000
        · exfalso
          subst h2'
          rw [e1] at h3
          injection h3 with q1 q2 q3 q4
          subst q1
          have hk2 : k' ≠ id + 1000 := fun e => hkk e.symm
          by_cases hk1 : k' = id
          · subst hk1; rw [d2] at h2; cases h2
          · rw [e3 k' hk1 hk2] at h4
            rcases d3 k' hk1 hk2 with ⟨q, _⟩ | ⟨r0, q, _⟩
            · rw [q] at h2; cases h2
            · exact nog k' r0 _ _ _ _ hk1 q h4 rfl
        by_cases h1' : k = id
        · subst h1'; rw [d2] at h1; cases h1
        rw [e3 k h1' h2'] at h3
        rcases d3 k h1' h2' with ⟨q, _⟩ | ⟨r0, q, qq⟩
        · rw [q] at h1; cases h1
        by_cases h2'' : k' = id + 1000
        · exfalso
          subst h2''
          rw [e1] at h4
          injection h4 with q1 q2 q3 q4
          subst q1
          exact nog k r0 _ _ _ _ h1' q h3 rfl
        by_cases h1'' : k' = id
        · subst h1''; rw [d2] at h2; cases h2
        rw [e3 k' h1'' h2''] at h4
        rcases d3 k' h1'' h2'' with ⟨q', _⟩ | ⟨r0', q', qq'⟩
        · rw [q'] at h2; cases h2
        rw [qq] at h1
        rw [qq'] at h2
        injection h1 with h1
        injection h2 with h2
        subst h1 h2
        exact M.excl k k' r0 r0' gg cc ss nn cc' ss' nn' hkk q q' h3 h4 h5
      · simp only [Rep, Rep2, Rep1]
        exact .inl ⟨g, cap, 1, e1, rfl⟩
    · cases h
  · exact hg.elim
end Go.Proofs.Ytgigipohmiopiaa.Img
