/- A store into a row of the call's own. Conditions: none. -/
import Derived.Test.YtbhbjmneglkgnaaAiApp2
import Derived.Laws.CopyRow
namespace Go.Proofs.Ytbhbjmneglkgnaa.AI
open Go Go.RowKit

variable {P : Program} {E : Env} {T : TypeId} {B : Nat} {w0 : World} {I0 : Nat → Nat → Prop} {ρ ρ' : Nat → Place} {I I' : Nat → Nat → Prop} {m : Nat → Option Row} {w w' : World}

theorem pureB_sound {v : AV} {x : Value} (hb : pureB v = true) (h : Rep1 T I w ρ v x) : Rep1 T I w noPl v x := by
  cases v <;> first
    | (simp [pureB] at hb; done)
    | (simp only [Rep1] at h ⊢; exact h)
    | simp only [Rep1]
theorem pureBL_sound : ∀ {l : List AV} {xs : List Value}, pureBL l = true → RepL T I w ρ l xs → RepL T I w noPl l xs
  | [], [], _, _ => by simp [RepL]
  | v :: r, x :: s, hb, h => by
    simp only [pureBL, Bool.and_eq_true] at hb
    simp only [RepL] at h ⊢
    exact ⟨⟨h.1.1, pureB_sound hb.1 h.1.2⟩, pureBL_sound hb.2 h.2⟩
  | [], _ :: _, _, h => by simp only [RepL] at h
  | _ :: _, [], _, h => by simp only [RepL] at h

def setM (m : Nat → Option Row) (id : Nat) (r : Row) : Nat → Option Row := fun k => match Nat.beq k id with | true => some r | false => m k

theorem setM_self (m : Nat → Option Row) (id : Nat) (r : Row) : setM m id r id = some r := by simp [setM]
theorem setM_other (m : Nat → Option Row) {id x : Nat} (r : Row) (h : x ≠ id) : setM m id r x = m x := by
  have : Nat.beq x id = false := by
    cases hb : Nat.beq x id
    · rfl
    · exact absurd (Nat.eq_of_beq_eq_true hb) h
  simp [setM, this]

theorem updF_in {f : Nat → Nat → AV} {i j a b : Nat} {cs : List AV} (h1 : a = i) (h2 : j ≤ b) (h3 : b < j + cs.length) : updF f i j cs a b = nth cs (b - j) := by
  have e1 : Nat.beq a i = true := by simp [h1]
  have e2 : Nat.ble j b = true := by simpa using h2
  have e3 : Nat.blt b (j + cs.length) = true := by simpa using h3
  simp [updF, e1, e2, e3]
theorem updF_out {f : Nat → Nat → AV} {i j a b : Nat} {cs : List AV} (h : ¬ (a = i ∧ j ≤ b ∧ b < j + cs.length)) : updF f i j cs a b = f a b := by
  unfold updF
  split
  · rename_i e1 e2 e3
    exact absurd ⟨Nat.eq_of_beq_eq_true e3, by simpa using e1, by simpa using e2⟩ h
  · rfl

theorem MRel.storeIn (M : MRel T B w0 I0 ρ I m w) {id g cap sz n : Nat} {r : Row} (hm : m id = some r) (hp : ρ id = .at g cap sz n) (hst : r.st = 0) {i j : Nat} {cs : List AV} {vs : List Value}
    (hi : i < n) (hj : j + cs.length ≤ sz) (hv : RepL T I w (plOf r.bx ρ) cs vs) :
    ∃ w', (storeCells ⟨g, i * sz + j, none⟩ vs).run P w = .ok () w' ∧ Ext ρ I w ρ I w' ∧ MRel T B w0 I0 ρ I (setM m id ⟨r.e, r.sz, r.n, updF r.f i j cs, 0, r.bx⟩) w' := by
  have hrow := M.rows id r hm
  rw [hp] at hrow
  obtain ⟨e1, e2, e3, e4, e5, ⟨arr, ha, hs, hc⟩, e6, e7⟩ := hrow
  have hlen := hv.length
  have hone : ∀ u ∈ vs, u.oneCell' = true := fun u hu => by
    obtain ⟨q, hq, rfl⟩ := List.getElem_of_mem hu
    obtain ⟨c, h1, h2, _⟩ := hv.nth q (by omega)
    rw [List.getElem?_eq_getElem hq] at h1
    injection h1 with h1
    rw [h1]; exact h2
  have hlt : i * sz + sz ≤ cap * sz := by
    have : (i + 1) * sz ≤ cap * sz := Nat.mul_le_mul_right _ (by omega)
    rw [Nat.add_mul] at this
    omega
  have hfit : i * sz + j + 0 + vs.length ≤ arr.size := by rw [hs]; omega
  have hrun := run_storeCells_at (P := P) g (i * sz + j) r.e vs 0 arr w ha hfit hone
  rw [Nat.add_zero] at hrun
  have hI : ∀ k, ¬ I g k := e6 hst
  have hother : ∀ id' cap' sz' n', id' ≠ id → ρ id' = .at g cap' sz' n' → False := fun id' cap' sz' n' hne hp' => by
    obtain ⟨r', hm', _⟩ := M.at_ hp'
    obtain ⟨h, _⟩ := M.excl id id' r r' g cap sz n cap' sz' n' (Ne.symm hne) hm hm' hp hp' (by omega)
    omega
  have hgo : ∀ b, b ≠ g → (w.setRow g (arr.toList.take (i * sz + j) ++ vs ++ arr.toList.drop (i * sz + j + vs.length)).toArray).heap[b]? = w.heap[b]? := fun b hb => setRow_other w g b _ hb
  have X : Ext ρ I w ρ I (w.setRow g (arr.toList.take (i * sz + j) ++ vs ++ arr.toList.drop (i * sz + j + vs.length)).toArray) := ⟨fun _ _ => rfl, fun _ _ h => h, fun b k hb => by
    have : b ≠ g := by rintro rfl; exact hI k hb
    exact World.cell?_of_block (hgo b this)⟩
  have hat : ∀ q, (arr.toList.take (i * sz + j) ++ vs ++ arr.toList.drop (i * sz + j + vs.length)).toArray[q]? = if i * sz + j ≤ q ∧ q < i * sz + j + vs.length then vs[q - (i * sz + j)]? else arr[q]? := fun q => by
    rw [List.getElem?_toArray, List.append_assoc]
    have hl : (arr.toList.take (i * sz + j)).length = i * sz + j := by rw [List.length_take, Array.length_toList, Nat.min_eq_left (by omega)]
    by_cases h1 : q < i * sz + j
    · rw [List.getElem?_append_left (by omega), List.getElem?_take_of_lt h1, Array.getElem?_toList, if_neg (by omega)]
    · rw [List.getElem?_append_right (by omega), hl]
      by_cases h2 : q < i * sz + j + vs.length
      · rw [List.getElem?_append_left (by omega), if_pos ⟨by omega, h2⟩]
      · rw [List.getElem?_append_right (by omega), if_neg (by omega), List.getElem?_drop, Array.getElem?_toList]
        congr 1; omega
  refine ⟨_, hrun, X, fun x h => ?_, fun x r' hr' => ?_, fun x x' r1 r2 g1 cap1 sz1 n1 cap2 sz2 n2 hxx h1 h2 h3 h4 h5 => ?_, fun b k h => by simpa using M.ilt b k h, M.i0, M.inew, ?_, by simpa using M.hB⟩
  · by_cases e : x = id
    · subst e; rw [setM_self] at h; cases h
    · rw [setM_other m _ e] at h; exact M.dom x h
  · by_cases e : x = id
    · subst e
      rw [setM_self] at hr'
      cases hr'
      rw [hp]
      refine ⟨e1, e2, e3, e4, e5, ⟨_, setRow_heap w g arr _ r.e _ ha, ?_, fun a b ha' hb' => ?_⟩, fun _ => hI, fun h => by cases h⟩
      · simp only [List.size_toArray, List.length_append, List.length_take, List.length_drop, Array.length_toList]
        rw [hs] at hfit ⊢
        omega
      · show ∃ c, _ = some c ∧ _ ∧ Rep1 T I _ (plOf r.bx ρ) (updF r.f i j cs a b) c
        rw [hat]
        by_cases c : a = i ∧ j ≤ b ∧ b < j + cs.length
        · obtain ⟨rfl, c2, c3⟩ := c
          rw [if_pos ⟨by omega, by omega⟩, updF_in rfl c2 c3]
          obtain ⟨u, u1, u2, u3⟩ := hv.nth (b - j) (by omega)
          exact ⟨u, by rw [← u1]; congr 1; omega, u2, Rep1.mono (X.plOf _) _ _ u3⟩
        · rw [updF_out c, if_neg ?_]
          · obtain ⟨u, u1, u2, u3⟩ := hc a b ha' hb'
            exact ⟨u, u1, u2, Rep1.mono (X.plOf _) _ _ u3⟩
          · rintro ⟨d1, d2⟩
            apply c
            rcases Nat.lt_trichotomy a i with h | h | h
            · have : (a + 1) * sz ≤ i * sz := Nat.mul_le_mul_right _ h
              rw [Nat.add_mul] at this
              omega
            · subst h; exact ⟨rfl, by omega, by omega⟩
            · have : (i + 1) * sz ≤ a * sz := Nat.mul_le_mul_right _ h
              rw [Nat.add_mul] at this
              omega
    · rw [setM_other m _ e] at hr'
      have h := M.rows x r' hr'
      cases hpx : ρ x with
      | no => rw [hpx] at h; exact h
      | nil sz => rw [hpx] at h; exact h
      | «at» g1 cap1 sz1 n1 =>
        rw [hpx] at h
        obtain ⟨y1, y2, y3, y4, y5, ⟨arr1, ya, ys, yc⟩, y6, y7⟩ := h
        have hg1 : g1 ≠ g := by rintro rfl; exact hother x _ _ _ e hpx
        refine ⟨y1, y2, y3, y4, y5, ⟨arr1, by rw [hgo g1 hg1]; exact ya, ys, fun a b ha' hb' => ?_⟩, y6, y7⟩
        obtain ⟨u, u1, u2, u3⟩ := yc a b ha' hb'
        exact ⟨u, u1, u2, Rep1.mono (X.plOf _) _ _ u3⟩
  · by_cases e : x = id
    · subst e
      rw [hp] at h3
      injection h3 with z1 z2 z3 z4
      subst z1
      exact (hother x' _ _ _ (Ne.symm hxx) h4).elim
    · by_cases e' : x' = id
      · subst e'
        rw [hp] at h4
        injection h4 with z1 z2 z3 z4
        subst z1
        exact (hother x _ _ _ e h3).elim
      · rw [setM_other m _ e] at h1
        rw [setM_other m _ e'] at h2
        exact M.excl x x' r1 r2 g1 cap1 sz1 n1 cap2 sz2 n2 hxx h1 h2 h3 h4 h5
  · refine M.below.trans ⟨rfl, rfl, rfl, by simp, fun b hb => hgo b (by omega)⟩

theorem orB {a b : Bool} (h : a = false → b = false → False) : a = true ∨ b = true := by
  cases a <;> cases b <;> simp_all

/-- The evaluator's store. -/
theorem sop_sound (h : TabOK P E) (M : MRel E.errT B w0 I0 ρ I m w) {t : TypeId} {x y : AV} {xv yv : Value} {id : Nat} {r : Row} (hs : sop E t x y m = some (id, r))
    (hx : Rep E.errT I w ρ x xv) (hy : Rep E.errT I w ρ y yv) :
    ∃ w', (Instr.storeAt t xv yv).run P w = .ok () w' ∧ Ext ρ I w ρ I w' ∧ MRel E.errT B w0 I0 ρ I (setM m id r) w' := by
  have main : ∀ {desc : TDesc} {ts tb : Nat} {z : List AV} {id' e sz n : Nat} {f : Nat → Nat → AV} {bx : Bool} {i j g cap : Nat}, E.tab t = some ⟨desc, ts, tb, z⟩ → m id' = some ⟨e, sz, n, f, 0, bx⟩ → ρ id' = .at g cap sz n →
      i < n → j + ts ≤ sz → (okPart y && Nat.beq y.cells.length ts) = true → (bx = true ∨ pureBL y.cells = true) → xv = .pointer (some ⟨g, i * sz + j, none⟩) →
      ∃ w', (Instr.storeAt t xv yv).run P w = .ok () w' ∧ Ext ρ I w ρ I w' ∧ MRel E.errT B w0 I0 ρ I (setM m id' ⟨e, sz, n, updF f i j y.cells, 0, bx⟩) w' := by
    intro desc ts tb z id' e sz n f bx i j g cap ht hm hp hi hj hok hb hxv
    obtain ⟨ti, tz, tg⟩ := h.gives ht
    simp only [Bool.and_eq_true] at hok
    obtain ⟨ho, hl⟩ := hok
    have hl' : y.cells.length = ts := Nat.eq_of_beq_eq_true hl
    have hy2 : Rep2 E.errT I w ρ y yv := by
      cases y <;> first
        | (simp [okPart] at ho; done)
        | simpa only [Rep] using hy
    have hc := cells_sound ho hy2
    have hlen := hc.length
    have hc' : RepL E.errT I w (plOf bx ρ) y.cells yv.cells.toList := by
      cases bx with
      | true => exact hc
      | false =>
        rcases hb with hb | hb
        · cases hb
        · exact pureBL_sound hb hc
    obtain ⟨w', h1, h2, h3⟩ := M.storeIn (P := P) (cs := y.cells) (vs := yv.cells.toList) (i := i) (j := j) hm hp rfl hi (by rw [hl']; exact hj) hc'
    refine ⟨w', ?_, h2, h3⟩
    subst hxv
    have hsz : yv.cells.size = ts := by rw [← Array.length_toList, ← hlen, hl']
    simp only [Instr.storeAt, Instr.sureAddr, Sem.run_bind, Sem.run_pure, Result.andThen_ok, storeVar, tg.run_sizeOf]
    rw [if_neg (by simp [hsz])]
    exact h1
  unfold sop at hs
  split at hs
  · rename_i desc ts tb z id' j ht
    split at hs
    · rename_i e sz n f st bx hm
      split at hs
      · rename_i c1 c2 c3 c4
        have hst : st = 0 := Nat.eq_of_beq_eq_true c1
        subst hst
        simp only [Rep, Rep2, Rep1] at hx
        obtain ⟨g, cap, sz', n', hp, hxv⟩ := hx
        obtain ⟨q1, q2, _, _⟩ := M.sz hp hm
        simp only at q1 q2
        subst q1; subst q2
        have c2' : 0 < n' := by simpa using c2
        have c3' : j + ts ≤ sz' := by simpa using c3
        split at hs
        · cases hs
        · rename_i hb
          simp only [Option.some.injEq, Prod.mk.injEq] at hs
          obtain ⟨rfl, rfl⟩ := hs
          exact main ht hm hp c2' c3' c4 (orB hb) (by simpa using hxv)
      · cases hs
    · cases hs
  · rename_i desc ts tb z id' i j k ht
    split at hs
    · rename_i e sz n f st bx hm
      split at hs
      · rename_i c1 c2 c3
        have hst : st = 0 := Nat.eq_of_beq_eq_true c1
        subst hst
        simp only [Rep, Rep2, Rep1] at hx
        obtain ⟨g, cap, sz', n', hp, hi, hj, hxv⟩ := hx
        obtain ⟨q1, q2, _, _⟩ := M.sz hp hm
        simp only at q1 q2
        subst q1; subst q2
        have c2' : ts ≤ k := by simpa using c2
        split at hs
        · cases hs
        · rename_i hb
          simp only [Option.some.injEq, Prod.mk.injEq] at hs
          obtain ⟨rfl, rfl⟩ := hs
          exact main ht hm hp hi (by omega) c3 (orB hb) hxv
      · cases hs
    · cases hs
  · cases hs
end Go.Proofs.Ytbhbjmneglkgnaa.AI
