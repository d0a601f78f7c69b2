/- append to a row of the call's own. Conditions: none. -/
import Derived.Test.YtbhbjmneglkgnaaAiNew
import Derived.Laws.AppendOwn
namespace Go.Proofs.Ytbhbjmneglkgnaa.AI
open Go Go.RowKit

variable {P : Program} {E : Env} {T : TypeId} {B : Nat} {w0 : World} {I0 : Nat → Nat → Prop} {ρ ρ' : Nat → Place} {I I' : Nat → Nat → Prop} {m : Nat → Option Row} {w w' : World}

theorem below_drew (w : World) : Below w.heap.size w w.drew := (Below.refl _ _).drew

/-- One row is read alone from here on. -/
theorem MRel.raise (M : MRel T B w0 I0 ρ I m w) (d r : Nat) : MRel T B w0 I0 ρ I (effM m d none (fzApp r)) w := by
  have hst : ∀ id s, fzApp r id s = s ∨ fzApp r id s = 2 := fun id s => by
    unfold fzApp; split <;> simp
  refine ⟨fun id h => ?_, fun id r' hr' => ?_, fun id id' r1 r2 g cap sz n cap' sz' n' hne h1 h2 h3 h4 h5 => ?_, M.ilt, M.i0, M.inew, M.below, M.hB⟩
  · rw [effM_none] at h
    exact M.dom id (by simpa using h)
  · rw [effM_none] at hr'
    cases hm : m id with
    | none => simp [hm] at hr'
    | some q =>
      simp [hm] at hr'
      subst hr'
      have h := M.rows id q hm
      cases hp : ρ id with
      | no => rw [hp] at h; exact h
      | nil sz =>
        rw [hp] at h
        exact ⟨h.1, h.2⟩
      | «at» g cap sz n =>
        rw [hp] at h
        obtain ⟨h1, h2, h3, h4, h5, h6, h7, h8⟩ := h
        refine ⟨h1, h2, h3, h4, h5, h6, fun h0 => ?_, fun h0 => ?_⟩
        · rcases hst id q.st with e | e
          · exact h7 (e ▸ h0)
          · have h0' : fzApp r id q.st = 0 := h0
            rw [e] at h0'; cases h0'
        · rcases hst id q.st with e | e
          · exact h8 (e ▸ h0)
          · have h0' : fzApp r id q.st = 1 := h0
            rw [e] at h0'; cases h0'
  · rw [effM_none] at h1 h2
    cases hm : m id with
    | none => simp [hm] at h1
    | some q =>
      cases hm' : m id' with
      | none => simp [hm'] at h2
      | some q' =>
        simp [hm] at h1; simp [hm'] at h2
        subst h1; subst h2
        have h5' : fzApp r id q.st ≠ 2 := h5
        have e : fzApp r id q.st = q.st := by
          rcases hst id q.st with e | e
          · exact e
          · exact absurd e h5'
        obtain ⟨x1, x2, x3⟩ := M.excl id id' q q' g cap sz n cap' sz' n' hne hm hm' h3 h4 (by rw [← e]; exact h5')
        refine ⟨by show fzApp r id q.st = 1; rw [e]; exact x1, ?_, x3⟩
        rcases hst id' q'.st with e' | e'
        · show fzApp r id' q'.st = 2; rw [e']; exact x2
        · exact e'

/-- The end of a row is written, and the row goes on under a new name. -/
theorem MRel.appendIn (M : MRel T B w0 I0 ρ I m w) {d id g cap ts n k : Nat} {q : Row} (hd : m d = none) (hq : m id = some q) (hp : ρ id = .at g cap ts n) (hst : q.st ≤ 1)
    {arr arr' : Array Value} (ha : w.heap[g]? = some (.cells arr q.e (0, 0))) (hsz : arr'.size = arr.size) (hpre : ∀ i, i < n * ts → arr'[i]? = arr[i]?)
    (hos : w'.os = w.os) (htape : w'.tape = w.tape) (hout : w'.output = w.output) (hsize : w'.heap.size = w.heap.size) (hother : ∀ b, b ≠ g → w'.heap[b]? = w.heap[b]?)
    (hg : w'.heap[g]? = some (.cells arr' q.e (0, 0))) (hroom : n + k ≤ cap) {f : Nat → Nat → AV}
    (hc : ∀ i j, i < n + k → j < ts → ∃ c, arr'[i * ts + j]? = some c ∧ c.oneCell' = true ∧ Rep1 T I w noPl (f i j) c) :
    Ext ρ I w (updP ρ d (.at g cap ts (n + k))) I w' ∧ MRel T B w0 I0 (updP ρ d (.at g cap ts (n + k))) I (effM m d (some ⟨q.e, ts, n + k, f, 1, false⟩) (fzApp id)) w' := by
  have hne : id ≠ d := by rintro rfl; rw [hd] at hq; cases hq
  have hrow := M.rows id q hq
  rw [hp] at hrow
  obtain ⟨e1, e2, e3, e4, e5, ⟨arr0, ha0, hs0, hc0⟩, e6, e7⟩ := hrow
  rw [ha] at ha0
  injection ha0 with ha0
  injection ha0 with ha0
  subst ha0
  have hI : ∀ j, I g j → j < n * ts := fun j hj => by
    have : q.st = 0 ∨ q.st = 1 := by omega
    rcases this with h | h
    · exact absurd hj (e6 h j)
    · exact e7 h j hj
  have X1 : Ext ρ I w ρ I w' := ⟨fun _ _ => rfl, fun _ _ h => h, fun b j hb => by
    by_cases hbg : b = g
    · subst hbg
      rw [cell_of hg, cell_of ha]
      exact hpre j (hI j hb)
    · simp [World.cell?, hother b hbg]⟩
  have X2 : Ext ρ I w' (updP ρ d (.at g cap ts (n + k))) I w' := Ext.upd (M.dom d hd)
  have X := X1.trans X2
  have M2 := M.raise d id
  have hv : ∀ x, x ≠ d → updP ρ d (.at g cap ts (n + k)) x = ρ x := fun x h => by simp [updP, h]
  have heff : ∀ x, x ≠ d → effM m d (some ⟨q.e, ts, n + k, f, 1, false⟩) (fzApp id) x = effM m d none (fzApp id) x := fun x h => by
    rw [effM_other m d _ _ h, effM_none]
  refine ⟨X, fun x h => ?_, fun x r' hr' => ?_, fun x x' r1 r2 g1 cap1 sz1 n1 cap2 sz2 n2 hxx h1 h2 h3 h4 h5 => ?_, fun b j h => by rw [hsize]; exact M.ilt b j h, M.i0, M.inew, ?_, by rw [hsize]; exact M.hB⟩
  · by_cases e : x = d
    · subst e; rw [effM_self] at h; cases h
    · rw [heff x e] at h; rw [hv x e]; exact M2.dom x h
  · by_cases e : x = d
    · subst e
      rw [effM_self] at hr'
      cases hr'
      rw [upd_self]
      refine ⟨rfl, rfl, e3, hroom, e5, ⟨arr', hg, by rw [hsz]; exact hs0, fun i j hi hj => ?_⟩, (fun h => by cases h), fun _ j hj => ?_⟩
      · obtain ⟨c, c1, c2, c3⟩ := hc i j hi hj
        exact ⟨c, c1, c2, Rep1.mono (X1.none_) _ _ c3⟩
      · have := hI j hj
        have h2 : n * ts ≤ (n + k) * ts := Nat.mul_le_mul_right _ (by omega)
        omega
    · rw [heff x e] at hr'
      rw [hv x e]
      have h := M2.rows x r' hr'
      cases hpx : ρ x with
      | no => rw [hpx] at h; exact h
      | nil sz => rw [hpx] at h; exact h
      | «at» g1 cap1 sz1 n1 =>
        rw [hpx] at h
        obtain ⟨y1, y2, y3, y4, y5, ⟨arr1, ya, ys, yc⟩, y6, y7⟩ := h
        by_cases hg1 : g1 = g
        · subst hg1
          rw [ha] at ya
          injection ya with ya
          injection ya with ya yb
          subst ya
          refine ⟨y1, y2, y3, y4, y5, ⟨arr', by rw [hg, yb], by rw [hsz]; exact ys, fun i j hi hj => ?_⟩, y6, y7⟩
          obtain ⟨c, c1, c2, c3⟩ := yc i j hi hj
          refine ⟨c, ?_, c2, Rep1.mono (X.plOf _) _ _ c3⟩
          rw [hpre _ ?_]; · exact c1
          have hri := row_index hi hj
          by_cases exi : x = id
          · subst exi
            rw [hp] at hpx; injection hpx with z1 z2 z3 z4
            subst z3; subst z4
            exact hri
          · rw [effM_none] at hr'
            cases hmx : m x with
            | none => simp [hmx] at hr'
            | some qx =>
              obtain ⟨_, _, z⟩ := M.excl id x q qx g1 cap ts n cap1 sz1 n1 (Ne.symm exi) hq hmx hp hpx (by omega)
              omega
        · refine ⟨y1, y2, y3, y4, y5, ⟨arr1, by rw [hother g1 hg1]; exact ya, ys, fun i j hi hj => ?_⟩, y6, y7⟩
          obtain ⟨c, c1, c2, c3⟩ := yc i j hi hj
          exact ⟨c, c1, c2, Rep1.mono (X.plOf _) _ _ c3⟩
  · by_cases e : x = d
    · subst e
      rw [effM_self] at h1
      cases h1
      rw [upd_self] at h3
      injection h3 with z1 z2 z3 z4
      subst z1; subst z3; subst z4
      rw [hv x' (Ne.symm hxx)] at h4
      rw [heff x' (Ne.symm hxx), effM_none] at h2
      have h6 : n * ts ≤ (n + k) * ts := Nat.mul_le_mul_right _ (by omega)
      by_cases exi : x' = id
      · subst exi
        rw [hq] at h2
        simp at h2
        subst h2
        rw [hp] at h4; injection h4 with z1 z2 z3 z4
        subst z3; subst z4
        exact ⟨rfl, by simp [fzApp], h6⟩
      · cases hmx : m x' with
        | none => simp [hmx] at h2
        | some qx =>
          simp [hmx] at h2
          subst h2
          obtain ⟨_, z2, z3⟩ := M.excl id x' q qx g cap ts n cap2 sz2 n2 (Ne.symm exi) hq hmx hp h4 (by omega)
          refine ⟨rfl, ?_, by omega⟩
          have : Nat.beq x' id = false := by
            cases hb : Nat.beq x' id
            · rfl
            · exact absurd (Nat.eq_of_beq_eq_true hb) exi
          simp [fzApp, this, z2]
    · by_cases e' : x' = d
      · subst e'
        rw [upd_self] at h4
        injection h4 with z1 z2 z3 z4
        subst z1; subst z3; subst z4
        rw [hv x e] at h3
        rw [heff x e, effM_none] at h1
        exfalso
        by_cases exi : x = id
        · subst exi
          rw [hq] at h1
          simp at h1
          subst h1
          exact h5 (by simp [fzApp])
        · cases hmx : m x with
          | none => simp [hmx] at h1
          | some qx =>
            simp [hmx] at h1
            subst h1
            have hb : Nat.beq x id = false := by
              cases hb : Nat.beq x id
              · rfl
              · exact absurd (Nat.eq_of_beq_eq_true hb) exi
            have h5' : qx.st ≠ 2 := by simpa [fzApp, hb] using h5
            obtain ⟨_, z2, _⟩ := M.excl x id qx q g cap1 sz1 n1 cap ts n exi hmx hq h3 hp h5'
            omega
      · rw [hv x e] at h3
        rw [hv x' e'] at h4
        rw [heff x e] at h1
        rw [heff x' e'] at h2
        exact M2.excl x x' r1 r2 g1 cap1 sz1 n1 cap2 sz2 n2 hxx h1 h2 h3 h4 h5
  · refine M.below.trans ⟨hos, htape, hout, by rw [hsize]; exact Nat.le_refl _, fun b hb => hother b (by omega)⟩
end Go.Proofs.Ytbhbjmneglkgnaa.AI
