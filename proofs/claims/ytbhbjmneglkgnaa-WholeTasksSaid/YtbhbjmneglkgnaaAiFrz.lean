/- The call's own slices, told as values: at a loop's head. Conditions: none. -/
import Derived.Test.YtbhbjmneglkgnaaAiArr
namespace Go.Proofs.Ytbhbjmneglkgnaa.AI
open Go Go.RowKit

variable {T : TypeId} {B : Nat} {w0 : World} {I0 : Nat → Nat → Prop} {ρ : Nat → Place} {I : Nat → Nat → Prop} {m m' : Nat → Option Row} {w : World}

theorem MRel.recell (M : MRel T B w0 I0 ρ I m w)
    (h : ∀ id, (m id = none ∧ m' id = none) ∨ ∃ r f', m id = some r ∧ m' id = some ⟨r.e, r.sz, r.n, f', r.st, r.bx⟩ ∧ ∀ i j c, Rep1 T I w (plOf r.bx ρ) (r.f i j) c → Rep1 T I w (plOf r.bx ρ) (f' i j) c) : MRel T B w0 I0 ρ I m' w := by
  have some' : ∀ id r', m' id = some r' → ∃ r f', m id = some r ∧ r' = ⟨r.e, r.sz, r.n, f', r.st, r.bx⟩ ∧ ∀ i j c, Rep1 T I w (plOf r.bx ρ) (r.f i j) c → Rep1 T I w (plOf r.bx ρ) (f' i j) c := by
    intro id r' hr'
    rcases h id with ⟨_, h2⟩ | ⟨r, f', h1, h2, h3⟩
    · rw [h2] at hr'; cases hr'
    · rw [h2] at hr'
      exact ⟨r, f', h1, (Option.some.inj hr').symm, h3⟩
  refine ⟨fun id hn => ?_, fun id r' hr' => ?_, fun id id' r1 r2 g cap sz n cap' sz' n' hne h1 h2 h3 h4 h5 => ?_, M.ilt, M.i0, M.inew, M.below, M.hB⟩
  · rcases h id with ⟨h1, _⟩ | ⟨r, f', h1, h2, _⟩
    · exact M.dom id h1
    · rw [h2] at hn; cases hn
  · obtain ⟨r, f', h1, rfl, h3⟩ := some' id r' hr'
    have hR := M.rows id r h1
    cases hp : ρ id with
    | no => rw [hp] at hR; exact hR.elim
    | nil sz => rw [hp] at hR; exact hR
    | «at» g cap sz n =>
      rw [hp] at hR
      obtain ⟨a1, a2, a3, a4, a5, ⟨arr, b1, b2, b3⟩, a7, a8⟩ := hR
      refine ⟨a1, a2, a3, a4, a5, ⟨arr, b1, b2, fun i j hi hj => ?_⟩, a7, a8⟩
      obtain ⟨c, c1, c2, c3⟩ := b3 i j hi hj
      exact ⟨c, c1, c2, h3 i j c c3⟩
  · obtain ⟨q1, f1, g1, rfl, _⟩ := some' id r1 h1
    obtain ⟨q2, f2, g2, rfl, _⟩ := some' id' r2 h2
    exact M.excl id id' q1 q2 g cap sz n cap' sz' n' hne g1 g2 h3 h4 h5

def inL : List Nat → Nat → Bool
  | [], _ => false
  | a :: r, id => match Nat.beq a id with
    | true => true
    | false => inL r id
def pureIf (fl : List Nat) (m : Nat → Option Row) : AV → AV
  | .own id n => match inL fl id with
    | true => pure1 m (.own id n)
    | false => .own id n
  | v => v
def frzSt (fl : List Nat) (σ : St) : St := ⟨fun t => pureIf2 (σ.t t), fun id => match σ.m id with
  | some ⟨e, sz, n, f, st, true⟩ => some ⟨e, sz, n, fun i j => pureIf fl σ.m (f i j), fzB (inL fl) id st, true⟩
  | some ⟨e, sz, n, f, st, false⟩ => some ⟨e, sz, n, f, fzB (inL fl) id st, false⟩
  | none => none⟩
where pureIf2 : AV → AV := fun v => pureIf fl σ.m v

theorem pureIf_sound {fl : List Nat} (M : MRel T B w0 I0 ρ (frzI ρ (inL fl) I) m w) {v : AV} {x : Value} (h : Rep1 T (frzI ρ (inL fl) I) w ρ v x) : Rep1 T (frzI ρ (inL fl) I) w ρ (pureIf fl m v) x := by
  unfold pureIf
  split
  · rename_i id n
    split
    · rename_i hin
      have h1 := pure1_sound M (inL fl) (.own id n) x (fun i hi => by
        have : id = i := Nat.eq_of_beq_eq_true (by simpa [hasId] using hi)
        rw [← this]; exact hin) h
      have X : Ext noPl (frzI ρ (inL fl) (frzI ρ (inL fl) I)) w ρ (frzI ρ (inL fl) I) w := ⟨fun _ hn => absurd rfl hn, fun b k hk => by
        rcases hk with hk | hk
        · exact hk
        · exact .inr hk, fun _ _ _ => rfl⟩
      exact Rep1.mono X _ _ h1
    · exact h
  · exact h
theorem pureIf_core {fl : List Nat} (h : ∀ id, CoreEq m m' id) (v : AV) : pureIf fl m v = pureIf fl m' v := by
  unfold pureIf
  split
  · split
    · exact pure1_core _ fun id _ => h id
    · rfl
  · rfl
theorem wk_fz {E : Env} {σ τ : St} (fl : List Nat) (h : Wk E (frzSt fl σ) τ) : Wk E σ τ := by
  intro N B w0 I0 a w hr
  refine h N B w0 I0 a w ?_
  obtain ⟨ρ, I, M, ht, hs, hd⟩ := hr
  have M' := M.frz 0 (inL fl)
  have core : ∀ id, CoreEq (effM σ.m 0 none (fzB (inL fl))) σ.m id := by
    intro id
    rw [CoreEq, effM_none]
    cases hm : σ.m id with
    | none => exact .inl ⟨rfl, rfl⟩
    | some r => exact .inr ⟨_, _, _, _, _, _, _, rfl, rfl⟩
  have X : Ext ρ I w ρ (frzI ρ (inL fl) I) w := Ext.frz _
  refine ⟨ρ, frzI ρ (inL fl) I, ?_, fun i => ?_, hs, hd.mono X rfl⟩
  · refine M'.recell fun id => ?_
    cases hm : σ.m id with
    | none => exact .inl ⟨by rw [effM_none, hm]; rfl, by simp only [frzSt, hm]⟩
    | some r =>
      obtain ⟨e, sz, n, f, st, bx⟩ := r
      cases bx with
      | true =>
        refine .inr ⟨_, fun i j => pureIf fl σ.m (f i j), by rw [effM_none, hm]; rfl, by simp only [frzSt, hm], fun i j c hc => ?_⟩
        show Rep1 E.errT (frzI ρ (inL fl) I) w ρ (pureIf fl σ.m (f i j)) c
        rw [← pureIf_core core (f i j)]
        exact pureIf_sound M' hc
      | false =>
        exact .inr ⟨_, f, by rw [effM_none, hm]; rfl, by simp only [frzSt, hm], fun i j c hc => hc⟩
  · have hi := Rep.mono X _ _ (ht i)
    show Rep E.errT (frzI ρ (inL fl) I) w ρ (pureIf fl σ.m (σ.t i)) _
    generalize σ.t i = v at hi
    cases v
    case own id n =>
      rw [← pureIf_core core]
      have h1 : Rep1 E.errT (frzI ρ (inL fl) I) w ρ (.own id n) (a.tmps.getD i undef) := by simpa only [Rep, Rep2] using hi
      exact Rep.of1 (pureIf_sound M' h1)
    all_goals exact hi
end Go.Proofs.Ytbhbjmneglkgnaa.AI
