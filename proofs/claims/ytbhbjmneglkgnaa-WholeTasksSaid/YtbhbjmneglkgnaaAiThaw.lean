/- Environments with calls in the caller's rows; a row that nothing names is thawed. Conditions: none. -/
import Derived.Test.YtbhbjmneglkgnaaAiInl
namespace Go.Proofs.Ytbhbjmneglkgnaa.AI
open Go Go.RowKit

def lookI : List (Nat × InlT) → FuncId → Option InlT
  | [], _ => none
  | (k, g) :: r, f => match Nat.beq k f with
    | true => some g
    | false => lookI r f
def envI (T : TypeId) (tabs : List (Nat × TD)) (specs : List (Nat × Sp)) (inls : List (Nat × InlT)) (eat : List Nat := []) : Env := { tab := lookT tabs, spec := lookS specs, errT := T, inl := lookI inls, eat := eat }

variable {P : Program} {T : TypeId} {tabs : List (Nat × TD)} {specs : List (Nat × Sp)} {inls : List (Nat × InlT)} {eat : List Nat}
theorem inlOK_nil : InlOK P (envI T tabs specs [] eat) := fun _ _ h => by cases h
theorem inlOK_cons {f : FuncId} {g : InlT} (h : InlEnt P T f g) (hr : InlOK P (envI T tabs specs inls eat)) : InlOK P (envI T tabs specs ((f, g) :: inls) eat) := by
  intro f' g' hg
  simp only [envI, lookI] at hg
  split at hg
  · rename_i hb
    have e := Nat.eq_of_beq_eq_true hb
    subst e
    injection hg with hg
    subst hg
    exact ⟨h.call, h.ok⟩
  · exact hr f' g' hg
theorem fn_ofI (h : (tabs.all fun p => tdOK P p.1 p.2) = true) (sp : SpecOK P (env T tabs specs)) (il : InlOK P (envI T tabs specs inls eat)) (hm : P.follows .mixedOrders = true) {f : FuncId} {fn : Func} {args : List AV} {r : AV}
    (hf : P.funcs[f]? = some fn) (hb : fnB fn args.length = true) (he : evFnF (envI T tabs specs inls eat) fn args (fun r' => AVle T r' r)) : FnOK P T f args r := by
  unfold fnB at hb
  split at hb
  · rename_i c hc
    simp only [Bool.and_eq_true] at hb
    exact fnOK_of_ev (E := envI T tabs specs inls eat) (tabOK_of (T := T) (specs := specs) h) rfl sp il hm hf hc hb.1 (by simpa using hb.2) (by rw [← evFnF_eq]; exact he)
  · cases hb
def fnI (fn : Func) : Bool := match fn.body with
  | some c => codeOK fn.ntmps c
  | none => false
theorem inl_of (h : (tabs.all fun p => tdOK P p.1 p.2) = true) (sp : SpecOK P (env T tabs specs)) (il : InlOK P (envI T tabs specs inls eat)) (hm : P.follows .mixedOrders = true) {f : FuncId} {fn : Func}
    (hf : P.funcs[f]? = some fn) (hcb : callB fn = true) (hb : fnI fn = true) : InlEnt P T f (evInl (envI T tabs specs inls eat) fn) := by
  unfold fnI at hb
  split at hb
  · rename_i c hc
    exact inl_of_ev (E := envI T tabs specs inls eat) (tabOK_of (T := T) (specs := specs) h) sp il hm hf hc (callable_of hf hcb) hb
  · cases hb

/-- A value that refers to nothing frozen. -/
def noRef : AV → Bool
  | .sl _ _ _ => false
  | .iref _ _ => false
  | .clo _ _ _ => false
  | .agg _ => false
  | .tup _ => false
  | .qs _ _ _ => false
  | _ => true
theorem rep1_noRef {v : AV} (h : noRef v = true) {I I' : Nat → Nat → Prop} {w : World} {ρ : Nat → Place} {x : Value} (hr : Rep1 T I w ρ v x) : Rep1 T I' w ρ v x := by
  cases v <;> first
    | (simp [noRef] at h; done)
    | (simp only [Rep1] at hr ⊢; done)
    | (simp only [Rep1] at hr ⊢; exact hr)
theorem rep_noRef {v : AV} (h : noRef v = true) {I I' : Nat → Nat → Prop} {w : World} {ρ : Nat → Place} {x : Value} (hr : Rep T I w ρ v x) : Rep T I' w ρ v x := by
  cases v <;> first
    | (simp [noRef] at h; done)
    | (simp only [Rep, Rep2, Rep1] at hr ⊢; done)
    | (simp only [Rep, Rep2, Rep1] at hr ⊢; exact hr)
theorem lookV_noRef {tv : List (Nat × AV)} (h : (tv.all fun p => noRef p.2) = true) (i : Nat) : noRef (lookV tv i) = true := by
  induction tv with
  | nil => rfl
  | cons p r ih =>
    obtain ⟨k, v⟩ := p
    simp only [List.all_cons, Bool.and_eq_true] at h
    simp only [lookV]
    split
    · exact h.1
    · exact ih h.2

/-- A row of slices of whole numbers that has been appended to may be stored into again, where nothing else can lie in its block. -/
theorem wk_thaw {E : Env} (hb : E.base = none) {tv : List (Nat × AV)} {id e n : Nat} {f : Nat → Nat → AV} {rest : List (Nat × Row)} (ht : (tv.all fun p => noRef p.2) = true) (hn : 0 < n)
    (hrest : ∀ id' r', id' ≠ id → lookR rest id' = some r' → r'.st = 0 ∧ ∀ i j, i < r'.n → j < r'.sz → noRef (r'.f i j) = true)
    (hf : ∀ i, i < n → ∃ m h, f i 0 = .sl 1 m h ∧ ∀ k, k < m → ∃ z, h k 0 = .int .i64 z) :
    Wk E (mkSt tv ((id, ⟨e, 1, n, f, 1, false⟩) :: rest)) (mkSt tv ((id, ⟨e, 1, n, f, 0, false⟩) :: rest)) := by
  rintro N B w0 I0 a w ⟨ρ, I, M, htm, hs, hd⟩
  have m0 : lookR ((id, ⟨e, 1, n, f, 1, false⟩) :: rest) id = some ⟨e, 1, n, f, 1, false⟩ := by simp [lookR]
  have m1 : lookR ((id, ⟨e, 1, n, f, 0, false⟩) :: rest) id = some ⟨e, 1, n, f, 0, false⟩ := by simp [lookR]
  have mo : ∀ id' (r r' : Row), id' ≠ id → lookR ((id, r) :: rest) id' = lookR ((id, r') :: rest) id' := fun id' r r' h => by
    have : Nat.beq id id' = false := by
      cases hq : Nat.beq id id'
      · rfl
      · exact absurd (Nat.eq_of_beq_eq_true hq).symm h
    simp [lookR, this]
  have mr : ∀ id' (r r' : Row), id' ≠ id → lookR ((id, r) :: rest) id' = some r' → r'.st = 0 ∧ ∀ i j, i < r'.n → j < r'.sz → noRef (r'.f i j) = true := fun id' r r' h hl => by
    have : Nat.beq id id' = false := by
      cases hq : Nat.beq id id'
      · rfl
      · exact absurd (Nat.eq_of_beq_eq_true hq).symm h
    simp only [lookR, this] at hl
    exact hrest id' r' h hl
  have hR := M.rows id _ m0
  cases hp : ρ id with
  | no => rw [hp] at hR; exact hR.elim
  | nil sz => rw [hp] at hR; exact absurd hR.2 (by show ¬ n = 0; omega)
  | «at» g cap sz n' =>
    rw [hp] at hR
    obtain ⟨z1, z2, z3, z4, z5, ⟨arr, ha, hsz, hc⟩, _, z8⟩ := hR
    have z1 : sz = 1 := z1
    have z2 : n' = n := z2
    have z8 : (1 : Nat) = 1 → ∀ k, I g k → k < n' * sz := z8
    subst z1 z2
    have hlt : ∀ k, I g k → k < n' := fun k hk => by have := z8 rfl k hk; omega
    have hI0 : ∀ b k, I0 b k → b ≠ g := fun b k h he => by have := hd.i b k h; omega
    refine ⟨ρ, fun b k => I b k ∧ b ≠ g, ?_, fun i => rep_noRef (lookV_noRef ht i) (htm i), hs, ⟨hd.d, by unfold Gh; rw [hb]; trivial, hd.i⟩⟩
    refine MRel.mk (fun id' h => ?_) (fun id' r' h => ?_) (fun id1 id2 r1 r2 g1 c1 s1 n1 c2 s2 n2 hne h1 h2 h3 h4 h5 => ?_) (fun b k h => M.ilt b k h.1) (fun b k h => ⟨M.i0 b k h, hI0 b k h⟩) (fun b k h => M.inew b k h.1) M.below M.hB
    · have h : lookR ((id, ⟨e, 1, n', f, 0, false⟩) :: rest) id' = none := h
      by_cases hid : id' = id
      · subst hid; rw [m1] at h; cases h
      · exact M.dom id' (by show lookR _ id' = none; rw [mo id' _ ⟨e, 1, n', f, 0, false⟩ hid]; exact h)
    · have h : lookR ((id, ⟨e, 1, n', f, 0, false⟩) :: rest) id' = some r' := h
      by_cases hid : id' = id
      · subst hid
        rw [m1] at h
        injection h with h
        subst h
        rw [hp]
        refine ⟨rfl, rfl, z3, z4, z5, ⟨arr, ha, hsz, fun i j hi hj => ?_⟩, fun _ k hk => hk.2 rfl, fun h => by cases h⟩
        have : j = 0 := by omega
        subst this
        obtain ⟨c, q1, q2, q3⟩ := hc i 0 hi hj
        refine ⟨c, q1, q2, ?_⟩
        obtain ⟨m, h, he, hz⟩ := hf i hi
        show Rep1 E.errT _ w noPl (f i 0) c
        have q3 : Rep1 E.errT I w noPl (f i 0) c := q3
        rw [he] at q3 ⊢
        simp only [Rep1] at q3 ⊢
        obtain ⟨ad, cp, rfl, y1, y2, y3⟩ := q3
        refine ⟨ad, cp, rfl, y1, y2, fun hm => ?_⟩
        obtain ⟨b, o, had, hcell⟩ := y3 hm
        have hbg : b ≠ g := by
          intro hbg
          subst hbg
          obtain ⟨hI, c', e1, _, e3⟩ := hcell 0 0 hm (by omega)
          obtain ⟨z, hz0⟩ := hz 0 hm
          rw [hz0] at e3
          simp only [Rep1] at e3
          have hk := hlt _ hI
          obtain ⟨c2, p1, _, p3⟩ := hc (o + (0 * 1 + 0)) 0 hk (by omega)
          obtain ⟨m2, h2, he2, _⟩ := hf (o + (0 * 1 + 0)) hk
          have p3 : Rep1 E.errT I w noPl (f (o + (0 * 1 + 0)) 0) c2 := p3
          rw [he2] at p3
          simp only [Rep1] at p3
          obtain ⟨_, _, rfl, _⟩ := p3
          rw [cell_of ha] at e1
          rw [show (o + (0 * 1 + 0)) * 1 + 0 = o + (0 * 1 + 0) by omega] at p1
          rw [p1] at e1
          injection e1 with e1
          rw [e3] at e1
          cases e1
        refine ⟨b, o, had, fun i j hi hj => ?_⟩
        obtain ⟨hI, c', e1, e2, e3⟩ := hcell i j hi hj
        refine ⟨⟨hI, hbg⟩, c', e1, e2, ?_⟩
        have : j = 0 := by omega
        subst this
        obtain ⟨z, hz0⟩ := hz i hi
        rw [hz0] at e3 ⊢
        simpa only [Rep1] using e3
      · obtain ⟨hst, hnr⟩ := mr id' _ r' hid h
        have h0 : lookR ((id, ⟨e, 1, n', f, 1, false⟩) :: rest) id' = some r' := by rw [mo id' _ ⟨e, 1, n', f, 0, false⟩ hid]; exact h
        have hR' := M.rows id' r' h0
        cases hp' : ρ id' with
        | no => rw [hp'] at hR'; exact hR'
        | nil sz => rw [hp'] at hR'; exact hR'
        | «at» g2 cap2 sz2 n2 =>
          rw [hp'] at hR'
          obtain ⟨w1, w2, w3, w4, w5, ⟨arr2, ha2, hs2, hc2⟩, w7, w8⟩ := hR'
          refine ⟨w1, w2, w3, w4, w5, ⟨arr2, ha2, hs2, fun i j hi hj => ?_⟩, fun hz k hk => w7 hz k hk.1, fun hz k hk => w8 hz k hk.1⟩
          obtain ⟨c, q1, q2, q3⟩ := hc2 i j hi hj
          exact ⟨c, q1, q2, rep1_noRef (hnr i j (by omega) (by omega)) q3⟩
    · have h1 : lookR ((id, ⟨e, 1, n', f, 0, false⟩) :: rest) id1 = some r1 := h1
      have h2 : lookR ((id, ⟨e, 1, n', f, 0, false⟩) :: rest) id2 = some r2 := h2
      exfalso
      by_cases e1 : id1 = id
      · subst e1
        have hne2 : id2 ≠ id1 := fun h => hne h.symm
        obtain ⟨hst2, _⟩ := mr id2 _ r2 hne2 h2
        have h2' : lookR ((id1, ⟨e, 1, n', f, 1, false⟩) :: rest) id2 = some r2 := by rw [mo id2 _ ⟨e, 1, n', f, 0, false⟩ hne2]; exact h2
        obtain ⟨_, q, _⟩ := M.excl id1 id2 _ r2 g1 c1 s1 n1 c2 s2 n2 hne m0 h2' h3 h4 (show (1 : Nat) ≠ 2 by decide)
        omega
      · obtain ⟨hst1, _⟩ := mr id1 _ r1 e1 h1
        have h1' : lookR ((id, ⟨e, 1, n', f, 1, false⟩) :: rest) id1 = some r1 := by rw [mo id1 _ ⟨e, 1, n', f, 0, false⟩ e1]; exact h1
        have h2' : ∃ r2', lookR ((id, ⟨e, 1, n', f, 1, false⟩) :: rest) id2 = some r2' := by
          by_cases e2 : id2 = id
          · subst e2; exact ⟨_, m0⟩
          · exact ⟨r2, by rw [mo id2 _ ⟨e, 1, n', f, 0, false⟩ e2]; exact h2⟩
        obtain ⟨r2', h2'⟩ := h2'
        obtain ⟨q, _, _⟩ := M.excl id1 id2 r1 r2' g1 c1 s1 n1 c2 s2 n2 hne h1' h2' h3 h4 h5
        omega
end Go.Proofs.Ytbhbjmneglkgnaa.AI
