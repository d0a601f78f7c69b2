/- What is known, weakened: slots forgotten, rows under new names. Conditions: none. -/
import Derived.Test.YtbhbjmneglkgnaaAiUse
namespace Go.Proofs.Ytbhbjmneglkgnaa.AI
open Go

def lookO : List (Nat × Option Nat) → Nat → Option (Option Nat)
  | [], _ => none
  | (k, v) :: r, t => match Nat.beq k t with
    | true => some v
    | false => lookO r t
/-- The row that 'id' was. -/
def srcE (ss : List (Nat × Option Nat)) (rv : List (Nat × Row)) (id : Nat) : Option (Option Nat) := match lookR rv id with
  | some _ => lookO ss id
  | none => none

def Ren (s : Nat → Option (Option Nat)) (v : AV) : AV → Prop
  | .bad => True
  | .qs id n f => match s id with
    | some (some k) => ∃ f0, v = .qs k n f0 ∧ ∀ i, i < n → f0 i 0 = f i 0
    | some none => v = .nilS ∧ n = 0
    | none => False
  | .own id n => match s id with
    | some (some k) => v = .own k n
    | some none => v = .nilS ∧ n = 0
    | none => False
  | .loc id j => match s id with
    | some (some k) => v = .loc k j
    | _ => False
  | .elt id i j w => match s id with
    | some (some k) => v = .elt k i j w
    | _ => False
  | v' => v = v' ∧ idFree v' = true
def RenT (s : Nat → Option (Option Nat)) (σ : St) : List (Nat × AV) → Prop
  | [] => True
  | (t, v) :: r => Ren s (σ.t t) v ∧ RenT s σ r
/-- A cell of a row. -/
def RenC (s : Nat → Option (Option Nat)) (v v' : AV) : Bool → Prop
  | true => Ren s v v'
  | false => v' = .bad ∨ v' = v
def stB (a b : Nat) : Bool := Nat.beq a b || (Nat.beq a 0 && Nat.beq b 1)
/-- A row whose cells name none may come to name some, where it may be stored into. -/
def bxB (st : Nat) (a b : Bool) : Bool := match a, b with
  | false, true => Nat.beq st 0
  | true, false => false
  | _, _ => true
theorem bxB_eq {st : Nat} {a b : Bool} (h : bxB st a b = true) : b = a ∨ (a = false ∧ b = true ∧ st = 0) := by
  cases a <;> cases b <;> simp [bxB] at h ⊢
  exact h
structure RowLe (s : Nat → Option (Option Nat)) (row row' : Row) : Prop where
  e : row'.e = row.e
  sz : row'.sz = row.sz
  n : row'.n = row.n
  bx : bxB row.st row.bx row'.bx = true
  st : stB row.st row'.st = true
  f : ∀ i j, i < row.n → j < row.sz → RenC s (row.f i j) (row'.f i j) row'.bx
def RenRow (s : Nat → Option (Option Nat)) (σ : St) (id : Nat) (row' : Row) : Prop := match s id with
  | some (some k) => match σ.m k with
    | some row => RowLe s row row'
    | none => False
  | some none => row'.n = 0 ∧ Nat.ble row'.st 1 = true ∧ row'.bx = false
  | none => False
def RenR (s : Nat → Option (Option Nat)) (σ : St) : List (Nat × Row) → Prop
  | [] => True
  | (id, row) :: r => RenRow s σ id row ∧ RenR s σ r
def injB : List (Nat × Option Nat) → Bool
  | [] => true
  | (k, s) :: r => (r.all fun p => !Nat.beq p.1 k && (match s, p.2 with | some x, some y => !Nat.beq x y | _, _ => true)) && injB r

variable {T : TypeId} {I : Nat → Nat → Prop} {w : World} {ρ : Nat → Place}

/-- The places under the new names. -/
def plE (ss : List (Nat × Option Nat)) (rv : List (Nat × Row)) (ρ : Nat → Place) (id : Nat) : Place := match lookR rv id with
  | some row => match lookO ss id with
    | some (some k) => ρ k
    | some none => .nil row.sz
    | none => .no
  | none => .no

theorem ren1 {ss : List (Nat × Option Nat)} {rv : List (Nat × Row)} : ∀ (v' v : AV) (x : Value), Ren (srcE ss rv) v v' → Rep T I w ρ v x → Rep T I w (plE ss rv ρ) v' x
  | .bad, _, _, _, _ => by simp [Rep, Rep2, Rep1]
  | .qs id n f, v, x, h, hr => by
    simp only [Ren, srcE] at h
    simp only [Rep, Rep2, Rep1, plE]
    cases h1 : lookR rv id with
    | none => simp [h1] at h
    | some row =>
      simp only [h1] at h
      cases h2 : lookO ss id with
      | none => simp [h2] at h
      | some o =>
        cases o with
        | none =>
          simp only [h2] at h
          obtain ⟨rfl, rfl⟩ := h
          simp only [Rep, Rep2, Rep1] at hr
          exact .inr ⟨row.sz, rfl, rfl, hr⟩
        | some k =>
          simp only [h2] at h
          obtain ⟨f0, rfl, hf⟩ := h
          simp only [Rep, Rep2, Rep1] at hr
          rcases hr with ⟨g, cap, e, hp, q1, q2, q3, y, hv, hy, hz⟩ | hr
          · refine .inl ⟨g, cap, e, hp, q1, q2, q3, y, hv, hy, fun i hi => ?_⟩
            rw [← hf i hi]
            exact hz i hi
          · exact .inr hr
  | .own id n, v, x, h, hr => by
    simp only [Ren, srcE] at h
    simp only [Rep, Rep2, Rep1, plE]
    cases h1 : lookR rv id with
    | none => simp [h1] at h
    | some row =>
      simp only [h1] at h
      cases h2 : lookO ss id with
      | none => simp [h2] at h
      | some o =>
        cases o with
        | none =>
          simp only [h2] at h
          obtain ⟨rfl, rfl⟩ := h
          simp only [Rep, Rep2, Rep1] at hr
          exact .inr ⟨row.sz, rfl, rfl, hr⟩
        | some k =>
          simp only [h2] at h
          subst h
          simpa only [Rep, Rep2, Rep1] using hr
  | .loc id j, v, x, h, hr => by
    simp only [Ren, srcE] at h
    simp only [Rep, Rep2, Rep1, plE]
    cases h1 : lookR rv id with
    | none => simp [h1] at h
    | some row =>
      simp only [h1] at h
      cases h2 : lookO ss id with
      | none => simp [h2] at h
      | some o =>
        cases o with
        | none => simp [h2] at h
        | some k =>
          simp only [h2] at h
          subst h
          simpa only [Rep, Rep2, Rep1] using hr
  | .elt id i j k', v, x, h, hr => by
    simp only [Ren, srcE] at h
    simp only [Rep, Rep2, Rep1, plE]
    cases h1 : lookR rv id with
    | none => simp [h1] at h
    | some row =>
      simp only [h1] at h
      cases h2 : lookO ss id with
      | none => simp [h2] at h
      | some o =>
        cases o with
        | none => simp [h2] at h
        | some k =>
          simp only [h2] at h
          subst h
          simpa only [Rep, Rep2, Rep1] using hr
  | .int _ _, _, x, h, hr => by obtain ⟨rfl, h⟩ := h; exact rep_free _ x h hr
  | .bit _, _, x, h, hr => by obtain ⟨rfl, h⟩ := h; exact rep_free _ x h hr
  | .str _, _, x, h, hr => by obtain ⟨rfl, h⟩ := h; exact rep_free _ x h hr
  | .nilI, _, x, h, hr => by obtain ⟨rfl, h⟩ := h; exact rep_free _ x h hr
  | .err _, _, x, h, hr => by obtain ⟨rfl, h⟩ := h; exact rep_free _ x h hr
  | .nilP, _, x, h, hr => by obtain ⟨rfl, h⟩ := h; exact rep_free _ x h hr
  | .nilS, _, x, h, hr => by obtain ⟨rfl, h⟩ := h; exact rep_free _ x h hr
  | .nilF, _, x, h, hr => by obtain ⟨rfl, h⟩ := h; exact rep_free _ x h hr
  | .clo _ _ _, _, x, h, hr => by obtain ⟨rfl, h⟩ := h; exact rep_free _ x h hr
  | .sl _ _ _, _, x, h, hr => by obtain ⟨rfl, h⟩ := h; exact rep_free _ x h hr
  | .iref _ _, _, x, h, hr => by obtain ⟨rfl, h⟩ := h; exact rep_free _ x h hr
  | .agg _, _, x, h, hr => by obtain ⟨rfl, h⟩ := h; exact rep_free _ x h hr
  | .tup _, _, x, h, hr => by obtain ⟨rfl, h⟩ := h; exact rep_free _ x h hr

theorem ren11 {ss : List (Nat × Option Nat)} {rv : List (Nat × Row)} {v' v : AV} {x : Value} (h : Ren (srcE ss rv) v v') (hr : Rep1 T I w ρ v x) : Rep1 T I w (plE ss rv ρ) v' x := by
  have := ren1 v' v x h (Rep.of1 hr)
  cases v'
  case agg => obtain ⟨rfl, _⟩ := h; simp [Rep1] at hr
  case tup => obtain ⟨rfl, _⟩ := h; simp [Rep1] at hr
  all_goals simpa only [Rep, Rep2] using this

theorem renT_at {s : Nat → Option (Option Nat)} {σ : St} : ∀ {tv : List (Nat × AV)}, RenT s σ tv → ∀ t, Ren s (σ.t t) (lookV tv t)
  | [], _, t => trivial
  | (k, v) :: r, h, t => by
    simp only [lookV]
    cases hb : Nat.beq k t with
    | true => rw [← Nat.eq_of_beq_eq_true hb]; exact h.1
    | false => exact renT_at h.2 t
theorem renR_at {s : Nat → Option (Option Nat)} {σ : St} : ∀ {rv : List (Nat × Row)}, RenR s σ rv → ∀ id row, lookR rv id = some row → RenRow s σ id row
  | [], _, _, _, hl => by cases hl
  | (k, v) :: r, h, id, row, hl => by
    simp only [lookR] at hl
    cases hb : Nat.beq k id with
    | true =>
      rw [hb] at hl
      cases hl
      rw [← Nat.eq_of_beq_eq_true hb]; exact h.1
    | false =>
      rw [hb] at hl
      exact renR_at h.2 id row hl
theorem lookO_mem : ∀ {ss : List (Nat × Option Nat)} {id : Nat} {o : Option Nat}, lookO ss id = some o → (id, o) ∈ ss
  | [], _, _, h => by cases h
  | (k, v) :: r, id, o, h => by
    simp only [lookO] at h
    cases hb : Nat.beq k id with
    | true =>
      rw [hb] at h
      cases h
      rw [← Nat.eq_of_beq_eq_true hb]; simp
    | false =>
      rw [hb] at h
      exact List.mem_cons_of_mem _ (lookO_mem h)
theorem injB_at : ∀ {ss : List (Nat × Option Nat)}, injB ss = true → ∀ {a b k : Nat}, (a, some k) ∈ ss → (b, some k) ∈ ss → a = b
  | [], _, _, _, _, h, _ => by cases h
  | (c, s) :: r, hi, a, b, k, ha, hb => by
    simp only [injB, Bool.and_eq_true, List.all_eq_true] at hi
    have key : ∀ {x : Nat}, (x, some k) ∈ r → s = some k → False := by
      intro x hx hs
      have := (hi.1 _ hx).2
      simp [hs] at this
    rcases List.mem_cons.1 ha with h1 | h1 <;> rcases List.mem_cons.1 hb with h2 | h2
    · exact (Prod.mk.inj h1).1.trans (Prod.mk.inj h2).1.symm
    · exact (key h2 (Prod.mk.inj h1).2.symm).elim
    · exact (key h1 (Prod.mk.inj h2).2.symm).elim
    · exact injB_at hi.2 h1 h2

/-- The rows that have to stay where they lie do so. -/
def keepOK (keep : List Nat) (ss : List (Nat × Option Nat)) (rv : List (Nat × Row)) : Bool := keep.all fun id => match lookR rv id, lookO ss id with
  | some _, some (some k) => Nat.beq k id
  | _, _ => false
theorem gh_wk {E : Env} {ss : List (Nat × Option Nat)} {rv : List (Nat × Row)} (hk : keepOK E.keep ss rv = true) {ρ : Nat → Place} {I : Nat → Nat → Prop} {w : World} (h : Gh E ρ I w) : Gh E (plE ss rv ρ) I w := by
  unfold Gh at h ⊢
  split at h
  · trivial
  · refine ⟨fun id hm hid => ?_, h.im, h.ce⟩
    simp only [keepOK, List.all_eq_true] at hk
    have := hk id hm
    split at this
    · rename_i row k h1 h2
      have e := Nat.eq_of_beq_eq_true this
      subst e
      rw [show plE ss rv ρ k = ρ k by simp [plE, h1, h2]]
      exact h.pl k hm hid
    · cases this
theorem wk_of {E : Env} {σ : St} (ss : List (Nat × Option Nat)) {tv : List (Nat × AV)} {rv : List (Nat × Row)} (hi : injB ss = true)
    (hT : RenT (srcE ss rv) σ tv) (hR : RenR (srcE ss rv) σ rv) (hkp : keepOK E.keep ss rv = true := by rfl) : Wk E σ (mkSt tv rv) := by
  rintro N B w0 I0 a w ⟨ρ, I, M, ht, hs, hd⟩
  refine ⟨plE ss rv ρ, I, ?_, fun i => ren1 _ _ _ (renT_at hT i) (ht i), hs, ⟨hd.d, gh_wk hkp hd.g, hd.i⟩⟩
  have src : ∀ id row, lookR rv id = some row → (∃ k row0, lookO ss id = some (some k) ∧ plE ss rv ρ id = ρ k ∧ σ.m k = some row0 ∧ RowLe (srcE ss rv) row0 row) ∨
      (lookO ss id = some none ∧ plE ss rv ρ id = .nil row.sz ∧ row.n = 0 ∧ Nat.ble row.st 1 = true ∧ row.bx = false) := by
    intro id row hrow
    have := renR_at hR id row hrow
    unfold RenRow at this
    simp only [srcE, hrow] at this
    cases h2 : lookO ss id with
    | none => simp [h2] at this
    | some o =>
      cases o with
      | none => simp only [h2] at this; exact .inr ⟨rfl, by simp [plE, hrow, h2], this⟩
      | some k =>
        simp only [h2] at this
        cases h3 : σ.m k with
        | none => simp [h3] at this
        | some row0 => simp only [h3] at this; exact .inl ⟨k, row0, rfl, by simp [plE, hrow, h2], h3, this⟩
  refine MRel.mk ?_ ?_ ?_ M.ilt M.i0 M.inew M.below M.hB
  · intro id h
    have h : lookR rv id = none := h
    simp [plE, h]
  · intro id row hrow
    have hrow : lookR rv id = some row := hrow
    rcases src id row hrow with ⟨k, row0, h1, h2, h3, L⟩ | ⟨h1, h2, h3, h4, h5⟩
    · rw [h2]
      have hr := M.rows k row0 h3
      have hst := L.st
      simp only [stB, Bool.or_eq_true, Bool.and_eq_true] at hst
      have hst' : row.st = row0.st ∨ (row0.st = 0 ∧ row.st = 1) := by
        rcases hst with h | ⟨h, h'⟩
        · exact .inl (Nat.eq_of_beq_eq_true h).symm
        · exact .inr ⟨Nat.eq_of_beq_eq_true h, Nat.eq_of_beq_eq_true h'⟩
      cases hp : ρ k with
      | no => rw [hp] at hr; exact hr.elim
      | nil sz =>
        rw [hp] at hr
        obtain ⟨a1, a2⟩ := hr
        exact ⟨by rw [a1, L.sz], by rw [L.n, a2]⟩
      | «at» g cap sz n =>
        rw [hp] at hr
        obtain ⟨a1, a2, a3, a4, a5, ⟨arr, b1, b2, b3⟩, a7, a8⟩ := hr
        refine ⟨by rw [a1, L.sz], by rw [L.n, a2], a3, a4, a5, ⟨arr, by rw [L.e]; exact b1, b2, fun i j hi hj => ?_⟩, ?_, ?_⟩
        · obtain ⟨c, c1, c2, c3⟩ := b3 i j hi hj
          refine ⟨c, c1, c2, ?_⟩
          have hc := L.f i j (by rw [← a2]; exact hi) (by rw [← a1]; exact hj)
          rcases bxB_eq L.bx with hbx | ⟨hb0, hb1, _⟩
          · rw [hbx] at hc ⊢
            cases hbx : row0.bx with
            | true =>
              rw [hbx] at hc c3
              exact ren11 hc c3
            | false =>
              rw [hbx] at hc c3
              rcases hc with hc | hc
              · rw [hc]; simp [Rep1]
              · rw [hc]; exact c3
          · rw [hb1] at hc ⊢
            rw [hb0] at c3
            exact ren11 hc (Rep1.mono ⟨fun _ h => absurd rfl h, fun _ _ h => h, fun _ _ _ => rfl⟩ _ _ c3)
        · intro h0
          rcases hst' with h | ⟨h, h'⟩
          · exact a7 (by rw [← h]; exact h0)
          · rw [h'] at h0; cases h0
        · intro h0 kk hk
          rcases hst' with h | ⟨h, h'⟩
          · exact a8 (by rw [← h]; exact h0) kk hk
          · exact absurd hk (a7 h kk)
    · rw [h2]
      exact ⟨rfl, h3⟩
  · intro id id' row row' g cap sz n cap' sz' n' hne hrow hrow' hp hp' hst
    have hrow : lookR rv id = some row := hrow
    have hrow' : lookR rv id' = some row' := hrow'
    rcases src id row hrow with ⟨k, row0, h1, h2, h3, L⟩ | ⟨h1, h2, h3, h4, h5⟩
    · rcases src id' row' hrow' with ⟨k', row0', h1', h2', h3', L'⟩ | ⟨h1', h2', h3', h4', h5'⟩
      · rw [h2] at hp
        rw [h2'] at hp'
        have hkk : k ≠ k' := by
          intro h
          subst h
          exact hne (injB_at hi (lookO_mem h1) (lookO_mem h1'))
        have stc : ∀ {a b : Row}, RowLe (srcE ss rv) a b → b.st = a.st ∨ (a.st = 0 ∧ b.st = 1) := by
          intro a b L
          have hst := L.st
          simp only [stB, Bool.or_eq_true, Bool.and_eq_true] at hst
          rcases hst with h | ⟨h, h'⟩
          · exact .inl (Nat.eq_of_beq_eq_true h).symm
          · exact .inr ⟨Nat.eq_of_beq_eq_true h, Nat.eq_of_beq_eq_true h'⟩
        have h0 : row0.st ≠ 2 := by
          rcases stc L with h | ⟨h, _⟩
          · rw [← h]; exact hst
          · rw [h]; decide
        obtain ⟨e1, e2, e3⟩ := M.excl k k' row0 row0' g cap sz n cap' sz' n' hkk h3 h3' hp hp' h0
        refine ⟨?_, ?_, e3⟩
        · rcases stc L with h | ⟨h, _⟩
          · rw [h, e1]
          · rw [h] at e1; cases e1
        · rcases stc L' with h | ⟨h, _⟩
          · rw [h, e2]
          · rw [h] at e2; cases e2
      · rw [h2'] at hp'; cases hp'
    · rw [h2] at hp; cases hp

end Go.Proofs.Ytbhbjmneglkgnaa.AI
