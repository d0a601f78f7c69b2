/- A value told without the call's own rows; a call by its contract. Conditions: none. -/
import Derived.Test.YtbhbjmneglkgnaaAiMem
namespace Go.Proofs.Ytbhbjmneglkgnaa.AI
open Go Go.RowKit

variable {T : TypeId} {B : Nat} {w0 : World} {I0 : Nat → Nat → Prop} {ρ ρ' : Nat → Place} {I I' : Nat → Nat → Prop} {m : Nat → Option Row} {w w' : World}

theorem cell_of {w : World} {g : Nat} {arr : Array Value} {e : TypeId} {fr : Nat × Nat} (h : w.heap[g]? = some (.cells arr e fr)) (k : Nat) : w.cell? ⟨g, k, none⟩ = arr[k]? := by
  simp [World.cell?, h]

theorem pureC_sound {v : AV} {x : Value} (h : Rep1 T I w ρ v x) : Rep1 T I w noPl (pureC v) x := by
  cases v <;> simp only [pureC, Rep1] at h ⊢ <;> exact h
theorem plOf_pureC {b : Bool} {v : AV} {x : Value} (h : Rep1 T I w (plOf b ρ) v x) : Rep1 T I w noPl (pureC v) x := by
  cases b <;> exact pureC_sound h

theorem MRel.cellAt (M : MRel T B w0 I0 ρ I m w) {id g cap sz n : Nat} (hp : ρ id = .at g cap sz n) {r : Row} (hm : m id = some r) {i j : Nat} (hi : i < n) (hj : j < sz) :
    ∃ c, w.cell? ⟨g, i * sz + j, none⟩ = some c ∧ c.oneCell' = true ∧ Rep1 T I w (plOf r.bx ρ) (r.f i j) c := by
  have h := M.rows id r hm
  rw [hp] at h
  obtain ⟨_, _, _, _, _, ⟨arr, ha, _, hc⟩, _⟩ := h
  obtain ⟨c, hc1, hc2, hc3⟩ := hc i j hi hj
  exact ⟨c, by rw [cell_of ha]; exact hc1, hc2, hc3⟩
theorem MRel.sz (M : MRel T B w0 I0 ρ I m w) {id g cap sz n : Nat} (hp : ρ id = .at g cap sz n) {r : Row} (hm : m id = some r) : sz = r.sz ∧ n = r.n ∧ n ≤ cap ∧ cap ≤ maxLen := by
  have h := M.rows id r hm
  rw [hp] at h
  exact ⟨h.1, h.2.1, h.2.2.2.1, h.2.2.2.2.1⟩

theorem row_index {i j n sz : Nat} (hi : i < n) (hj : j < sz) : i * sz + j < n * sz := by
  have : (i + 1) * sz ≤ n * sz := Nat.mul_le_mul_right sz hi
  rw [Nat.add_mul] at this
  omega

theorem noPl_mono (hI : ∀ b k, I b k → I' b k) : Ext noPl I w noPl I' w := ⟨fun _ _ => rfl, hI, fun _ _ _ => rfl⟩

mutual
theorem pure1_sound (M : MRel T B w0 I0 ρ I m w) (fl : Nat → Bool) : ∀ (v : AV) (x : Value), (∀ id, hasId id v = true → fl id = true) → Rep1 T I w ρ v x →
    Rep1 T (frzI ρ fl I) w noPl (pure1 m v) x
  | .qs _ _ _, _, _, _ => by simp [pure1, Rep1]
  | .own id n, x, hf, h => by
    have hfl := hf id (by simp [hasId])
    simp only [pure1]
    split
    · rename_i e sz n' f st hm
      simp only [Rep1] at h ⊢
      rcases h with ⟨g, cap, sz', hp, rfl⟩ | ⟨sz', hp, rfl, rfl⟩
      · obtain ⟨h1, h2, h3, h4⟩ := M.sz hp hm
        simp only at h1 h2
        subst h1
        refine ⟨_, _, rfl, h3, h4, fun hn => ⟨g, 0, rfl, fun i j hi hj => ?_⟩⟩
        obtain ⟨c, hc1, hc2, hc3⟩ := M.cellAt hp hm hi hj
        rw [Nat.zero_add]
        refine ⟨.inr ⟨id, cap, sz', n, hp, hfl, row_index hi hj⟩, c, hc1, hc2, Rep1.mono (noPl_mono fun _ _ h => .inl h) _ _ hc3⟩
      · exact ⟨none, 0, rfl, Nat.le_refl _, Nat.zero_le _, fun h => absurd h (by omega)⟩
    · simp [Rep1]
  | .loc id j, x, hf, h => by
    have hfl := hf id (by simp [hasId])
    simp only [pure1]
    split
    · rename_i e sz n' f st bx hm
      split
      · rename_i h0
        simp only [Rep1] at h ⊢
        obtain ⟨g, cap, sz', n, hp, rfl⟩ := h
        obtain ⟨h1, h2, h3, h4⟩ := M.sz hp hm
        simp only at h1 h2
        subst h1; subst h2
        have h0' : 0 < n := by simpa using h0
        refine ⟨g, j, rfl, fun k hk => ?_⟩
        obtain ⟨c, hc1, hc2, hc3⟩ := M.cellAt hp hm h0' (show j + k < sz' by omega)
        rw [Nat.zero_mul, Nat.zero_add] at hc1
        have hri := row_index h0' (show j + k < sz' by omega)
        rw [Nat.zero_mul, Nat.zero_add] at hri
        exact ⟨.inr ⟨id, cap, sz', n, hp, hfl, hri⟩, c, hc1, hc2, Rep1.mono (noPl_mono fun _ _ h => .inl h) _ _ (plOf_pureC hc3)⟩
      · simp [Rep1]
    · simp [Rep1]
  | .elt id i j k, x, hf, h => by
    have hfl := hf id (by simp [hasId])
    simp only [pure1]
    split
    · rename_i e sz n' f st bx hm
      simp only [Rep1] at h ⊢
      obtain ⟨g, cap, sz', n, hp, hi, hjk, rfl⟩ := h
      obtain ⟨h1, h2, h3, h4⟩ := M.sz hp hm
      simp only at h1 h2
      subst h1; subst h2
      refine ⟨g, i * sz' + j, rfl, fun k' hk => ?_⟩
      obtain ⟨c, hc1, hc2, hc3⟩ := M.cellAt hp hm hi (show j + k' < sz' by omega)
      have hri := row_index hi (show j + k' < sz' by omega)
      rw [← Nat.add_assoc] at hc1 hri
      exact ⟨.inr ⟨id, cap, sz', n, hp, hfl, hri⟩, c, hc1, hc2, Rep1.mono (noPl_mono fun _ _ h => .inl h) _ _ (plOf_pureC hc3)⟩
    · simp [Rep1]
  | .clo f a b, x, hf, h => by
    simp only [pure1, Rep1] at h ⊢
    obtain ⟨xs, ys, hv, h1, h2⟩ := h
    exact ⟨xs, ys, hv, pureM_sound M fl a _ (fun id hid => hf id (by simp [hasId, hid])) h1, pureM_sound M fl b _ (fun id hid => hf id (by simp [hasId, hid])) h2⟩
  | .agg _, _, _, h => by simp only [Rep1] at h
  | .tup _, _, _, h => by simp only [Rep1] at h
  | .bad, _, _, _ => by simp [pure1, Rep1]
  | .int _ _, _, _, h => by simpa [pure1, Rep1] using h
  | .bit _, _, _, h => by simpa [pure1, Rep1] using h
  | .str _, _, _, h => by simpa [pure1, Rep1] using h
  | .nilI, _, _, h => by simpa [pure1, Rep1] using h
  | .err _, _, _, h => by simpa [pure1, Rep1] using h
  | .nilP, _, _, h => by simpa [pure1, Rep1] using h
  | .nilS, _, _, h => by simpa [pure1, Rep1] using h
  | .nilF, _, _, h => by simpa [pure1, Rep1] using h
  | .sl sz n f, x, _, h => by
    have := Rep1.mono (ρ := noPl) (noPl_mono (I' := frzI ρ fl I) fun _ _ h => .inl h) (.sl sz n f) x (by simpa only [Rep1] using h)
    simpa only [pure1] using this
  | .iref k g, x, _, h => by
    have := Rep1.mono (ρ := noPl) (noPl_mono (I' := frzI ρ fl I) fun _ _ h => .inl h) (.iref k g) x (by simpa only [Rep1] using h)
    simpa only [pure1] using this
theorem pureL_sound (M : MRel T B w0 I0 ρ I m w) (fl : Nat → Bool) : ∀ (l : List AV) (xs : List Value), (∀ id, hasIdL id l = true → fl id = true) → RepL T I w ρ l xs →
    RepL T (frzI ρ fl I) w noPl (pureL m l) xs
  | [], [], _, _ => by simp [pureL, RepL]
  | v :: r, x :: s, hf, h => by
    simp only [pureL, RepL] at h ⊢
    exact ⟨⟨h.1.1, pure1_sound M fl v x (fun id hid => hf id (by simp [hasIdL, hid])) h.1.2⟩, pureL_sound M fl r s (fun id hid => hf id (by simp [hasIdL, hid])) h.2⟩
  | [], _ :: _, _, h => by simp only [RepL] at h
  | _ :: _, [], _, h => by simp only [RepL] at h
theorem pureM_sound (M : MRel T B w0 I0 ρ I m w) (fl : Nat → Bool) : ∀ (l : List AV) (xs : List Value), (∀ id, hasIdL id l = true → fl id = true) → RepM T I w ρ l xs →
    RepM T (frzI ρ fl I) w noPl (pureL m l) xs
  | [], [], _, _ => by simp [pureL, RepM]
  | .agg cs :: r, x :: s, hf, h => by
    simp only [RepM] at h
    obtain ⟨⟨arr, hv, h1⟩, h2⟩ := h
    simp only [pureL, pure1, RepM]
    exact ⟨⟨arr, hv, pureL_sound M fl cs _ (fun id hid => hf id (by simp [hasIdL, hasId, hid])) h1⟩, pureM_sound M fl r s (fun id hid => hf id (by simp [hasIdL, hid])) h2⟩
  | .tup vs :: r, x :: s, hf, h => by simp only [RepM, Rep1] at h; exact h.1.elim
  | .bad :: r, x :: s, hf, h => by
    simp only [RepM] at h
    exact (repM_iff _ _).2 ⟨Rep2.of1 (pure1_sound M fl (.bad) x (fun id hid => hf id (by simp only [hasIdL, hid, Bool.true_or])) h.1), (repM_iff _ _).1 (pureM_sound M fl r s (fun id hid => hf id (by simp only [hasIdL, hid, Bool.or_true])) h.2)⟩
  | .int k z :: r, x :: s, hf, h => by
    simp only [RepM] at h
    exact (repM_iff _ _).2 ⟨Rep2.of1 (pure1_sound M fl (.int k z) x (fun id hid => hf id (by simp only [hasIdL, hid, Bool.true_or])) h.1), (repM_iff _ _).1 (pureM_sound M fl r s (fun id hid => hf id (by simp only [hasIdL, hid, Bool.or_true])) h.2)⟩
  | .bit b :: r, x :: s, hf, h => by
    simp only [RepM] at h
    exact (repM_iff _ _).2 ⟨Rep2.of1 (pure1_sound M fl (.bit b) x (fun id hid => hf id (by simp only [hasIdL, hid, Bool.true_or])) h.1), (repM_iff _ _).1 (pureM_sound M fl r s (fun id hid => hf id (by simp only [hasIdL, hid, Bool.or_true])) h.2)⟩
  | .str z :: r, x :: s, hf, h => by
    simp only [RepM] at h
    exact (repM_iff _ _).2 ⟨Rep2.of1 (pure1_sound M fl (.str z) x (fun id hid => hf id (by simp only [hasIdL, hid, Bool.true_or])) h.1), (repM_iff _ _).1 (pureM_sound M fl r s (fun id hid => hf id (by simp only [hasIdL, hid, Bool.or_true])) h.2)⟩
  | .nilI :: r, x :: s, hf, h => by
    simp only [RepM] at h
    exact (repM_iff _ _).2 ⟨Rep2.of1 (pure1_sound M fl (.nilI) x (fun id hid => hf id (by simp only [hasIdL, hid, Bool.true_or])) h.1), (repM_iff _ _).1 (pureM_sound M fl r s (fun id hid => hf id (by simp only [hasIdL, hid, Bool.or_true])) h.2)⟩
  | .err z :: r, x :: s, hf, h => by
    simp only [RepM] at h
    exact (repM_iff _ _).2 ⟨Rep2.of1 (pure1_sound M fl (.err z) x (fun id hid => hf id (by simp only [hasIdL, hid, Bool.true_or])) h.1), (repM_iff _ _).1 (pureM_sound M fl r s (fun id hid => hf id (by simp only [hasIdL, hid, Bool.or_true])) h.2)⟩
  | .nilP :: r, x :: s, hf, h => by
    simp only [RepM] at h
    exact (repM_iff _ _).2 ⟨Rep2.of1 (pure1_sound M fl (.nilP) x (fun id hid => hf id (by simp only [hasIdL, hid, Bool.true_or])) h.1), (repM_iff _ _).1 (pureM_sound M fl r s (fun id hid => hf id (by simp only [hasIdL, hid, Bool.or_true])) h.2)⟩
  | .nilS :: r, x :: s, hf, h => by
    simp only [RepM] at h
    exact (repM_iff _ _).2 ⟨Rep2.of1 (pure1_sound M fl (.nilS) x (fun id hid => hf id (by simp only [hasIdL, hid, Bool.true_or])) h.1), (repM_iff _ _).1 (pureM_sound M fl r s (fun id hid => hf id (by simp only [hasIdL, hid, Bool.or_true])) h.2)⟩
  | .nilF :: r, x :: s, hf, h => by
    simp only [RepM] at h
    exact (repM_iff _ _).2 ⟨Rep2.of1 (pure1_sound M fl (.nilF) x (fun id hid => hf id (by simp only [hasIdL, hid, Bool.true_or])) h.1), (repM_iff _ _).1 (pureM_sound M fl r s (fun id hid => hf id (by simp only [hasIdL, hid, Bool.or_true])) h.2)⟩
  | .clo f a b :: r, x :: s, hf, h => by
    simp only [RepM] at h
    exact (repM_iff _ _).2 ⟨Rep2.of1 (pure1_sound M fl (.clo f a b) x (fun id hid => hf id (by simp only [hasIdL, hid, Bool.true_or])) h.1), (repM_iff _ _).1 (pureM_sound M fl r s (fun id hid => hf id (by simp only [hasIdL, hid, Bool.or_true])) h.2)⟩
  | .sl k n f :: r, x :: s, hf, h => by
    simp only [RepM] at h
    exact (repM_iff _ _).2 ⟨Rep2.of1 (pure1_sound M fl (.sl k n f) x (fun id hid => hf id (by simp only [hasIdL, hid, Bool.true_or])) h.1), (repM_iff _ _).1 (pureM_sound M fl r s (fun id hid => hf id (by simp only [hasIdL, hid, Bool.or_true])) h.2)⟩
  | .iref k g :: r, x :: s, hf, h => by
    simp only [RepM] at h
    exact (repM_iff _ _).2 ⟨Rep2.of1 (pure1_sound M fl (.iref k g) x (fun id hid => hf id (by simp only [hasIdL, hid, Bool.true_or])) h.1), (repM_iff _ _).1 (pureM_sound M fl r s (fun id hid => hf id (by simp only [hasIdL, hid, Bool.or_true])) h.2)⟩
  | .loc i j :: r, x :: s, hf, h => by
    simp only [RepM] at h
    exact (repM_iff _ _).2 ⟨Rep2.of1 (pure1_sound M fl (.loc i j) x (fun id hid => hf id (by simp only [hasIdL, hid, Bool.true_or])) h.1), (repM_iff _ _).1 (pureM_sound M fl r s (fun id hid => hf id (by simp only [hasIdL, hid, Bool.or_true])) h.2)⟩
  | .elt i j k l :: r, x :: s, hf, h => by
    simp only [RepM] at h
    exact (repM_iff _ _).2 ⟨Rep2.of1 (pure1_sound M fl (.elt i j k l) x (fun id hid => hf id (by simp only [hasIdL, hid, Bool.true_or])) h.1), (repM_iff _ _).1 (pureM_sound M fl r s (fun id hid => hf id (by simp only [hasIdL, hid, Bool.or_true])) h.2)⟩
  | .qs i n f :: r, x :: s, hf, h => by
    simp only [RepM] at h
    exact (repM_iff _ _).2 ⟨Rep2.of1 (pure1_sound M fl (.qs i n f) x (fun id hid => hf id (by simp only [hasIdL, hid, Bool.true_or])) h.1), (repM_iff _ _).1 (pureM_sound M fl r s (fun id hid => hf id (by simp only [hasIdL, hid, Bool.or_true])) h.2)⟩
  | .own i n :: r, x :: s, hf, h => by
    simp only [RepM] at h
    exact (repM_iff _ _).2 ⟨Rep2.of1 (pure1_sound M fl (.own i n) x (fun id hid => hf id (by simp only [hasIdL, hid, Bool.true_or])) h.1), (repM_iff _ _).1 (pureM_sound M fl r s (fun id hid => hf id (by simp only [hasIdL, hid, Bool.or_true])) h.2)⟩
  | [], _ :: _, _, h => by simp only [RepM] at h
  | _ :: _, [], _, h => by simp only [RepM] at h
end

theorem pure2_sound (M : MRel T B w0 I0 ρ I m w) (fl : Nat → Bool) (v : AV) (x : Value) (hf : ∀ id, hasId id v = true → fl id = true) (h : Rep2 T I w ρ v x) :
    Rep2 T (frzI ρ fl I) w noPl (pure1 m v) x := by
  cases v
  case agg cs =>
    simp only [Rep2, pure1] at h ⊢
    obtain ⟨arr, rfl, hl⟩ := h
    exact ⟨arr, rfl, pureL_sound M fl cs _ (fun id hid => hf id (by simp [hasId, hid])) hl⟩
  all_goals exact Rep2.of1 (pure1_sound M fl _ x hf (by simpa only [Rep2] using h))
theorem pure2L_sound (M : MRel T B w0 I0 ρ I m w) (fl : Nat → Bool) : ∀ (l : List AV) (xs : List Value), (∀ id, hasIdL id l = true → fl id = true) → Rep2L T I w ρ l xs →
    Rep2L T (frzI ρ fl I) w noPl (pureL m l) xs
  | [], [], _, _ => by simp [pureL, Rep2L]
  | v :: r, x :: s, hf, h => by
    simp only [pureL, Rep2L] at h ⊢
    exact ⟨pure2_sound M fl v x (fun id hid => hf id (by simp [hasIdL, hid])) h.1, pure2L_sound M fl r s (fun id hid => hf id (by simp [hasIdL, hid])) h.2⟩
  | [], _ :: _, _, h => h.elim
  | _ :: _, [], _, h => h.elim
theorem pure_sound (M : MRel T B w0 I0 ρ I m w) (fl : Nat → Bool) (v : AV) (x : Value) (hf : ∀ id, hasId id v = true → fl id = true) (h : Rep T I w ρ v x) :
    Rep T (frzI ρ fl I) w noPl (pure1 m v) x := by
  cases v
  case tup vs =>
    simp only [Rep, pure1] at h ⊢
    obtain ⟨arr, rfl, hl⟩ := h
    exact ⟨arr, rfl, pure2L_sound M fl vs _ (fun id hid => hf id (by simp [hasId, hid])) hl⟩
  all_goals exact Rep.of2 (pure2_sound M fl _ x hf (by simpa only [Rep] using h))

/-- The cells that a call has made: they never turn any more once it is over. -/
def newI (I : Nat → Nat → Prop) (w w' : World) (b k : Nat) : Prop := I b k ∨ (w.heap.size ≤ b ∧ b < w'.heap.size)

/-- A function's contract: called with values that read so, in whatever world, it returns a value that reads as 'r'; what was there is as it was. -/
def FnOK (P : Program) (T : TypeId) (f : FuncId) (args : List AV) (r : AV) : Prop :=
  ∀ (I : Nat → Nat → Prop) (w : World) (vs : Array Value), (∀ b k, I b k → b < w.heap.size) → Rep2L T I w noPl args vs.toList →
    Calls P f vs w fun e w' => ∃ x, e = .returned x ∧ Below w.heap.size w w' ∧ Rep T (newI I w w') w' noPl r x

/-- A value that names no place. -/
def flatC : AV → Bool
  | .int _ _ => true
  | .bit _ => true
  | .str _ => true
  | .nilI => true
  | .err _ => true
  | .nilP => true
  | .nilS => true
  | .nilF => true
  | _ => false
theorem rep1_flat {v : AV} (h : flatC v = true) {x : Value} {I I' : Nat → Nat → Prop} {w w' : World} {ρ ρ' : Nat → Place} (hr : Rep1 T I w ρ v x) : Rep1 T I' w' ρ' v x := by
  cases v <;> first
    | (cases h; done)
    | simpa only [Rep1] using hr
/-- A function that hands back a new row of its own making. -/
structure FnNew (P : Program) (T : TypeId) (f : FuncId) (args : List AV) (r : Row) : Prop where
  bx : r.bx = false
  flat : ∀ i j, i < r.n → j < r.sz → flatC (r.f i j) = true
  go : ∀ (I : Nat → Nat → Prop) (w : World) (vs : Array Value), (∀ b k, I b k → b < w.heap.size) → Rep2L T I w noPl args vs.toList →
    Calls P f vs w fun e w' => ∃ x, e = .returned x ∧ Below w.heap.size w w' ∧ ((r.st ≠ 0 ∧ r.n = 0 ∧ x = .slice none 0 0) ∨
      ∃ b cap arr, x = .slice (some ⟨b, 0, none⟩) r.n cap ∧ w.heap.size ≤ b ∧ r.n ≤ cap ∧ cap ≤ maxLen ∧ w'.heap[b]? = some (.cells arr r.e (0, 0)) ∧ arr.size = cap * r.sz ∧
        ∀ i j, i < r.n → j < r.sz → ∃ c, arr[i * r.sz + j]? = some c ∧ c.oneCell' = true ∧ Rep1 T (fun _ _ => False) w' noPl (r.f i j) c)

/-- A new row where it lies. -/
def NewAt (T : TypeId) (w w' : World) (r : Row) (x : Value) : Place → Prop
  | .nil sz => sz = r.sz ∧ r.n = 0 ∧ x = .slice none 0 0
  | .at b cap sz n => sz = r.sz ∧ n = r.n ∧ x = .slice (some ⟨b, 0, none⟩) r.n cap ∧ w.heap.size ≤ b ∧ r.n ≤ cap ∧ cap ≤ maxLen ∧ ∃ arr, w'.heap[b]? = some (.cells arr r.e (0, 0)) ∧ arr.size = cap * r.sz ∧
      ∀ i j, i < r.n → j < r.sz → ∃ c, arr[i * r.sz + j]? = some c ∧ c.oneCell' = true ∧ Rep1 T (fun _ _ => False) w' noPl (r.f i j) c
  | .no => False
/-- A function that hands back a struct that begins with two new rows. -/
structure FnNew2 (P : Program) (T : TypeId) (f : FuncId) (args : List AV) (r1 r2 : Row) (rest : List AV) : Prop where
  bx1 : r1.bx = false
  bx2 : r2.bx = false
  flat1 : ∀ i j, i < r1.n → j < r1.sz → flatC (r1.f i j) = true
  flat2 : ∀ i j, i < r2.n → j < r2.sz → flatC (r2.f i j) = true
  flat : ∀ v, v ∈ rest → flatC v = true
  go : ∀ (I : Nat → Nat → Prop) (w : World) (vs : Array Value), (∀ b k, I b k → b < w.heap.size) → Rep2L T I w noPl args vs.toList →
    Calls P f vs w fun e w' => ∃ x1 x2 xs p1 p2, e = .returned (.agg (x1 :: x2 :: xs).toArray) ∧ Below w.heap.size w w' ∧ NewAt T w w' r1 x1 p1 ∧ NewAt T w w' r2 x2 p2 ∧
      (∀ g c1 s1 n1 c2 s2 n2, p1 = .at g c1 s1 n1 → p2 = .at g c2 s2 n2 → False) ∧ RepL T (fun _ _ => False) w' noPl rest xs

def Callable (P : Program) (f : FuncId) : Prop := ∃ fn, P.funcs[f]? = some fn ∧ (fn.name == "runtime.NumGoroutine") = false ∧ fn.body.isNone = false

/-- The evaluator's contracts hold. -/
def SpecOK (P : Program) (E : Env) : Prop := ∀ f args, match E.spec f args with
  | .no => True
  | .ok r => Callable P f ∧ FnOK P E.errT f args r
  | .okb b => Callable P f ∧ FnOK P E.errT f args (.bit b)
  | .pre p r => Callable P f ∧ (p → FnOK P E.errT f args r)
  | .new p r => Callable P f ∧ (p → FnNew P E.errT f args r)
  | .flt p r => Callable P f ∧ (p → FnOK P E.errT f args r)
  | .new2 p r1 r2 rest => Callable P f ∧ (p → FnNew2 P E.errT f args r1 r2 rest)

theorem run_callFunc {P : Program} {f : FuncId} (h : Callable P f) (args : Array Value) (w : World) : (callFunc f args).run P w = .ok (.enter f args) w := by
  obtain ⟨fn, h1, h2, h3⟩ := h
  unfold callFunc
  simp only [Sem.run_bind, run_program, Result.andThen_ok, h1, h2, h3, Bool.false_eq_true, if_false, Sem.run_pure]
end Go.Proofs.Ytbhbjmneglkgnaa.AI
