/- The call's own rows in memory: what stays true when the world goes on, when a row is made, when rows are handed on. Conditions: none. -/
import Derived.Test.YtbhbjmneglkgnaaAiOps
namespace Go.Proofs.Ytbhbjmneglkgnaa.AI
open Go Go.RowKit

def plOf (b : Bool) (ρ : Nat → Place) : Nat → Place := match b with | true => ρ | false => noPl

def RowRep (T : TypeId) (B : Nat) (ρ : Nat → Place) (I : Nat → Nat → Prop) (w : World) (r : Row) : Place → Prop
  | .no => False
  | .nil sz => sz = r.sz ∧ r.n = 0
  | .at g cap sz n => sz = r.sz ∧ n = r.n ∧ B ≤ g ∧ n ≤ cap ∧ cap ≤ maxLen ∧
      (∃ arr : Array Value, w.heap[g]? = some (.cells arr r.e (0, 0)) ∧ arr.size = cap * sz ∧
        ∀ i j, i < n → j < sz → ∃ c, arr[i * sz + j]? = some c ∧ c.oneCell' = true ∧ Rep1 T I w (plOf r.bx ρ) (r.f i j) c) ∧
      (r.st = 0 → ∀ k, ¬ I g k) ∧ (r.st = 1 → ∀ k, I g k → k < n * sz)

structure MRel (T : TypeId) (B : Nat) (w0 : World) (I0 : Nat → Nat → Prop) (ρ : Nat → Place) (I : Nat → Nat → Prop) (m : Nat → Option Row) (w : World) : Prop where
  dom : ∀ id, m id = none → ρ id = .no
  rows : ∀ id r, m id = some r → RowRep T B ρ I w r (ρ id)
  excl : ∀ id id' r r' g cap sz n cap' sz' n', id ≠ id' → m id = some r → m id' = some r' → ρ id = .at g cap sz n → ρ id' = .at g cap' sz' n' →
    r.st ≠ 2 → r.st = 1 ∧ r'.st = 2 ∧ n' * sz' ≤ n * sz
  ilt : ∀ b k, I b k → b < w.heap.size
  i0 : ∀ b k, I0 b k → I b k
  inew : ∀ b k, I b k → I0 b k ∨ B ≤ b
  below : Below B w0 w
  hB : B ≤ w.heap.size

variable {T : TypeId} {B : Nat} {w0 : World} {I0 : Nat → Nat → Prop} {ρ ρ' : Nat → Place} {I I' : Nat → Nat → Prop} {m : Nat → Option Row} {w w' : World}

theorem heap_lt {w : World} {g : Nat} {o : Obj} (h : w.heap[g]? = some o) : g < w.heap.size := (Array.getElem?_eq_some_iff.1 h).1

/-- A row in memory, and its block. -/
theorem MRel.at_ (M : MRel T B w0 I0 ρ I m w) {id g cap sz n : Nat} (h : ρ id = .at g cap sz n) : ∃ r, m id = some r ∧ RowRep T B ρ I w r (.at g cap sz n) := by
  cases hm : m id with
  | none => rw [M.dom id hm] at h; cases h
  | some r => exact ⟨r, rfl, h ▸ M.rows id r hm⟩
theorem MRel.lt_ (M : MRel T B w0 I0 ρ I m w) {id g cap sz n : Nat} (h : ρ id = .at g cap sz n) : g < w.heap.size := by
  obtain ⟨r, _, hr⟩ := M.at_ h
  obtain ⟨_, _, _, _, _, ⟨arr, ha, _⟩, _⟩ := hr
  exact heap_lt ha

theorem Ext.plOf (b : Bool) (h : Ext ρ I w ρ' I' w') : Ext (plOf b ρ) I w (plOf b ρ') I' w' := by
  cases b
  · exact h.none_
  · exact h

/-- The world goes on without touching what was there. -/
theorem Ext.of_below (hlt : ∀ b k, I b k → b < w.heap.size) (hb : Below w.heap.size w w') (hI : ∀ b k, I b k → I' b k) : Ext ρ I w ρ I' w' :=
  ⟨fun _ _ => rfl, hI, fun b k h => hb.cell (p := ⟨b, k, none⟩) (hlt b k h)⟩

theorem MRel.world (M : MRel T B w0 I0 ρ I m w) (hb : Below w.heap.size w w') (hI : ∀ b k, I b k → I' b k) (hn : ∀ b k, I' b k → I b k ∨ w.heap.size ≤ b) (hlt : ∀ b k, I' b k → b < w'.heap.size) :
    MRel T B w0 I0 ρ I' m w' := by
  have X : Ext ρ I w ρ I' w' := Ext.of_below M.ilt hb hI
  refine ⟨M.dom, fun id r hr => ?_, M.excl, hlt, fun b k h => hI _ _ (M.i0 b k h), fun b k h => ?_, M.below.trans (hb.mono M.hB), Nat.le_trans M.hB hb.size⟩
  · have h := M.rows id r hr
    cases hp : ρ id with
    | no => rw [hp] at h; exact h
    | nil sz => rw [hp] at h; exact h
    | «at» g cap sz n =>
      rw [hp] at h
      obtain ⟨h1, h2, h3, h4, h5, ⟨arr, ha, hs, hc⟩, h6, h7⟩ := h
      have hg := heap_lt ha
      refine ⟨h1, h2, h3, h4, h5, ⟨arr, (hb.block g hg).trans ha, hs, fun i j hi hj => ?_⟩, fun h0 k hk => ?_, fun h0 k hk => ?_⟩
      · obtain ⟨c, hc1, hc2, hc3⟩ := hc i j hi hj
        exact ⟨c, hc1, hc2, Rep1.mono (X.plOf _) _ _ hc3⟩
      · rcases hn g k hk with h | h
        · exact h6 h0 k h
        · omega
      · rcases hn g k hk with h | h
        · exact h7 h0 k h
        · omega
  · rcases hn b k h with h | h
    · exact M.inew b k h
    · exact .inr (Nat.le_trans M.hB h)

def updP (ρ : Nat → Place) (d : Nat) (p : Place) : Nat → Place := fun id => if id = d then p else ρ id

theorem Ext.upd {d : Nat} {p : Place} (hd : ρ d = .no) : Ext ρ I w (updP ρ d p) I w :=
  ⟨fun id h => by
    unfold updP
    rw [if_neg]
    rintro rfl
    exact h hd, fun _ _ h => h, fun _ _ _ => rfl⟩

theorem effM_self (m : Nat → Option Row) (d : Nat) (r : Row) (fz : Nat → Nat → Nat) : effM m d (some r) fz d = some r := by
  simp [effM]
theorem effM_other (m : Nat → Option Row) (d : Nat) (new : Option Row) (fz : Nat → Nat → Nat) {id : Nat} (h : id ≠ d) : effM m d new fz id = (m id).map fun r => { r with st := fz id r.st } := by
  unfold effM
  have : Nat.beq id d = false := by
    cases hb : Nat.beq id d
    · rfl
    · exact absurd (Nat.eq_of_beq_eq_true hb) h
  cases new <;> simp only [this] <;> cases m id <;> rfl
theorem effM_none (m : Nat → Option Row) (d : Nat) (fz : Nat → Nat → Nat) (id : Nat) : effM m d none fz id = (m id).map fun r => { r with st := fz id r.st } := by
  unfold effM
  cases m id <;> rfl
theorem effM_fz0 (m : Nat → Option Row) (d : Nat) : effM m d none fz0 = m := by
  funext id
  rw [effM_none]
  cases m id <;> rfl

/-- A new row, in a block that no row lies in. -/
theorem MRel.new_ (M : MRel T B w0 I0 ρ I m w) {d : Nat} (hd : m d = none) {r : Row} {p : Place} (hr : RowRep T B (updP ρ d p) I w r p)
    (hf : ∀ g cap sz n, p = .at g cap sz n → ∀ id cap' sz' n', ρ id = .at g cap' sz' n' → False) : MRel T B w0 I0 (updP ρ d p) I (effM m d (some r) fz0) w := by
  have X : Ext ρ I w (updP ρ d p) I w := Ext.upd (M.dom d hd)
  have hold : ∀ id, id ≠ d → effM m d (some r) fz0 id = m id := fun id h => by rw [effM_other m d _ _ h]; cases m id <;> rfl
  have hu : updP ρ d p d = p := by simp [updP]
  have hv : ∀ id, id ≠ d → updP ρ d p id = ρ id := fun id h => by simp [updP, h]
  refine ⟨fun id h => ?_, fun id r' hr' => ?_, fun id id' r1 r2 g cap sz n cap' sz' n' hne h1 h2 h3 h4 h5 => ?_, M.ilt, M.i0, M.inew, M.below, M.hB⟩
  · by_cases e : id = d
    · subst e; rw [effM_self] at h; cases h
    · rw [hold id e] at h; rw [hv id e]; exact M.dom id h
  · by_cases e : id = d
    · subst e; rw [effM_self] at hr'; cases hr'; rw [hu]; exact hr
    · rw [hold id e] at hr'
      have h := M.rows id r' hr'
      rw [hv id e]
      cases hp : ρ id with
      | no => rw [hp] at h; exact h
      | nil sz => rw [hp] at h; exact h
      | «at» g cap sz n =>
        rw [hp] at h
        obtain ⟨h1, h2, h3, h4, h5, ⟨arr, ha, hs, hc⟩, h6, h7⟩ := h
        exact ⟨h1, h2, h3, h4, h5, ⟨arr, ha, hs, fun i j hi hj => by
          obtain ⟨c, hc1, hc2, hc3⟩ := hc i j hi hj
          exact ⟨c, hc1, hc2, Rep1.mono (X.plOf _) _ _ hc3⟩⟩, h6, h7⟩
  · by_cases e : id = d
    · subst e
      rw [hu] at h3
      rw [hv id' (Ne.symm hne)] at h4
      exact (hf g cap sz n h3 id' cap' sz' n' h4).elim
    · by_cases e' : id' = d
      · subst e'
        rw [hu] at h4
        rw [hv id e] at h3
        exact (hf g cap' sz' n' h4 id cap sz n h3).elim
      · rw [hold id e] at h1
        rw [hold id' e'] at h2
        rw [hv id e] at h3
        rw [hv id' e'] at h4
        exact M.excl id id' r1 r2 g cap sz n cap' sz' n' hne h1 h2 h3 h4 h5

def fzB (fl : Nat → Bool) (id s : Nat) : Nat := match fl id, s with
  | true, 0 => 1
  | _, s => s
theorem fzArgs_eq (args : List AV) : fzArgs args = fzB (fun id => hasIdL id args) := rfl
theorem fzId_eq (r : Nat) : fzId r = fzB (fun id => Nat.beq id r) := rfl
theorem fz0_eq : fz0 = fzB (fun _ => false) := by funext id s; simp [fz0, fzB]

/-- What is handed on never turns any more. -/
def frzI (ρ : Nat → Place) (fl : Nat → Bool) (I : Nat → Nat → Prop) (b k : Nat) : Prop := I b k ∨ ∃ id cap sz n, ρ id = .at b cap sz n ∧ fl id = true ∧ k < n * sz

theorem fzB_cases (fl : Nat → Bool) (id s : Nat) : (fzB fl id s = s) ∨ (fl id = true ∧ s = 0 ∧ fzB fl id s = 1) := by
  unfold fzB
  cases h : fl id
  · exact .inl rfl
  · cases s
    · exact .inr ⟨rfl, rfl, rfl⟩
    · exact .inl rfl
theorem fzB_ne0 {fl : Nat → Bool} {id s : Nat} (h : s ≠ 0) : fzB fl id s = s := by
  rcases fzB_cases fl id s with h' | ⟨_, h', _⟩
  · exact h'
  · exact absurd h' h
theorem fzB_eq0 {fl : Nat → Bool} {id s : Nat} (h : fzB fl id s = 0) : s = 0 ∧ fl id = false := by
  rcases fzB_cases fl id s with h' | ⟨_, _, h'⟩
  · rw [h'] at h
    subst h
    refine ⟨rfl, ?_⟩
    cases hf : fl id
    · rfl
    · simp [fzB, hf] at h'
  · rw [h'] at h; cases h

theorem Ext.frz (fl : Nat → Bool) : Ext ρ I w ρ (frzI ρ fl I) w := ⟨fun _ _ => rfl, fun _ _ h => .inl h, fun _ _ _ => rfl⟩

theorem MRel.frz (M : MRel T B w0 I0 ρ I m w) (d : Nat) (fl : Nat → Bool) : MRel T B w0 I0 ρ (frzI ρ fl I) (effM m d none (fzB fl)) w := by
  have X : Ext ρ I w ρ (frzI ρ fl I) w := Ext.frz fl
  refine ⟨fun id h => ?_, fun id r' hr' => ?_, fun id id' r1 r2 g cap sz n cap' sz' n' hne h1 h2 h3 h4 h5 => ?_, fun b k h => ?_, fun b k h => .inl (M.i0 b k h), fun b k h => ?_, M.below, M.hB⟩
  · rw [effM_none] at h
    exact M.dom id (by simpa using h)
  · rw [effM_none] at hr'
    cases hm : m id with
    | none => simp [hm] at hr'
    | some r =>
      simp [hm] at hr'
      subst hr'
      have h := M.rows id r hm
      cases hp : ρ id with
      | no => rw [hp] at h; exact h
      | nil sz =>
        rw [hp] at h
        exact ⟨h.1, h.2⟩
      | «at» g cap sz n =>
        rw [hp] at h
        obtain ⟨h1, h2, h3, h4, h5, ⟨arr, ha, hs, hc⟩, h6, h7⟩ := h
        have other : ∀ k, (∃ id' cap' sz' n', ρ id' = .at g cap' sz' n' ∧ fl id' = true ∧ k < n' * sz') → r.st ≠ 2 → (fl id = true ∨ r.st = 1) ∧ k < n * sz := by
          rintro k ⟨id', cap', sz', n', hp', hfl, hk⟩ hst
          by_cases e : id' = id
          · subst e
            rw [hp] at hp'; injection hp' with e1 e2 e3 e4
            subst e3; subst e4
            exact ⟨.inl hfl, hk⟩
          · obtain ⟨r', hm', _⟩ := M.at_ hp'
            obtain ⟨x1, x2, x3⟩ := M.excl id id' r r' g cap sz n cap' sz' n' (Ne.symm e) hm hm' hp hp' hst
            exact ⟨.inr x1, by omega⟩
        refine ⟨h1, h2, h3, h4, h5, ⟨arr, ha, hs, fun i j hi hj => by
          obtain ⟨c, hc1, hc2, hc3⟩ := hc i j hi hj
          exact ⟨c, hc1, hc2, Rep1.mono (X.plOf _) _ _ hc3⟩⟩, fun h0 k hk => ?_, fun h0 k hk => ?_⟩
        · obtain ⟨h0', hfl⟩ := fzB_eq0 h0
          rcases hk with hk | hk
          · exact h6 h0' k hk
          · obtain ⟨x, _⟩ := other k hk (by omega)
            rcases x with x | x
            · rw [hfl] at x; cases x
            · omega
        · have hst : r.st ≠ 2 := by
            rcases fzB_cases fl id r.st with x | ⟨_, x, _⟩
            · simp only [x] at h0; omega
            · omega
          rcases hk with hk | hk
          · rcases fzB_cases fl id r.st with x | ⟨_, x, _⟩
            · simp only [x] at h0; exact h7 h0 k hk
            · exact absurd hk (h6 x k)
          · exact (other k hk hst).2
  · rw [effM_none] at h1 h2
    cases hm : m id with
    | none => simp [hm] at h1
    | some r =>
      cases hm' : m id' with
      | none => simp [hm'] at h2
      | some r' =>
        simp [hm] at h1; simp [hm'] at h2
        subst h1; subst h2
        have hst : r.st ≠ 2 := by
          intro e
          apply h5
          show fzB fl id r.st = 2
          rw [fzB_ne0 (by omega)]; exact e
        obtain ⟨x1, x2, x3⟩ := M.excl id id' r r' g cap sz n cap' sz' n' hne hm hm' h3 h4 hst
        exact ⟨by show fzB fl id r.st = 1; rw [fzB_ne0 (by omega)]; exact x1, by show fzB fl id' r'.st = 2; rw [fzB_ne0 (by omega)]; exact x2, x3⟩
  · rcases h with h | ⟨id, cap, sz, n, hp, _, _⟩
    · exact M.ilt b k h
    · exact M.lt_ hp
  · rcases h with h | ⟨id, cap, sz, n, hp, _, _⟩
    · exact M.inew b k h
    · obtain ⟨r, _, hr⟩ := M.at_ hp
      exact .inr hr.2.2.1
end Go.Proofs.Ytbhbjmneglkgnaa.AI
