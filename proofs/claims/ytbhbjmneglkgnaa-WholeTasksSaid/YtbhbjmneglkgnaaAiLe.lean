/- A value that says no more than another: the leaves of an evaluation. Conditions: none. -/
import Derived.Test.YtbhbjmneglkgnaaAiWk
namespace Go.Proofs.Ytbhbjmneglkgnaa.AI
open Go

variable {T : TypeId}

def AVle2 (T : TypeId) (a b : AV) : Prop := ∀ (I : Nat → Nat → Prop) (w : World) (v : Value), Rep2 T I w noPl a v → Rep2 T I w noPl b v

theorem AVle2.refl {a : AV} : AVle2 T a a := fun _ _ _ h => h
theorem AVle2.of_eq {a b : AV} (h : a = b) : AVle2 T a b := h ▸ AVle2.refl
theorem AVle2.int {k : IntKind} {n m : Int} (h : n = m) : AVle2 T (.int k n) (.int k m) := h ▸ AVle2.refl
theorem AVle2.bit {n m : Bool} (h : n = m) : AVle2 T (.bit n) (.bit m) := h ▸ AVle2.refl
theorem AVle2.err {n m : Int} (h : n = m) : AVle2 T (.err n) (.err m) := h ▸ AVle2.refl
theorem AVle2.nilErr {m : Int} (h : m = 0) : AVle2 T .nilI (.err m) := by
  subst h
  intro I w v hv
  simpa [Rep2, Rep1, errV] using hv
theorem AVle2.nilS {sz n : Nat} {f : Nat → Nat → AV} (h : n = 0) : AVle2 T .nilS (.sl sz n f) := by
  subst h
  intro I w v hv
  simp only [Rep2, Rep1] at hv ⊢
  exact ⟨none, 0, hv, Nat.le_refl _, Nat.zero_le _, fun h => absurd h (by omega)⟩
theorem AVle2.sl {sz n m : Nat} {f g : Nat → Nat → AV} (h : n = m) (hf : ∀ i j, i < n → j < sz → f i j = g i j) : AVle2 T (.sl sz n f) (.sl sz m g) := by
  subst h
  intro I w v hv
  simp only [Rep2, Rep1] at hv ⊢
  obtain ⟨a, cap, h1, h2, h3, h4⟩ := hv
  refine ⟨a, cap, h1, h2, h3, fun h0 => ?_⟩
  obtain ⟨b, o, h5, h6⟩ := h4 h0
  refine ⟨b, o, h5, fun i j hi hj => ?_⟩
  rw [← hf i j hi hj]
  exact h6 i j hi hj
theorem AVle2.agg {l m : List AV} (h : l = m) : AVle2 T (.agg l) (.agg m) := h ▸ AVle2.refl

def noTup' : AV → Bool
  | .tup _ => false
  | _ => true
theorem rep_noTup {a : AV} (h : noTup' a = true) {I : Nat → Nat → Prop} {w : World} {v : Value} : Rep T I w noPl a v ↔ Rep2 T I w noPl a v := by
  cases a
  case tup => cases h
  all_goals exact Iff.of_eq (by rw [Rep]; intros; simp_all)
theorem AVle.of2 {a b : AV} (ha : noTup' a = true) (hb : noTup' b = true) (h : AVle2 T a b) : AVle T a b :=
  ⟨fun I w v hv => (rep_noTup hb).2 (h I w v ((rep_noTup ha).1 hv))⟩
theorem AVle.int {k : IntKind} {n m : Int} (h : n = m) : AVle T (.int k n) (.int k m) := h ▸ AVle.refl
theorem AVle.bit {n m : Bool} (h : n = m) : AVle T (.bit n) (.bit m) := h ▸ AVle.refl
theorem AVle.err {n m : Int} (h : n = m) : AVle T (.err n) (.err m) := h ▸ AVle.refl
theorem AVle.agg {n m : List AV} (h : n = m) : AVle T (.agg n) (.agg m) := h ▸ AVle.refl
theorem AVle.nilErr {m : Int} (h : m = 0) : AVle T .nilI (.err m) := .of2 rfl rfl (.nilErr h)
theorem AVle.nilS {sz n : Nat} {f : Nat → Nat → AV} (h : n = 0) : AVle T .nilS (.sl sz n f) := .of2 rfl rfl (.nilS h)
theorem AVle.sl {sz n m : Nat} {f g : Nat → Nat → AV} (h : n = m) (hf : ∀ i j, i < n → j < sz → f i j = g i j) : AVle T (.sl sz n f) (.sl sz m g) := .of2 rfl rfl (.sl h hf)
theorem AVle.tup2 {a b a' b' : AV} (h1 : AVle2 T a a') (h2 : AVle2 T b b') : AVle T (.tup [a, b]) (.tup [a', b']) := by
  refine ⟨fun I w v hv => ?_⟩
  simp only [Rep] at hv ⊢
  obtain ⟨arr, rfl, h⟩ := hv
  refine ⟨arr, rfl, ?_⟩
  generalize arr.toList = vs at h
  match vs, h with
  | [x, y], ⟨p, q, r⟩ => exact ⟨h1 I w x p, h2 I w y q, r⟩
theorem AVle.tup3 {a b c a' b' c' : AV} (h1 : AVle2 T a a') (h2 : AVle2 T b b') (h3 : AVle2 T c c') : AVle T (.tup [a, b, c]) (.tup [a', b', c']) := by
  refine ⟨fun I w v hv => ?_⟩
  simp only [Rep] at hv ⊢
  obtain ⟨arr, rfl, h⟩ := hv
  refine ⟨arr, rfl, ?_⟩
  generalize arr.toList = vs at h
  match vs, h with
  | [x, y, z], ⟨p, q, r, s⟩ => exact ⟨h1 I w x p, h2 I w y q, h3 I w z r, s⟩
/-- A closed number of cells, each by itself. -/
def AllLt : Nat → (Nat → Prop) → Prop
  | 0, _ => True
  | n + 1, p => AllLt n p ∧ p n
theorem allLt {p : Nat → Prop} : ∀ {n : Nat}, AllLt n p → ∀ i, i < n → p i
  | 0, _, i, h => absurd h (by omega)
  | n + 1, h, i, hi => by
    rcases Nat.lt_succ_iff_lt_or_eq.1 hi with h1 | h1
    · exact allLt h.1 i h1
    · rw [h1]; exact h.2
theorem RowLe.fin {s : Nat → Option (Option Nat)} {row row' : Row} (e : row'.e = row.e) (sz : row'.sz = row.sz) (n : row'.n = row.n) (bx : bxB row.st row.bx row'.bx = true) (st : stB row.st row'.st = true)
    (f : AllLt row.n fun i => AllLt row.sz fun j => RenC s (row.f i j) (row'.f i j) row'.bx) : RowLe s row row' :=
  ⟨e, sz, n, bx, st, fun i j hi hj => allLt (allLt f i hi) j hj⟩
theorem wr_eq (n : Int) : wr n = if 9223372036854775808 ≤ n % 18446744073709551616 then n % 18446744073709551616 - 18446744073709551616 else n % 18446744073709551616 := by
  simp [wr, IntKind.wrap, IntKind.bits, IntKind.signed]
theorem wr_id {n : Int} (h1 : -9223372036854775808 ≤ n) (h2 : n ≤ 9223372036854775807) : wr n = n := by
  rw [wr_eq]
  split <;> omega
theorem wr_range (n : Int) : -9223372036854775808 ≤ wr n ∧ wr n ≤ 9223372036854775807 := by
  rw [wr_eq]
  split <;> omega
/-- A sum that wraps is the sum of what is wrapped. -/
theorem wr_wr_add (a b : Int) : wr (wr a + b) = wr (a + b) := by
  simp only [wr_eq]
  split <;> split <;> split <;> omega
end Go.Proofs.Ytbhbjmneglkgnaa.AI
