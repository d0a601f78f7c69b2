/- Arguments replaced by others that say no more; slices of whole numbers. Conditions: none. -/
import Derived.Test.YtbhbjmneglkgnaaAiForce
namespace Go.Proofs.Ytbhbjmneglkgnaa.AI
open Go

variable {P : Program} {T : TypeId}

def Le1 (T : TypeId) (a b : AV) : Prop := ∀ (I : Nat → Nat → Prop) (w : World) (ρ : Nat → Place) (v : Value), Rep1 T I w ρ a v → Rep1 T I w ρ b v
theorem Le1.refl {a : AV} : Le1 T a a := fun _ _ _ _ h => h
theorem Le1.of_eq {a b : AV} (h : a = b) : Le1 T a b := h ▸ Le1.refl
theorem Le1.sl {sz n m : Nat} {f g : Nat → Nat → AV} (h : n = m) (hf : ∀ i j, i < n → j < sz → Le1 T (f i j) (g i j)) : Le1 T (.sl sz n f) (.sl sz m g) := by
  subst h
  intro I w ρ v hv
  simp only [Rep1] at hv ⊢
  obtain ⟨a, cap, h1, h2, h3, h4⟩ := hv
  refine ⟨a, cap, h1, h2, h3, fun h0 => ?_⟩
  obtain ⟨b, o, h5, h6⟩ := h4 h0
  refine ⟨b, o, h5, fun i j hi hj => ?_⟩
  obtain ⟨h7, c, h8, h9, h10⟩ := h6 i j hi hj
  exact ⟨h7, c, h8, h9, hf i j hi hj I w noPl c h10⟩
def Le1L (T : TypeId) : List AV → List AV → Prop
  | [], [] => True
  | a :: r, b :: s => Le1 T a b ∧ Le1L T r s
  | _, _ => False
theorem Le1L.rep {I : Nat → Nat → Prop} {w : World} {ρ : Nat → Place} : ∀ {l m : List AV}, Le1L T l m → ∀ vs, RepL T I w ρ l vs → RepL T I w ρ m vs
  | [], [], _, vs, hv => hv
  | a :: r, b :: s, h, vs, hv => by
    cases vs with
    | nil => simp [RepL] at hv
    | cons v vs =>
      simp only [RepL] at hv ⊢
      exact ⟨⟨hv.1.1, h.1 I w ρ v hv.1.2⟩, Le1L.rep h.2 vs hv.2⟩
  | [], _ :: _, h, _, _ => h.elim
  | _ :: _, [], h, _, _ => h.elim
theorem AVle2.aggL {l m : List AV} (h : Le1L T l m) : AVle2 T (.agg l) (.agg m) := by
  intro I w v hv
  simp only [Rep2] at hv ⊢
  obtain ⟨arr, h1, h2⟩ := hv
  exact ⟨arr, h1, h.rep _ h2⟩
theorem AVle2.slL {sz n m : Nat} {f g : Nat → Nat → AV} (h : n = m) (hf : ∀ i j, i < n → j < sz → Le1 T (f i j) (g i j)) : AVle2 T (.sl sz n f) (.sl sz m g) :=
  fun I w v hv => by
    simp only [Rep2] at hv ⊢
    exact Le1.sl h hf I w noPl v hv
def LeArgs (T : TypeId) : List AV → List AV → Prop
  | [], [] => True
  | a :: r, b :: s => AVle2 T a b ∧ LeArgs T r s
  | _, _ => False
theorem LeArgs.rep {I : Nat → Nat → Prop} {w : World} : ∀ {l m : List AV}, LeArgs T l m → ∀ vs, Rep2L T I w noPl l vs → Rep2L T I w noPl m vs
  | [], [], _, vs, hv => hv
  | a :: r, b :: s, h, vs, hv => by
    cases vs with
    | nil => simp [Rep2L] at hv
    | cons v vs =>
      simp only [Rep2L] at hv ⊢
      exact ⟨h.1 I w v hv.1, LeArgs.rep h.2 vs hv.2⟩
  | [], _ :: _, h, _, _ => h.elim
  | _ :: _, [], h, _, _ => h.elim
theorem FnOK.args {f : FuncId} {l m : List AV} {r : AV} (h : FnOK P T f m r) (hl : LeArgs T l m) : FnOK P T f l r :=
  fun I w vs hI hr => h I w vs hI (hl.rep _ hr)

theorem ndT {p : Prop} [Decidable p] (h : (!decide p) = true) : ¬ p := by simpa using h
theorem ndF {p : Prop} [Decidable p] (h : (!decide p) = false) : p := by simpa using h
def asI : AV → Int
  | .int _ n => n
  | _ => 0
def asB : AV → Bool
  | .bit b => b
  | _ => false
def slF : AV → Nat → Nat → AV
  | .sl _ _ f => f
  | _ => fun _ _ => .bad
def slN : AV → Nat
  | .sl _ n _ => n
  | _ => 0
/-- The numbers of a slice. -/
def vI (f : Nat → Nat → AV) (i : Nat) : Int := asI (f i 0)
def Ints (n : Nat) (f : Nat → Nat → AV) : Prop := ∀ i, i < n → f i 0 = .int .i64 (vI f i)
theorem ints_le {n m : Nat} {f : Nat → Nat → AV} (hn : n = m) (h : Ints n f) : AVle2 T (.sl 1 n f) (.sl 1 m fun i _ => .int .i64 (vI f i)) :=
  .slL hn fun i j hi hj => .of_eq (by have : j = 0 := by omega
                                      subst this; exact h i hi)
theorem ints_le1 {n m : Nat} {f : Nat → Nat → AV} (hn : n = m) (h : Ints n f) : Le1 T (.sl 1 n f) (.sl 1 m fun i _ => .int .i64 (vI f i)) :=
  .sl hn fun i j hi hj => .of_eq (by have : j = 0 := by omega
                                     subst this; exact h i hi)
theorem ints_mk {n : Nat} {g : Nat → Int} : Ints n (fun i _ => .int .i64 (g i)) := fun _ _ => rfl
theorem ints_one {f : Nat → Nat → AV} {z : Int} (h : f 0 0 = .int .i64 z) : Ints 1 f := fun i hi => by
  have : i = 0 := by omega
  subst this
  rw [vI, h]; rfl
/-- A slice of numbers. -/
structure IsI (s n : Nat) (f : Nat → Nat → AV) : Prop where
  s : s = 1
  f : Ints n f
theorem isI_one {s : Nat} {f : Nat → Nat → AV} {z : Int} (hs : s = 1) (h : f 0 0 = .int .i64 z) : IsI s 1 f := ⟨hs, ints_one h⟩
theorem isI_mk {n : Nat} {g : Nat → Int} : IsI 1 n (fun i _ => .int .i64 (g i)) := ⟨rfl, ints_mk⟩
theorem IsI.le {s n m : Nat} {f : Nat → Nat → AV} (h : IsI s n f) (hn : n = m) : AVle2 T (.sl s n f) (.sl 1 m fun i _ => .int .i64 (vI f i)) := by
  obtain ⟨rfl, h⟩ := h
  exact ints_le hn h
theorem IsI.le1 {s n m : Nat} {f : Nat → Nat → AV} (h : IsI s n f) (hn : n = m) : Le1 T (.sl s n f) (.sl 1 m fun i _ => .int .i64 (vI f i)) := by
  obtain ⟨rfl, h⟩ := h
  exact ints_le1 hn h
/-- Rows of numbers. -/
def vII (f : Nat → Nat → AV) (i j : Nat) : Int := vI (slF (f i 0)) j
def RowsI (n m : Nat) (f : Nat → Nat → AV) : Prop := ∀ i, i < n → f i 0 = .sl 1 m (slF (f i 0)) ∧ Ints m (slF (f i 0))
theorem rows_le1 {n k m : Nat} {f : Nat → Nat → AV} (hn : n = k) (h : RowsI n m f) : Le1 T (.sl 1 n f) (.sl 1 k fun i _ => .sl 1 m fun j _ => .int .i64 (vII f i j)) :=
  .sl hn fun i j hi hj => by
    have : j = 0 := by omega
    subst this
    rw [(h i hi).1]
    refine Le1.sl rfl fun a b ha hb => ?_
    have : b = 0 := by omega
    subst this
    rw [(h i hi).2 a ha]
    exact Le1.refl

theorem rows_one {m : Nat} {f g : Nat → Nat → AV} (h : f 0 0 = .sl 1 m g) (hg : Ints m g) : RowsI 1 m f := fun i hi => by
  have : i = 0 := by omega
  subst this
  rw [h]
  exact ⟨rfl, hg⟩
theorem rows_one' {f : Nat → Nat → AV} {z : Int} (h : f 0 0 = .sl 1 1 (slF (f 0 0))) (hg : slF (f 0 0) 0 0 = .int .i64 z) : RowsI 1 1 f := rows_one h (ints_one hg)
/-- A slice of slices of numbers. -/
structure IsII (s n m : Nat) (f : Nat → Nat → AV) : Prop where
  s : s = 1
  f : RowsI n m f
theorem isII_one {s : Nat} {f : Nat → Nat → AV} {z : Int} (hs : s = 1) (h : f 0 0 = .sl 1 1 (slF (f 0 0))) (hg : slF (f 0 0) 0 0 = .int .i64 z) : IsII s 1 1 f := ⟨hs, rows_one' h hg⟩
theorem isII_mk {n m : Nat} {g : Nat → Nat → Int} : IsII 1 n m (fun i _ => .sl 1 m fun j _ => .int .i64 (g i j)) := ⟨rfl, fun _ _ => ⟨rfl, fun _ _ => rfl⟩⟩
theorem IsII.le1 {s n m k : Nat} {f : Nat → Nat → AV} (h : IsII s n m f) (hn : n = k) : Le1 T (.sl s n f) (.sl 1 k fun i _ => .sl 1 m fun j _ => .int .i64 (vII f i j)) := by
  obtain ⟨rfl, h⟩ := h
  exact rows_le1 hn h
/-- What stands in a row after one more is appended. -/
theorem app1 {s : Nat → Option (Option Nat)} {n : Nat} {f g : Nat → Nat → AV} (h : Nat → AV) (h1 : ∀ i, i < n → f i 0 = h i) (h2 : g 0 0 = h n) :
    ∀ i j, i < n + 1 → j < 1 → RenC s (appF n f g i j) (h i) false := by
  intro i j hi hj
  have : j = 0 := by omega
  subst this
  refine Or.inr ?_
  unfold appF
  cases hb : Nat.blt i n with
  | true => exact (h1 i (Nat.blt_eq ▸ hb)).symm
  | false =>
    have h3 : ¬ i < n := fun h => by rw [show Nat.blt i n = true from Nat.blt_eq ▸ h] at hb; cases hb
    have : i = n := by omega
    subst this
    simp only [Nat.sub_self]
    exact h2.symm
theorem wrS {i : Nat} (h : i < 4611686018427387904) : AV.int .i64 (wr ((i : Int) + 1)) = AV.int .i64 ((i + 1 : Nat) : Int) := by
  rw [wr_id (by omega) (by omega)]; rfl
theorem RowLe.app {s : Nat → Option (Option Nat)} {row row' : Row} {e : TypeId} {n st : Nat} {f g : Nat → Nat → AV} (h : Nat → AV) (hr : row = ⟨e, 1, n + 1, appF n f g, st, false⟩) (hr' : row' = ⟨e, 1, n + 1, fun i _ => h i, 1, false⟩)
    (hs : stB st 1 = true) (h1 : ∀ i, i < n → f i 0 = h i) (h2 : g 0 0 = h n) : RowLe s row row' := by
  subst hr hr'
  exact ⟨rfl, rfl, rfl, rfl, hs, app1 h h1 h2⟩
theorem RowLe.upd {s : Nat → Option (Option Nat)} {row row' : Row} {e : TypeId} {n i st : Nat} {f : Nat → Nat → AV} {v : AV} (h : Nat → AV) (hr : row = ⟨e, 1, n, updF f i 0 [v], 0, false⟩) (hr' : row' = ⟨e, 1, n, fun k _ => h k, st, false⟩)
    (hs : stB 0 st = true) (h1 : ∀ k, k < n → k ≠ i → f k 0 = h k) (h2 : v = h i) : RowLe s row row' := by
  subst hr hr'
  refine ⟨rfl, rfl, rfl, rfl, hs, fun k j hk hj => ?_⟩
  have hj : j < 1 := hj
  have : j = 0 := by omega
  subst this
  refine Or.inr ?_
  show h k = updF f i 0 [v] k 0
  by_cases e : k = i
  · subst e
    have hb : Nat.beq k k = true := by simp
    simp only [updF, hb]
    exact h2.symm
  · have : Nat.beq k i = false := by
      cases hb : Nat.beq k i
      · rfl
      · exact absurd (Nat.eq_of_beq_eq_true hb) e
    simp only [updF, this]
    exact (h1 k hk e).symm
theorem Le1.slFin {sz n m : Nat} {f g : Nat → Nat → AV} (h : n = m) (hf : AllLt n fun i => AllLt sz fun j => Le1 T (f i j) (g i j)) : Le1 T (.sl sz n f) (.sl sz m g) :=
  .sl h fun i j hi hj => allLt (allLt hf i hi) j hj
theorem isI_fin {s n : Nat} {f : Nat → Nat → AV} (g : Nat → Int) (hs : s = 1) (h : AllLt n fun i => f i 0 = .int .i64 (g i)) : IsI s n f := ⟨hs, fun i hi => by rw [vI, allLt h i hi]; rfl⟩
theorem Le1.bad {a : AV} : Le1 T a .bad := fun _ _ _ _ _ => by simp [Rep1]
theorem AVle2.iref {m m' : Nat} {g g' : Nat → AV} (hm : m' ≤ m) (h : ∀ j, j < m' → Le1 T (g j) (g' j)) : AVle2 T (.iref m g) (.iref m' g') := by
  intro I w v hv
  simp only [Rep2, Rep1] at hv ⊢
  obtain ⟨b, o, h1, h2⟩ := hv
  refine ⟨b, o, h1, fun j hj => ?_⟩
  obtain ⟨h3, c, h4, h5, h6⟩ := h2 j (by omega)
  exact ⟨h3, c, h4, h5, h j hj I w noPl c h6⟩
/-- The truth values of a slice. -/
def vB (f : Nat → Nat → AV) (i : Nat) : Bool := asB (f i 0)
structure IsB (s n : Nat) (f : Nat → Nat → AV) : Prop where
  s : s = 1
  f : ∀ i, i < n → f i 0 = .bit (vB f i)
theorem IsB.le {s n m : Nat} {f : Nat → Nat → AV} (h : IsB s n f) (hn : n = m) : AVle2 T (.sl s n f) (.sl 1 m fun i _ => .bit (vB f i)) := by
  obtain ⟨rfl, h⟩ := h
  exact .slL hn fun i j hi hj => .of_eq (by have : j = 0 := by omega
                                            subst this; exact h i hi)
theorem isB_fin {s n : Nat} {f : Nat → Nat → AV} (g : Nat → Bool) (hs : s = 1) (h : AllLt n fun i => f i 0 = .bit (g i)) : IsB s n f := ⟨hs, fun i hi => by rw [vB, allLt h i hi]; rfl⟩
/-- The first place where something holds, or -1. -/
def idxF (p : Nat → Bool) : Nat → Nat → Int
  | 0, _ => -1
  | k + 1, i => if p i = true then i else idxF p k (i + 1)
theorem idxF_hit {p : Nat → Bool} {n i : Nat} (hi : i < n) (h : p i = true) : idxF p (n - i) i = i := by
  obtain ⟨k, hk⟩ : ∃ k, n - i = k + 1 := ⟨n - i - 1, by omega⟩
  rw [hk, idxF, if_pos h]
theorem idxF_miss {p : Nat → Bool} {n i : Nat} (hi : i < n) (h : p i = false) : idxF p (n - i) i = idxF p (n - (i + 1)) (i + 1) := by
  obtain ⟨k, hk⟩ : ∃ k, n - i = k + 1 := ⟨n - i - 1, by omega⟩
  rw [hk, idxF, if_neg (by rw [h]; decide), show n - (i + 1) = k by omega]
/-- Does something hold anywhere? -/
def anyP (p : Nat → Bool) : Nat → Nat → Bool
  | 0, _ => false
  | k + 1, i => p i || anyP p k (i + 1)
theorem idxF_any (p : Nat → Bool) : ∀ k i, decide (0 ≤ idxF p k i) = anyP p k i
  | 0, _ => rfl
  | k + 1, i => by
    rw [idxF, anyP, ← idxF_any p k (i + 1)]
    cases h : p i with
    | true => rw [if_pos rfl, Bool.true_or]; exact decide_eq_true (by omega)
    | false => rw [if_neg (by decide), Bool.false_or]
end Go.Proofs.Ytbhbjmneglkgnaa.AI
