/- More on calls that make rows, closures, rows of pairs. Conditions: none. -/
import Derived.Test.YtbhbjmneglkgnaaAiFrz
namespace Go.Proofs.Ytbhbjmneglkgnaa.AI
open Go
variable {P : Program} {T : TypeId}
theorem FnNew.args {f : FuncId} {l m : List AV} {r : Row} (h : FnNew P T f m r) (hl : LeArgs T l m) : FnNew P T f l r :=
  ⟨h.bx, h.flat, fun I w vs hI hr => h.go I w vs hI (hl.rep _ hr)⟩
theorem cloI_le {f : FuncId} {m m' : Nat} {g g' : Nat → AV} (hm : m' ≤ m) (h : ∀ j, j < m' → Le1 T (g j) (g' j)) : AVle T (.clo f [] [.iref m g]) (.clo f [] [.iref m' g']) := by
  refine .of2 rfl rfl fun I w v hv => ?_
  simp only [Rep2, Rep1, RepM] at hv ⊢
  obtain ⟨xs, ys, h1, h2, h3⟩ := hv
  refine ⟨xs, ys, h1, h2, ?_⟩
  generalize ys.toList = l at h3
  match l, h3 with
  | [y], h3 =>
    simp only [RepM] at h3 ⊢
    have := AVle2.iref hm h I w y (by simpa only [Rep2] using h3.1)
    exact ⟨by simpa only [Rep2] using this, trivial⟩
  | [], h3 => simp [RepM] at h3
  | _ :: _ :: _, h3 => simp [RepM] at h3

theorem cloI_le2 {f : FuncId} {m m' : Nat} {g g' : Nat → AV} (hm : m' ≤ m) (h : ∀ j, j < m' → Le1 T (g j) (g' j)) : AVle2 T (.clo f [] [.iref m g]) (.clo f [] [.iref m' g']) := fun I w v hv => by
  have := (cloI_le (f := f) hm h).le I w v (by simpa only [Rep] using hv)
  simpa only [Rep] using this
end Go.Proofs.Ytbhbjmneglkgnaa.AI
