/- Chapter 48: the reference's Start with its two new rows. Conditions: none. -/
import Derived.Test.YtiodcjbpfhfmbaaFlt3
namespace Go.Proofs.Ytiodcjbpfhfmbaa.Img
open Go Go.Proofs.Ytiodcjbpfhfmbaa.AI Go.Proofs
noncomputable section
set_option maxRecDepth 100000
def rowZ (n : Nat) : Row := ⟨4, 1, n, fun _ j => nth [.bit false] j, 0, false⟩
def sRStart2 : Sp
  | [] => .new2 False (rowZ 0) (rowZ 0) []
  | [.sl s n f] => .new2 (RulOK s n f) (rowZ n) (rowZ n) [.int .i64 0, .int .i64 0, .nilS]
  | _ => .no
theorem rowZ_flat {n : Nat} : ∀ i j, i < (rowZ n).n → j < (rowZ n).sz → flatC ((rowZ n).f i j) = true := fun i j _ hj => by
  have hj : j < 1 := hj
  have : j = 0 := by omega
  subst this; rfl
theorem ok16b : EntOK Try.prog TE 16 sRStart2 := by
  refine ⟨callable_of Try.func16 (by kernel_rfl), fun args => ?_⟩
  unfold sRStart2
  split
  · exact fun h => h.elim
  · rename_i s n f
    rintro ⟨hf, hn⟩
    refine fn_new2F tabsOK specOK_nil mixed Try.func16 (by kernel_rfl) rfl rfl rowZ_flat rowZ_flat (fun v hv => by simp at hv; rcases hv with rfl | rfl | rfl <;> rfl) ?_
    refine Chk.mk ⟨by omega, by omega, by omega, by omega⟩ (Chk.mk ⟨by omega, by omega, by omega, by omega⟩ (Chk.mk (by kernel_rfl) ?_))
    exact ⟨5, 8, rfl, by decide, ⟨rfl, rfl, rfl, rfl, rfl, fun _ _ _ _ => rfl⟩, ⟨rfl, rfl, rfl, rfl, rfl, fun _ _ _ _ => rfl⟩⟩
  · trivial
end
end Go.Proofs.Ytiodcjbpfhfmbaa.Img
