/- The tables, and the small functions' contracts. Conditions: none. -/
import Derived.Test.YtiodcjbpfhfmbaaAiArr
import Derived.Test.YtiodcjbpfhfmbaaAiMore2
import Derived.Test.YtiodcjbpfhfmbaaChecked
import Derived.ProofKit
namespace Go.Proofs.Ytiodcjbpfhfmbaa.Img
open Go Go.Proofs.Ytiodcjbpfhfmbaa.AI Go.Proofs
noncomputable section
set_option maxRecDepth 100000
def tabs : List (Nat × TD) := [
  (2, ⟨.int .i64, 1, 8, [.int .i64 0]⟩),
  (3, ⟨.int .i64, 1, 8, [.int .i64 0]⟩),
  (4, ⟨.bool, 1, 1, [.bit false]⟩),
  (5, ⟨.int .u8, 1, 1, [.int .u8 0]⟩),
  (9, ⟨.prim, 1, 16, [.bad]⟩),
  (12, ⟨.int .u64, 1, 8, [.int .u64 0]⟩),
  (13, ⟨.struct [(0, 1, 9), (1, 1, 12)], 2, 24, [.bad, .int .u64 0]⟩),
  (20, ⟨.iface, 1, 16, [.nilI]⟩),
  (21, ⟨.int .i32, 1, 4, [.int .i32 0]⟩),
  (22, ⟨.slice 53, 1, 24, [.nilS]⟩),
  (25, ⟨.slice 4, 1, 24, [.nilS]⟩),
  (26, ⟨.slice 57, 1, 24, [.nilS]⟩),
  (27, ⟨.struct [(0, 1, 25), (1, 1, 25), (2, 1, 3), (3, 1, 3), (4, 1, 26)], 5, 88, [.nilS, .nilS, .int .i64 0, .int .i64 0, .nilS]⟩),
  (28, ⟨.struct [(0, 1, 25), (1, 1, 25), (2, 1, 3), (3, 1, 3), (4, 1, 26)], 5, 88, [.nilS, .nilS, .int .i64 0, .int .i64 0, .nilS]⟩),
  (29, ⟨.iface, 1, 16, [.nilI]⟩),
  (30, ⟨.iface, 1, 16, [.nilI]⟩),
  (38, ⟨.struct [(0, 1, 25), (1, 1, 4), (2, 1, 4)], 3, 32, [.nilS, .bit false, .bit false]⟩),
  (39, ⟨.struct [(0, 1, 25), (1, 1, 4), (2, 1, 4)], 3, 32, [.nilS, .bit false, .bit false]⟩),
  (44, ⟨.slice 49, 1, 24, [.nilS]⟩),
  (47, ⟨.int .u32, 1, 4, [.int .u32 0]⟩),
  (48, ⟨.struct [(0, 1, 47), (1, 1, 4), (2, 1, 4)], 3, 8, [.int .u32 0, .bit false, .bit false]⟩),
  (49, ⟨.struct [(0, 1, 47), (1, 1, 4), (2, 1, 4)], 3, 8, [.int .u32 0, .bit false, .bit false]⟩),
  (52, ⟨.struct [(0, 1, 3), (1, 1, 4)], 2, 16, [.int .i64 0, .bit false]⟩),
  (53, ⟨.struct [(0, 1, 3), (1, 1, 4)], 2, 16, [.int .i64 0, .bit false]⟩),
  (54, ⟨.slice 47, 1, 24, [.nilS]⟩),
  (56, ⟨.struct [(0, 1, 3), (1, 1, 3)], 2, 16, [.int .i64 0, .int .i64 0]⟩),
  (57, ⟨.struct [(0, 1, 3), (1, 1, 3)], 2, 16, [.int .i64 0, .int .i64 0]⟩),
  (61, ⟨.int .i64, 1, 8, [.int .i64 0]⟩),
  (79, ⟨.prim, 1, 8, [.nilP]⟩)]
theorem tabsOK : (tabs.all fun p => tdOK Try.prog p.1 p.2) = true := by kernel_rfl
theorem mixed : Try.prog.follows .mixedOrders = true := by kernel_rfl
abbrev TE : Nat := 61
def E0 : Env := env TE tabs []
theorem own0 : ownKnob Try.prog.godebug = none := by kernel_rfl
theorem laidOut0 : Go.laidOutB Try.prog = true := by kernel_rfl
theorem tabE0 : TabOK Try.prog E0 := tabOK_of tabsOK

end
end Go.Proofs.Ytiodcjbpfhfmbaa.Img
