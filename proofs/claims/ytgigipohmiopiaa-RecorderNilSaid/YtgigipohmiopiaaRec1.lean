/- The tables, and basics. Conditions: none. -/
import Derived.Test.YtgigipohmiopiaaAiArr
import Derived.Test.YtgigipohmiopiaaAiFrz
import Derived.Test.YtgigipohmiopiaaChecked
import Derived.ProofKit
namespace Go.Proofs.Ytgigipohmiopiaa.Img
open Go Go.Proofs.Ytgigipohmiopiaa.AI Go.Proofs
noncomputable section
set_option maxRecDepth 100000
def tabs : List (Nat × TD) := [
  (2, ⟨.int .i64, 1, 8, [.int .i64 0]⟩),
  (3, ⟨.int .i64, 1, 8, [.int .i64 0]⟩),
  (4, ⟨.bool, 1, 1, [.bit false]⟩),
  (5, ⟨.int .u8, 1, 1, [.int .u8 0]⟩),
  (9, ⟨.prim, 1, 16, [.bad]⟩),
  (12, ⟨.int .u64, 1, 8, [.int .u64 0]⟩),
  (13, ⟨.struct [(0, 1, 9), (1, 1, 12)], 2, 24, [.bad, .int .u64 0]⟩),
  (20, ⟨.iface, 1, 16, [.nilI]⟩),
  (21, ⟨.int .i32, 1, 4, [.int .i32 0]⟩),
  (22, ⟨.slice 3, 1, 24, [.nilS]⟩),
  (24, ⟨.ptr, 1, 8, [.nilP]⟩),
  (25, ⟨.slice 22, 1, 24, [.nilS]⟩),
  (29, ⟨.iface, 1, 16, [.nilI]⟩),
  (30, ⟨.iface, 1, 16, [.nilI]⟩),
  (32, ⟨.int .i64, 1, 8, [.int .i64 0]⟩),
  (38, ⟨.struct [(0, 1, 3), (1, 1, 3), (2, 1, 3), (3, 1, 3), (4, 1, 3), (5, 1, 3)], 6, 48, [.int .i64 0, .int .i64 0, .int .i64 0, .int .i64 0, .int .i64 0, .int .i64 0]⟩),
  (39, ⟨.struct [(0, 1, 3), (1, 1, 3), (2, 1, 3), (3, 1, 3), (4, 1, 3), (5, 1, 3)], 6, 48, [.int .i64 0, .int .i64 0, .int .i64 0, .int .i64 0, .int .i64 0, .int .i64 0]⟩),
  (41, ⟨.struct [(0, 6, 39), (6, 1, 3), (7, 1, 25), (8, 1, 3), (9, 1, 3), (10, 1, 4)], 11, 104, [.int .i64 0, .int .i64 0, .int .i64 0, .int .i64 0, .int .i64 0, .int .i64 0, .int .i64 0, .nilS, .int .i64 0, .int .i64 0, .bit false]⟩),
  (42, ⟨.struct [(0, 6, 39), (6, 1, 3), (7, 1, 25), (8, 1, 3), (9, 1, 3), (10, 1, 4)], 11, 104, [.int .i64 0, .int .i64 0, .int .i64 0, .int .i64 0, .int .i64 0, .int .i64 0, .int .i64 0, .nilS, .int .i64 0, .int .i64 0, .bit false]⟩),
  (55, ⟨.int .u32, 1, 4, [.int .u32 0]⟩),
  (59, ⟨.prim, 1, 8, [.nilP]⟩)]
theorem tabsOK : (tabs.all fun p => tdOK Try.prog p.1 p.2) = true := by kernel_rfl
theorem mixed : Try.prog.follows .mixedOrders = true := by kernel_rfl
abbrev TE : Nat := 32
def E0 : Env := env TE tabs []
theorem own0 : ownKnob Try.prog.godebug = none := by kernel_rfl
theorem laidOut0 : Go.laidOutB Try.prog = true := by kernel_rfl
theorem tabE0 : TabOK Try.prog E0 := tabOK_of tabsOK

end
end Go.Proofs.Ytgigipohmiopiaa.Img
