/- What all rows of this seat share: the world in which the library's variables are laid, and what a row's list gives. -/
import Derived.Test.YtckdgcpomkefpaaGreatDoorCards
import Derived.Test.YtckdgcpomkefpaaGreatDoorTie
import Derived.Test.YtckdgcpomkefpaaGreatDoorLay
import Derived.Test.YtckdgcpomkefpaaGreatDoorShelf
import Derived.WalkKit
import Derived.ProofKit
import Derived.OpenShut
import Derived.ShutString
import Derived.SizedLaws
import Derived.Deep.DeepHandedRow
import Derived.Deep.DeepWitnessRowRef
import Derived.Lib.LaidTab
import Derived.Stop.LaidErr
namespace Go.Proofs.YtckdgcpomkefpaaGreatDoor.Row
open Go.ChangeShapes Go.WideShapes Go.ChangeAt Go.RowKit

theorem own : ownKnob Tryz.prog.godebug = none := by kernel_rfl
theorem gPowType : (Tryz.prog.globals[0]?).map (·.type) = some 177 := by kernel_rfl
theorem cellsA : Tryz.prog.cellsOf 177 = 20 := by kernel_rfl
theorem cellsU : Tryz.prog.cellsOf 148 = 1 := by kernel_rfl
theorem underA : Tryz.prog.underlying 177 = some (.array 20 148) := by kernel_rfl
theorem underU : Tryz.prog.underlying 148 = some (.int .u64) := by kernel_rfl

/-- The list that the rows of the layer 5 bear. -/
def laidL : List (String × DataW Unit) := Rows.objGetsRow.laid

theorem pow_of {W : World} (h : laidMetH Tryz.prog laidL W) : Lib.TabIs Tryz.prog W "internal/strconv.uint64pow10" .u64 Lib.pow10Tab := by
  have h' : laidMet Tryz.prog laidL W := h
  exact Lib.tabIs_of_head En.gPow gPowType underA underU cellsU cellsA (laidMet.tail (laidMet.tail h'))

theorem gw_of {W : World} (h : laidMetH Tryz.prog laidL W) (hs : W.ShapedOpen Tryz.prog) : En.GW W := by
  obtain ⟨m, hm⟩ := Tryz.laysM145.s1_3 W hs
  exact ⟨pow_of h, ⟨m, hm⟩, World.block_lt_of_cell? W _ hm⟩

/-! ### A world for the witnesses: the settled one, the variables as their initialisers lay them -/
def setRow (w : World) (g : Nat) (cs : List Value) : World := { w with heap := w.heap.modify g fun
      | .cells _ t frozen => .cells cs.toArray t frozen
      | o => o }
def nums (k : IntKind) (l : List Nat) : List Value := l.map fun n : Nat => .int k n
def b32 : List Nat := [0, 1, 28, 2, 29, 14, 24, 3, 30, 22, 20, 15, 25, 17, 4, 8, 31, 27, 13, 23, 21, 19, 16, 7, 26, 12, 18, 6, 11, 5, 10, 9]
def b64 : List Nat := [0, 1, 56, 2, 57, 49, 28, 3, 61, 58, 42, 50, 38, 29, 17, 4, 62, 47, 59, 36, 45, 43, 51, 22, 53, 39, 33, 30, 24, 18, 12, 5, 63, 55, 48, 27, 60, 41, 37, 16, 46, 35, 44, 21, 52, 32, 23, 11, 54, 26, 40, 15, 34, 20, 31, 10, 25, 14, 19, 9, 13, 8, 7, 6]
def acc : List Nat := [128, 191, 160, 191, 128, 159, 144, 191, 128, 143, 0, 0, 0, 0, 0, 0, 0, 0, 0, 0, 0, 0, 0, 0, 0, 0, 0, 0, 0, 0, 0, 0]
def bytesV (l : List UInt8) : ByteArray := ⟨l.toArray⟩
noncomputable def errW (w : World) (g : Nat) (l : List UInt8) : World := { setRow w g [.iface 190 (.pointer (some ⟨w.heap.size, 0, none⟩))] with heap := (setRow w g [.iface 190 (.pointer (some ⟨w.heap.size, 0, none⟩))]).heap.push (.cells #[.string (bytesV l)] 192 (0, 0)) }
noncomputable def laidWorld (os : Os) : World :=
  errW (errW (setRow (setRow (setRow (setRow (setRow (World.holding Tryz.prog os ⟨#[], #[], []⟩) 0 (Lib.pow10Tab.map fun n => .int .u64 n)) 6 (nums .u8 Go.Pinned.utf8FirstZ)) 7 (nums .u8 acc)) 4 (nums .u8 b32)) 5 (nums .u8 b64))
    3 [118, 97, 108, 117, 101, 32, 111, 117, 116, 32, 111, 102, 32, 114, 97, 110, 103, 101]) 2 [105, 110, 118, 97, 108, 105, 100, 32, 115, 121, 110, 116, 97, 120]
set_option maxRecDepth 100000 in
theorem laid_met (os : Os) : laidMet Tryz.prog laidL (laidWorld os) :=
  laidMet_of_run' 8 (by kernel_rfl) (by kernel_rfl)

end Go.Proofs.YtckdgcpomkefpaaGreatDoor.Row
