/- What all rows of this seat share: the world in which the library's tables are laid, and what a row's list gives to the walks. -/
import Derived.Test.YtekifiblehmafaaDoorCards
import Derived.Test.YtekifiblehmafaaDoorTie
import Derived.Test.YtekifiblehmafaaDoorXG
import Derived.WalkKit
import Derived.ProofKit
import Derived.OpenShut
import Derived.ShutString
import Derived.SizedLaws
import Derived.Deep.DeepHandedRow
import Derived.Lib.LaidTab
import Derived.Stop.LaidErr
namespace Go.Proofs.YtekifiblehmafaaDoor.Row
open Go.ChangeShapes Go.WideShapes Go.ChangeAt Go.RowKit

theorem own : ownKnob Tryd.prog.godebug = none := by kernel_rfl
theorem gPowType : (Tryd.prog.globals[1]?).map (·.type) = some 130 := by kernel_rfl
theorem cells130 : Tryd.prog.cellsOf 130 = 20 := by kernel_rfl
theorem cells111 : Tryd.prog.cellsOf 111 = 1 := by kernel_rfl

/-- The list that every row of this seat bears. -/
def laidL : List (String × DataW Unit) := Rows.digitsTextsRow.laid

theorem pow_of {W : World} (h : laidMetH Tryd.prog laidL W) : Lib.TabIs Tryd.prog W "internal/strconv.uint64pow10" .u64 Lib.pow10Tab := by
  have h' : laidMet Tryd.prog laidL W := h
  exact Lib.tabIs_of_head X.gPow gPowType Tryd.underlying130 Tryd.underlying111 cells111 cells130 (laidMet.tail (laidMet.tail h'))

theorem gw_of {W : World} (h : laidMetH Tryd.prog laidL W) (hs : W.ShapedOpen Tryd.prog) : X.GW W :=
  ⟨pow_of h, Tryd.laysM145.s1_3 W hs⟩

/-! ### A world for the witnesses: the settled one, the five tables as their initialisers lay them -/
def setRow (w : World) (g : Nat) (cs : List Value) : World := { w with heap := w.heap.modify g fun
      | .cells _ t frozen => .cells cs.toArray t frozen
      | o => o }
def nums (k : IntKind) (l : List Nat) : List Value := l.map fun n : Nat => .int k n
def b32 : List Nat := [0, 1, 28, 2, 29, 14, 24, 3, 30, 22, 20, 15, 25, 17, 4, 8, 31, 27, 13, 23, 21, 19, 16, 7, 26, 12, 18, 6, 11, 5, 10, 9]
def b64 : List Nat := [0, 1, 56, 2, 57, 49, 28, 3, 61, 58, 42, 50, 38, 29, 17, 4, 62, 47, 59, 36, 45, 43, 51, 22, 53, 39, 33, 30, 24, 18, 12, 5, 63, 55, 48, 27, 60, 41, 37, 16, 46, 35, 44, 21, 52, 32, 23, 11, 54, 26, 40, 15, 34, 20, 31, 10, 25, 14, 19, 9, 13, 8, 7, 6]
def acc : List Nat := [128, 191, 160, 191, 128, 159, 144, 191, 128, 143, 0, 0, 0, 0, 0, 0, 0, 0, 0, 0, 0, 0, 0, 0, 0, 0, 0, 0, 0, 0, 0, 0]
noncomputable def laidWorld (os : Os) : World :=
  setRow (setRow (setRow (setRow (setRow (World.holding Tryd.prog os ⟨#[], #[], []⟩) 1 (Lib.pow10Tab.map fun n => .int .u64 n)) 2 (nums .u8 Go.Pinned.utf8FirstZ)) 3 (nums .u8 acc)) 4 (nums .u8 b32)) 5 (nums .u8 b64)
set_option maxRecDepth 100000 in
theorem laid_met (os : Os) : laidMet Tryd.prog laidL (laidWorld os) :=
  laidMet_of_run' 8 (by kernel_rfl) (by kernel_rfl)

end Go.Proofs.YtekifiblehmafaaDoor.Row
