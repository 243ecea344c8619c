/- What the world must hold for the library's functions that read variables: Go's table of powers of ten, and a length that the processor's search routines ask for. It stays in every later world. -/
import Derived.Test.YtekifiblehmafaaDoorProg
import Derived.Test.YtekifiblehmafaaDoorWWords
import Derived.Test.YtekifiblehmafaaDoorShelf
import Derived.WalkSmall
import Derived.Lib.LaidTab
namespace Go.Proofs.YtekifiblehmafaaDoor.X
open Go.RowKit Go.Proofs.YtekifiblehmafaaDoorW.PrintWords

theorem sz_mk_ (b : List UInt8) : (ByteArray.mk b.toArray).size = b.length := rfl

theorem ne_nil_ (l : List UInt8) : (l != []) = !l.isEmpty := by cases l <;> simp

structure GW (w : World) : Prop where
  pow : Lib.TabIs Tryd.prog w "internal/strconv.uint64pow10" .u64 Lib.pow10Tab
  len : ∃ m, w.cell? ⟨0, 0, none⟩ = some (.int .i64 m)

theorem gPow : Tryd.prog.globalNamed "internal/strconv.uint64pow10" = some 1 := by kernel_rfl

theorem GW.below {w w' : World} (h : GW w) (hb : Below w.heap.size w w') : GW w' := by
  obtain ⟨h1, ⟨m, h2⟩⟩ := h
  have hc := h1.cell gPow 0 (by decide)
  exact ⟨var?_below hb gPow (World.block_lt_of_cell? w _ hc) h1, ⟨m, pw_cell_below hb h2⟩⟩
theorem GW_below {w w' : World} (h : Aside0 (GW w)) (hb : Below w.heap.size w w') : Aside0 (GW w') := ⟨h.out.below hb⟩

end Go.Proofs.YtekifiblehmafaaDoor.X
