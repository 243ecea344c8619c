/- What the world must hold for the library's functions that read variables: Go's table of powers of ten, and a length that the processor's search routines ask for. Blocks below LGn stay as they are. -/
import Derived.Test.YtckdgcpomkefpaaGreatDoorProg
import Derived.WalkSmall
import Derived.Lib.LaidTab
import Derived.Lib.ItoaNum
import Derived.KernelRfl
namespace Go.Proofs.YtckdgcpomkefpaaGreatDoor.En
open Go
def LGn : Nat := 2
structure GW (w : World) : Prop where
  pow : Lib.TabIs Tryz.prog w "internal/strconv.uint64pow10" .u64 Lib.pow10Tab
  len : ∃ m, w.cell? ⟨1, 0, none⟩ = some (.int .i64 m)
  size : LGn ≤ w.heap.size
theorem gPow : Tryz.prog.globalNamed "internal/strconv.uint64pow10" = some 0 := by kernel_rfl
theorem GW.keep {w w' : World} (h : GW w) (hb : ∀ β, β < LGn → w'.heap[β]? = w.heap[β]?) : GW w' := by
  obtain ⟨h1, ⟨m, h2⟩, h3⟩ := h
  refine ⟨?_, ⟨m, ?_⟩, ?_⟩
  · unfold Lib.TabIs World.var? at h1 ⊢
    simp only [gPow, Option.bind_some] at h1 ⊢
    rw [hb _ (by decide)]
    exact h1
  · rw [← h2]
    exact World.cell?_of_block (hb _ (show 1 < LGn by decide))
  · have h4 : w.heap[1]? = some w.heap[1] := Array.getElem?_eq_getElem (show 1 < w.heap.size from h3)
    have h5 := hb 1 (by decide)
    rw [h4] at h5
    exact (Array.getElem?_eq_some_iff.1 h5).1
end Go.Proofs.YtckdgcpomkefpaaGreatDoor.En
