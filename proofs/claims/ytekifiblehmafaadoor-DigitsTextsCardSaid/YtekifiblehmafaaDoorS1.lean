/- The walk of the law on texts of lengths, out of its plain form. -/
import Derived.Test.YtekifiblehmafaaDoorD3
namespace Go.Proofs.YtekifiblehmafaaDoor.X
open Go.RowKit Go.Proofs.YtekifiblehmafaaDoorW.PrintWords
theorem texts_calls (a : Int) (_ : (Lit.int .i64 a).wf = true) (W : World) (hG : GW W) : Calls Tryd.prog 6 #[.int .i64 a] W fun e w' => e = .returned (.bool true) ∧ Below W.heap.size W w' := by
  obtain ⟨k, h⟩ := texts_law a
  exact colophonlaw02_DigitsTexts.calls k a true W ⟨hG⟩ h
end Go.Proofs.YtekifiblehmafaaDoor.X
