/- The law on texts of lengths, as plain functions: the program's text is the document's, for every number. -/
import Derived.Test.YtekifiblehmafaaDoorD2
import Derived.Test.YtekifiblehmafaaDoorX3
namespace Go.Proofs.YtekifiblehmafaaDoor.X
open Go.RowKit Go.Proofs.YtekifiblehmafaaDoorW.PrintWords
set_option linter.unusedVariables false
set_option linter.unusedSimpArgs false

theorem text_ev (x : Int) : Ev (fun k => digits_Text.f k x) (textOut x) := Ev.step (f := fun _ => some (textOut x)) (fun k => text_is x k) (Ev.now _)
theorem wake_text : textOut (-98304) = (bs [45, 49, 46, 53], true) := by
  rw [textOut_in _ (by omega) (by omega)]
  have e : fracD 16 (98304 % 65536) = [5] := by decide +kernel
  show (bs ([45] ++ (asU (natDigits (98304 / 65536)) ++ 46 :: asU (fracD 16 (98304 % 65536)))), true) = _
  rw [e, natDigits_small (by omega)]
  rfl
theorem wake_half : textOut 32768 = (bs [48, 46, 53], true) := by
  rw [textOut_in _ (by omega) (by omega)]
  have e : fracD 16 (32768 % 65536) = [5] := by decide +kernel
  show (bs ([] ++ (asU (natDigits (32768 / 65536)) ++ 46 :: asU (fracD 16 (32768 % 65536)))), true) = _
  rw [e, natDigits_small (by omega)]
  rfl
theorem wake_near : nearOut ⟨#[48, 46, 53]⟩ = (32768, 0) := by decide +kernel
theorem parse_ev (s : ByteArray) : Ev (fun k => digits_Parse.f k s) (if (nearOut s).2 = 0 ∧ (textOut (nearOut s).1).1.toList = s.toList then ((nearOut s).1, true) else (0, false)) := by
  refine Ev.congr (f := fun k => (digits_Text.f k (nearOut s).1).bind fun bt120 => (if (nearOut s).2 = 0 then (if bt120.1.toList = s.toList then (some ((nearOut s).1, true)) else (some (0, false))) else (some (0, false)))) (fun k => rfl) ?_
  refine Ev.bind (text_ev _) (Ev.congr (fun k => ?_) (Ev.now _))
  by_cases h1 : (nearOut s).2 = 0
  · rw [if_pos h1]
    by_cases h2 : (textOut (nearOut s).1).1.toList = s.toList
    · rw [if_pos h2, if_pos ⟨h1, h2⟩]
    · rw [if_neg h2, if_neg (fun h => h2 h.2)]
  · rw [if_neg h1, if_neg (fun h => h1 h.1)]
theorem wakes_ev : Ev colophonlaw02_wakes.f true := by
  have hp := parse_ev ⟨#[48, 46, 53]⟩
  rw [wake_near, wake_half, if_pos ⟨rfl, rfl⟩] at hp
  refine Ev.bind (text_ev _) ?_
  rw [wake_text]
  refine Ev.bind hp (Ev.congr (fun k => ?_) (Ev.now _))
  rw [if_pos rfl, if_pos (by rw [Lib.toList_data]; rfl), if_pos rfl]
  rfl
theorem texts_law (x : Int) : ∃ k, colophonlaw02_DigitsTexts.f k x = some true := by
  refine Ev.rounds (g := fun k => colophonlaw02_DigitsTexts.f k x) ?_
  refine Ev.bind (text_ev x) (Ev.bind (ref_text_is x) ?_)
  refine Ev.congr (f := fun k => (colophonlaw02_wakes.f k).bind fun t130 => some t130) (fun k => ?_) (Ev.bind wakes_ev (Ev.now _))
  rw [if_pos rfl, if_pos (by simp)]

end Go.Proofs.YtekifiblehmafaaDoor.X
