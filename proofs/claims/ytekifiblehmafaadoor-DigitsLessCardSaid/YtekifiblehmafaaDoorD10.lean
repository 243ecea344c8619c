/- The laws on readings, as plain functions: near and exact. -/
import Derived.Test.YtekifiblehmafaaDoorD9
import Derived.Test.YtekifiblehmafaaDoorD3
import Derived.Test.YtekifiblehmafaaDoorX5
namespace Go.Proofs.YtekifiblehmafaaDoor.X
open Go.RowKit Go.Proofs.YtekifiblehmafaaDoorW.PrintWords
set_option linter.unusedVariables false
set_option linter.unusedSimpArgs false
theorem nears_law (s : ByteArray) : ∃ k, colophonlaw02_DigitsNears.f k s = some true := by
  refine Ev.rounds (g := fun k => colophonlaw02_DigitsNears.f k s) ?_
  refine Ev.congr (f := fun k => (colophonref02_Near.f k s).bind fun bt165 => (if (nearOut s).1 = bt165.1 then (if (nearOut s).2 = bt165.2 then ((colophonlaw02_wakes.f k).bind fun t167 => (some t167)) else (some false)) else (some false))) (fun k => rfl) ?_
  refine Ev.bind (near_ev s) ?_
  refine Ev.congr (f := fun k => (colophonlaw02_wakes.f k).bind fun t130 => some t130) (fun k => ?_) (Ev.bind wakes_ev (Ev.now _))
  rw [if_pos rfl, if_pos rfl]
theorem ref_parse_ev (s : ByteArray) : Ev (fun k => colophonref02_Parse.f k s) (if (nearOut s).2 = 0 ∧ (textOut (nearOut s).1).1.toList = s.toList then ((nearOut s).1, true) else (0, false)) := by
  refine Ev.bind (near_ev s) ?_
  by_cases h1 : (nearOut s).2 = 0
  · refine Ev.congr (f := fun k => (colophonref02_Text.f k (nearOut s).1).bind fun bt156 => (if bt156.1.toList = s.toList then (some ((nearOut s).1, true)) else (some (0, false)))) (fun k => by rw [if_pos h1]) ?_
    refine Ev.bind (ref_text_is _) (Ev.congr (fun k => ?_) (Ev.now _))
    by_cases h2 : (textOut (nearOut s).1).1.toList = s.toList
    · rw [if_pos h2, if_pos ⟨h1, h2⟩]
    · rw [if_neg h2, if_neg (fun h => h2 h.2)]
  · refine Ev.congr (fun k => ?_) (Ev.now _)
    rw [if_neg h1, if_neg (fun h => h1 h.1)]
theorem parses_law (s : ByteArray) : ∃ k, colophonlaw02_DigitsParses.f k s = some true := by
  refine Ev.rounds (g := fun k => colophonlaw02_DigitsParses.f k s) ?_
  refine Ev.bind (parse_ev s) (Ev.bind (ref_parse_ev s) ?_)
  refine Ev.congr (f := fun k => (colophonlaw02_wakes.f k).bind fun t130 => some t130) (fun k => ?_) (Ev.bind wakes_ev (Ev.now _))
  rw [if_pos rfl, if_pos (by simp)]
theorem nearEnd_in (b : Bool) (n : Int) (hn : 0 ≤ n) (h : (nearEnd b n).2 = 0) : -1099511627776 ≤ (nearEnd b n).1 ∧ (nearEnd b n).1 ≤ 1099511627776 := by
  unfold nearEnd at h ⊢
  by_cases h1 : n ≤ 1099511627776
  · cases b <;> simp [h1] <;> omega
  · simp [h1] at h
theorem lenOf_nonneg (b : Bool) (v p : ByteArray) (hp : p.data.toList.all isDig = true) : 0 ≤ lenOf b v p := by
  rw [len_at _ _ _ _ _ _ rfl rfl rfl]
  have := dblOut_bound p hp
  unfold lenR; split <;> omega
theorem nearOut_in (s : ByteArray) (h : (nearOut s).2 = 0) : -1099511627776 ≤ (nearOut s).1 ∧ (nearOut s).1 ≤ 1099511627776 := by
  have h' := h
  unfold nearOut at h ⊢
  split at h
  · simp at h
  · rename_i h1
    rw [if_neg h1]
    split at h
    · simp at h
    · rename_i h2
      rw [if_neg h2]
      split at h
      · simp at h
      · rename_i h3
        rw [if_neg h3]
        refine nearEnd_in _ _ (lenOf_nonneg _ _ _ ?_) h
        cases hp : pointed (signless s) with
        | false => rw [partOf_none _ (by rw [hp])]; rfl
        | true =>
          cases h4 : allDig (partOf (signless s))
          · exact absurd (.inr ⟨hp, h4⟩) h2
          · exact allDig_all _ h4
theorem again_law (s : ByteArray) : ∃ k, colophonlaw02_DigitsAgain.f k s = some true := by
  refine Ev.rounds (g := fun k => colophonlaw02_DigitsAgain.f k s) ?_
  refine Ev.bind (parse_ev s) ?_
  by_cases h : (nearOut s).2 = 0 ∧ (textOut (nearOut s).1).1.toList = s.toList
  · have hin := nearOut_in s h.1
    have ht := text_ev (nearOut s).1
    have hok : (textOut (nearOut s).1).2 = true := by rw [textOut_in _ hin.1 hin.2]
    rw [if_pos h]
    refine Ev.congr (f := fun k => (digits_Text.f k (nearOut s).1).bind fun bt178 => (if bt178.2 = true then (if bt178.1.toList = s.toList then ((colophonlaw02_wakes.f k).bind fun t180 => (some t180)) else (some false)) else (some false))) (fun k => by rw [if_pos rfl]) ?_
    refine Ev.bind ht ?_
    refine Ev.congr (f := fun k => (colophonlaw02_wakes.f k).bind fun t130 => some t130) (fun k => ?_) (Ev.bind wakes_ev (Ev.now _))
    rw [if_pos hok, if_pos h.2]
  · rw [if_neg h]
    refine Ev.congr (f := fun k => (colophonlaw02_wakes.f k).bind fun t130 => some t130) (fun k => ?_) (Ev.bind wakes_ev (Ev.now _))
    rw [if_neg (by simp), if_pos rfl]
theorem nears_calls (s : ByteArray) (_ : s.size ≤ 140737488351232) (W : World) (hG : GW W) : Calls Tryd.prog 8 #[.string s] W fun e w' => e = .returned (.bool true) ∧ Below W.heap.size W w' := by
  obtain ⟨k, h⟩ := nears_law s
  exact colophonlaw02_DigitsNears.calls k s true W ⟨hG⟩ h
theorem parses_calls (s : ByteArray) (_ : s.size ≤ 140737488351232) (W : World) (hG : GW W) : Calls Tryd.prog 7 #[.string s] W fun e w' => e = .returned (.bool true) ∧ Below W.heap.size W w' := by
  obtain ⟨k, h⟩ := parses_law s
  exact colophonlaw02_DigitsParses.calls k s true W ⟨hG⟩ h
theorem again_calls (s : ByteArray) (_ : s.size ≤ 140737488351232) (W : World) (hG : GW W) : Calls Tryd.prog 10 #[.string s] W fun e w' => e = .returned (.bool true) ∧ Below W.heap.size W w' := by
  obtain ⟨k, h⟩ := again_law s
  exact colophonlaw02_DigitsAgain.calls k s true W ⟨hG⟩ h
end Go.Proofs.YtekifiblehmafaaDoor.X
