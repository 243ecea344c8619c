/- Plain facts of texts: where the point stands, and which texts are decimals, told both ways. No program and no memory. -/
import Derived.Test.YtekifiblehmafaaDoorD1
namespace Go.Proofs.YtekifiblehmafaaDoor.X
open Go.RowKit Go.Proofs.YtekifiblehmafaaDoorW.PrintWords
set_option linter.unusedVariables false
set_option linter.unusedSimpArgs false

def lead (l : List UInt8) : Nat := (l.takeWhile isDig).length
theorem lead_cons (c : UInt8) (l : List UInt8) : lead (c :: l) = if isDig c then lead l + 1 else 0 := by
  unfold lead; rw [List.takeWhile_cons]; split <;> simp
theorem lead_le (l : List UInt8) : lead l ≤ l.length := (List.takeWhile_sublist _).length_le
theorem lead_all : ∀ l : List UInt8, l.all isDig = true → lead l = l.length
  | [], _ => rfl
  | c :: l, h => by
    rw [List.all_cons, Bool.and_eq_true] at h
    rw [lead_cons, if_pos h.1, lead_all l h.2]; rfl
theorem lead_append (l r : List UInt8) (h : l.all isDig = true) : lead (l ++ r) = l.length + lead r := by
  induction l with
  | nil => simp
  | cons c l ih =>
    rw [List.all_cons, Bool.and_eq_true] at h
    rw [List.cons_append, lead_cons, if_pos h.1, ih h.2, List.length_cons]; omega
/-- Where the digits end a byte stands that is none. -/
theorem lead_stop : ∀ l : List UInt8, l.all isDig = false → lead l < l.length ∧ isDig (l.getD (lead l) 0) = false ∧ l.getD (lead l) 0 ∈ l
  | [], h => by simp at h
  | c :: l, h => by
    rw [lead_cons]
    by_cases hc : isDig c = true
    · rw [if_pos hc]
      rw [List.all_cons, hc, Bool.true_and] at h
      obtain ⟨h1, h2, h3⟩ := lead_stop l h
      refine ⟨by simp; omega, by simpa using h2, ?_⟩
      rw [List.getD_cons_succ]
      exact List.mem_cons_of_mem _ h3
    · rw [if_neg hc]
      exact ⟨by simp, by simpa using hc, by simp⟩
theorem lead_append_stop (l r : List UInt8) (h : l.all isDig = false) : lead (l ++ r) = lead l ∧ (l ++ r).getD (lead l) 0 = l.getD (lead l) 0 := by
  induction l with
  | nil => simp at h
  | cons c l ih =>
    rw [List.cons_append, lead_cons, lead_cons]
    by_cases hc : isDig c = true
    · rw [if_pos hc, if_pos hc]
      rw [List.all_cons, hc, Bool.true_and] at h
      obtain ⟨h1, h2⟩ := ih h
      exact ⟨by rw [h1], by rw [List.getD_cons_succ, List.getD_cons_succ]; exact h2⟩
    · rw [if_neg hc, if_neg hc]; simp

def formT (T : List UInt8) : Option (Nat × Nat) :=
  if lead T = 0 then none
  else if lead T = T.length then some (lead T, lead T)
  else if T.getD (lead T) 0 = 46 then
    if lead (T.drop (lead T + 1)) = 0 then none
    else if lead T + 1 + lead (T.drop (lead T + 1)) = T.length then some (lead T, lead T + 1) else none
  else none

theorem index_one : ∀ T : List UInt8, (46 ∉ T → Lib.index T [46] = -1) ∧ (∀ A B, T = A ++ 46 :: B → 46 ∉ A → Lib.index T [46] = A.length)
  | [] => ⟨fun _ => rfl, fun A B h _ => by simp at h⟩
  | c :: T => by
    obtain ⟨h1, h2⟩ := index_one T
    refine ⟨fun h => ?_, fun A B h hA => ?_⟩
    · have hc : ¬ c = 46 := fun e => h (by rw [e]; exact List.mem_cons_self)
      have hp : [46].isPrefixOf (c :: T) = false := by simp [List.isPrefixOf]; exact fun e => hc e.symm
      rw [Lib.index, hp, h1 (fun hm => h (List.mem_cons_of_mem _ hm))]; rfl
    · cases A with
      | nil =>
        simp only [List.nil_append, List.cons.injEq] at h
        rw [h.1]
        simp [Lib.index, List.isPrefixOf]
      | cons a A =>
        simp only [List.cons_append, List.cons.injEq] at h
        have hc : ¬ c = 46 := fun e => hA (by rw [← h.1, e]; exact List.mem_cons_self)
        have hp : [46].isPrefixOf (c :: T) = false := by simp [List.isPrefixOf]; exact fun e => hc e.symm
        have h3 := h2 A B h.2 (fun hm => hA (List.mem_cons_of_mem _ hm))
        rw [Lib.index, hp, h3]
        have h4 : (((A.length : Int) == -1) : Bool) = false := by
          rw [beq_eq_false_iff_ne]; omega
        simp [h4]
theorem split_at (T : List UInt8) : 46 ∉ T ∨ ∃ A B, T = A ++ 46 :: B ∧ 46 ∉ A := by
  induction T with
  | nil => left; simp
  | cons c T ih =>
    by_cases hc : c = 46
    · right; exact ⟨[], T, by rw [hc]; rfl, by simp⟩
    · rcases ih with h | ⟨A, B, h, hA⟩
      · left; simp only [List.mem_cons, not_or]; exact ⟨fun e => hc e.symm, h⟩
      · right; exact ⟨c :: A, B, by rw [h]; rfl, by simp only [List.mem_cons, not_or]; exact ⟨fun e => hc e.symm, hA⟩⟩
theorem cut_none (T : List UInt8) (h : 46 ∉ T) : Lib.cut T [46] = (T, [], false) := by
  unfold Lib.cut
  rw [(index_one T).1 h, if_neg (by omega)]
theorem cut_some (A B : List UInt8) (h : 46 ∉ A) : Lib.cut (A ++ 46 :: B) [46] = (A, B, true) := by
  unfold Lib.cut
  rw [(index_one _).2 A B rfl h, if_pos (by omega)]
  have e : (A ++ 46 :: B).drop (A.length + 1) = B := by
    rw [show A ++ 46 :: B = (A ++ [46]) ++ B from by simp, List.drop_left' (by simp)]
  simp [e]

theorem allDig_iff (s : ByteArray) : allDig s = true ↔ s.data.toList ≠ [] ∧ s.data.toList.all isDig = true := by
  unfold allDig
  rw [← data_length, Bool.and_eq_true]
  cases s.data.toList <;> simp
/-- Which texts behind a sign are decimals: both ways of telling agree. -/
def goodT (t : ByteArray) : Prop := ¬ (allDig (wholeOf t) = false ∨ (pointed t = true ∧ allDig (partOf t) = false))
theorem wholeOf_data (t : ByteArray) : (wholeOf t).data.toList = (Lib.cut t.data.toList [46]).1 := rfl
theorem partOf_data (t : ByteArray) : (partOf t).data.toList = (Lib.cut t.data.toList [46]).2.1 := rfl
theorem not_allDig (s : ByteArray) (h : allDig s = false) : s.data.toList = [] ∨ s.data.toList.all isDig = false := by
  by_cases h1 : s.data.toList = []
  · exact .inl h1
  · right
    by_cases h2 : s.data.toList.all isDig = true
    · have := (allDig_iff s).2 ⟨h1, h2⟩
      rw [h] at this; cases this
    · simpa using h2
theorem isDig46 : isDig 46 = false := by decide
theorem formT_good (t : ByteArray) (h : goodT t) : formT t.data.toList = some ((wholeOf t).size, if pointed t then (wholeOf t).size + 1 else (wholeOf t).size) := by
  have hw : allDig (wholeOf t) = true := by
    cases h1 : allDig (wholeOf t)
    · exact absurd (.inl h1) h
    · rfl
  obtain ⟨w1, w2⟩ := (allDig_iff _).1 hw
  rw [wholeOf_data] at w1 w2
  rcases split_at t.data.toList with hn | ⟨A, B, e, hA⟩
  · have hc := cut_none _ hn
    have hp : pointed t = false := by unfold pointed; rw [hc]
    have hsz : (wholeOf t).size = t.data.toList.length := by unfold wholeOf; rw [hc]; rfl
    rw [hc] at w1 w2
    have hl := lead_all _ w2
    have hlen : t.data.toList.length ≠ 0 := by rwa [Ne, List.length_eq_zero_iff]
    unfold formT
    rw [hl, if_neg hlen, if_pos rfl, hsz, hp]; rfl
  · have hc := cut_some A B hA
    rw [← e] at hc
    have hp : pointed t = true := by unfold pointed; rw [hc]
    have hq : allDig (partOf t) = true := by
      cases h1 : allDig (partOf t)
      · exact absurd (.inr ⟨hp, h1⟩) h
      · rfl
    obtain ⟨q1, q2⟩ := (allDig_iff _).1 hq
    rw [partOf_data, hc] at q1 q2
    rw [hc] at w1 w2
    have hsz : (wholeOf t).size = A.length := by unfold wholeOf; rw [hc]; rfl
    have hl : lead t.data.toList = A.length := by rw [e, lead_append A _ w2, lead_cons, isDig46]; simp
    have hA0 : A.length ≠ 0 := by rwa [Ne, List.length_eq_zero_iff]
    have hB0 : B.length ≠ 0 := by rwa [Ne, List.length_eq_zero_iff]
    have hd : t.data.toList.drop (A.length + 1) = B := by
      rw [e, show A ++ 46 :: B = (A ++ [46]) ++ B from by simp, List.drop_left' (by simp)]
    have hg : t.data.toList.getD A.length 0 = 46 := by rw [e]; simp [List.getD]
    have hlen : t.data.toList.length = A.length + 1 + B.length := by rw [e]; simp; omega
    unfold formT
    rw [hl, hd, hg, hlen, lead_all B q2, if_neg hA0, if_neg (by omega), if_pos rfl, if_neg hB0, if_pos rfl, hsz, hp]; rfl
theorem formT_bad (t : ByteArray) (h : ¬ goodT t) : formT t.data.toList = none := by
  have h' : allDig (wholeOf t) = false ∨ (pointed t = true ∧ allDig (partOf t) = false) := Classical.not_not.1 h
  rcases split_at t.data.toList with hn | ⟨A, B, e, hA⟩
  · have hc := cut_none _ hn
    have hp : pointed t = false := by unfold pointed; rw [hc]
    rcases h' with h' | h'
    · have h2 := not_allDig _ h'
      rw [wholeOf_data, hc] at h2
      rcases h2 with h2 | h2
      · simp only at h2; rw [h2]; rfl
      · obtain ⟨s1, s2, s3⟩ := lead_stop _ h2
        unfold formT
        by_cases h0 : lead t.data.toList = 0
        · rw [if_pos h0]
        · rw [if_neg h0, if_neg (by simp only at s1; omega), if_neg (fun e46 => hn (by rw [← e46]; exact s3))]
    · rw [hp] at h'; cases h'.1
  · have hc := cut_some A B hA
    rw [← e] at hc
    have hlen : t.data.toList.length = A.length + 1 + B.length := by rw [e]; simp; omega
    by_cases hw : A ≠ [] ∧ A.all isDig = true
    · have hq : allDig (partOf t) = false := by
        rcases h' with h' | h'
        · have := (allDig_iff (wholeOf t)).2 (by rw [wholeOf_data, hc]; exact hw)
          rw [h'] at this; cases this
        · exact h'.2
      have h2 := not_allDig _ hq
      rw [partOf_data, hc] at h2
      have hl : lead t.data.toList = A.length := by rw [e, lead_append A _ hw.2, lead_cons, isDig46]; simp
      have hA0 : A.length ≠ 0 := by rw [Ne, List.length_eq_zero_iff]; exact hw.1
      have hd : t.data.toList.drop (A.length + 1) = B := by
        rw [e, show A ++ 46 :: B = (A ++ [46]) ++ B from by simp, List.drop_left' (by simp)]
      have hg : t.data.toList.getD A.length 0 = 46 := by rw [e]; simp [List.getD]
      unfold formT
      rw [hl, hd, hg, hlen, if_neg hA0, if_neg (by omega), if_pos rfl]
      rcases h2 with h2 | h2
      · simp only at h2; rw [h2]; rfl
      · obtain ⟨s1, _, _⟩ := lead_stop _ h2
        by_cases h0 : lead B = 0
        · rw [if_pos h0]
        · rw [if_neg h0, if_neg (by simp only at s1; omega)]
    · by_cases hA0 : A = []
      · have hl : lead t.data.toList = 0 := by rw [e, hA0, List.nil_append, lead_cons, isDig46]; rfl
        unfold formT
        rw [if_pos hl]
      · have hA1 : A.all isDig = false := by
          cases h1 : A.all isDig
          · rfl
          · exact absurd ⟨hA0, h1⟩ hw
        obtain ⟨s1, s2, s3⟩ := lead_stop _ hA1
        obtain ⟨t1, t2⟩ := lead_append_stop A (46 :: B) hA1
        rw [← e] at t1 t2
        unfold formT
        by_cases h0 : lead t.data.toList = 0
        · rw [if_pos h0]
        · rw [if_neg h0, if_neg (by omega), if_neg (fun e46 => hA (by rw [← e46, t1, t2]; exact s3))]

end Go.Proofs.YtekifiblehmafaaDoor.X
