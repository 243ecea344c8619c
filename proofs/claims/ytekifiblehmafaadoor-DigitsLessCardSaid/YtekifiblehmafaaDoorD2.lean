/- The text of a length: what the program's writer and the document's come to, for every number. -/
import Derived.Test.YtekifiblehmafaaDoorD1
import Derived.Test.YtekifiblehmafaaDoorX2
import Derived.Lib.ItoaMem
namespace Go.Proofs.YtekifiblehmafaaDoor.X
open Go.RowKit Go.Proofs.YtekifiblehmafaaDoorW.PrintWords
set_option linter.unusedVariables false
set_option linter.unusedSimpArgs false

def asU (l : List Nat) : List UInt8 := l.map fun d => UInt8.ofNat (48 + d)
theorem asU_append (a b : List Nat) : asU (a ++ b) = asU a ++ asU b := by simp [asU]
theorem asU_length (a : List Nat) : (asU a).length = a.length := by simp [asU]
theorem bs_append (a b : List UInt8) : bs a ++ bs b = bs (a ++ b) := Go.WideShapes.bytes_inj (by
  show (bs a ++ bs b).data.toList = _
  rw [ByteArray.data_append, Array.toList_append]; rfl)
theorem bs_data (s : ByteArray) : bs s.data.toList = s := Go.WideShapes.bytes_inj rfl
theorem strOfNums_one (n : Int) : strOfNums [n] = bs [UInt8.ofNat n.toNat] := rfl
theorem decDigits_asU (u : Nat) : Lib.decDigits u = asU (natDigits u) := by
  induction u using Nat.strongRecOn with
  | _ u ih =>
    rw [Lib.decDigits]
    by_cases h : u < 10
    · rw [dif_pos h, natDigits_small h]; rfl
    · rw [dif_neg h, natDigits_big h, asU_append, ih (u / 10) (by omega)]; rfl

theorem itoa_f (u : Nat) (h : u < 9000000000000000000) : strconv_Itoa.f (u : Int) = some (bs (asU (natDigits u))) := by
  unfold strconv_Itoa.f
  rw [if_pos ⟨by omega, by omega⟩, Lib.itoa_nonneg, decDigits_asU]; rfl

/-- What stands behind the sign. -/
def textBody (u : Nat) : List UInt8 := asU (natDigits (u / 65536)) ++ if u % 65536 = 0 then [] else 46 :: asU (fracD 16 (u % 65536))
def textOut (x : Int) : ByteArray × Bool :=
  if -1099511627776 ≤ x ∧ x ≤ 1099511627776 then (bs ((if x < 0 then [45] else []) ++ textBody x.natAbs), true) else (bs [], false)

theorem and16 (n : Nat) (h : n < 4611686018427387904) : Go.bits .and .i64 (n : Int) 65535 = ((n % 65536 : Nat) : Int) := by
  have := bits_mask .i64 62 (by decide) (fun m h0 h1 => by rw [IntKind.wrap_i64]; omega) 16 (by decide) (n : Int) (by omega) (by omega)
  simpa using this
theorem trimRight_asU (l : List Nat) (h : ∀ d ∈ l, d < 10) : Lib.trimRightB (asU l) 48 = asU (trimZ l) := by
  unfold Lib.trimRightB trimZ asU
  rw [← List.map_reverse]
  have h' : ∀ d ∈ l.reverse, d < 10 := fun d hd => h d (List.mem_reverse.1 hd)
  generalize l.reverse = m at h' ⊢
  rw [List.map_reverse]
  congr 1
  induction m with
  | nil => rfl
  | cons a m ih =>
    have ha := h' a List.mem_cons_self
    simp only [List.map_cons, List.dropWhile_cons]
    have e : (UInt8.ofNat (48 + a) == 48) = (a == 0) := by
      rw [Bool.eq_iff_iff, beq_iff_eq, beq_iff_eq]
      constructor
      · intro h1
        have := congrArg UInt8.toNat h1
        simp at this; omega
      · rintro rfl; rfl
    rw [e]
    split
    · exact ih (fun d hd => h' d (List.mem_cons_of_mem _ hd))
    · rfl
theorem repeat_asU (n : Nat) : Lib.repeatL [48] n = asU (List.replicate n 0) := by
  induction n with
  | zero => rfl
  | succ n ih => rw [Lib.repeatL, ih]; rfl
theorem padded (r : Nat) (hr : r < 65536) : List.replicate (16 - (natDigits (r * 152587890625)).length) 0 ++ natDigits (r * 152587890625) = full 16 r := by
  have hl : (natDigits (r * 152587890625)).length ≤ 16 := natDigits_length 15 _ (by omega)
  apply val_inj
  · rw [List.length_append, List.length_replicate, full_length]; omega
  · intro d hd
    rcases List.mem_append.1 hd with h | h
    · rw [List.eq_of_mem_replicate h]; omega
    · exact natDigits_digits _ d h
  · exact full_digits 16 r hr
  · rw [val_replicate, val_natDigits, (rem16 r hr).2]

theorem part_len (r : Nat) (hr : r < 65536) : (natDigits (r * 152587890625)).length ≤ 16 := natDigits_length 15 _ (by omega)
theorem part_wrap (r : Nat) (hr : r < 65536) : wrap64 ((r : Int) * 152587890625) = ((r * 152587890625 : Nat) : Int) := by unfold wrap64; omega
theorem part_lt (r : Nat) (hr : r < 65536) : r * 152587890625 < 9000000000000000000 := by omega
theorem pad_wrap (n : Nat) (h : n ≤ 16) : wrap64 (16 - (n : Int)) = ((16 - n : Nat) : Int) := by unfold wrap64; omega
theorem text_j0 (u : Nat) (hu : u ≤ 1099511627776) (p : List UInt8) (hp : p.length ≤ 1) (k : Nat) : digits_Text.j0 (k + 1) (u : Int) (bs p) = some (bs (p ++ textBody u), true) := by
  have hl1 : (natDigits (u / 65536)).length ≤ 8 := natDigits_length 7 _ (by omega)
  have e1 : (u : Int) / 65536 = ((u / 65536 : Nat) : Int) := by omega
  simp only [digits_Text.j0]
  rw [e1, itoa_f _ (by omega), and16 u (by omega)]
  simp only [Option.bind_some, bs_size, asU_length, bs_append]
  rw [if_pos (by omega)]
  by_cases h0 : u % 65536 = 0
  · rw [if_pos (by omega)]
    unfold textBody
    rw [if_pos h0, List.append_nil]
  · rw [if_neg (by omega)]
    have hr : u % 65536 < 65536 := Nat.mod_lt _ (by omega)
    unfold textBody
    rw [if_neg h0]
    generalize u % 65536 = r at hr ⊢
    have hpad := padded r hr
    have hl := part_len r hr
    have hl0 := natDigits_pos (r * 152587890625)
    rw [part_wrap r hr, itoa_f _ (part_lt r hr)]
    generalize natDigits (r * 152587890625) = D at hpad hl hl0 ⊢
    generalize natDigits (u / 65536) = W at hl1 ⊢
    have hl3 := fracD_length 16 r
    have e4 : strings_Repeat.f (⟨#[48]⟩ : ByteArray) ((16 - D.length : Nat) : Int) = some (bs (asU (List.replicate (16 - D.length) 0))) := by
      unfold strings_Repeat.f
      rw [if_pos ⟨by omega, by omega, by show 1 * _ ≤ _; omega⟩, Int.toNat_natCast]
      show some (bs (Lib.repeatL [48] _)) = _
      rw [repeat_asU]
    have e5 : strings_TrimRight.f (bs (asU (full 16 r))) (⟨#[48]⟩ : ByteArray) = some (bs (asU (fracD 16 r))) := by
      show (if (48 : UInt8).toNat < 128 ∧ (bs (asU (full 16 r))).size ≤ 9223372036854775807 then some (bs (Lib.trimRightB (asU (full 16 r)) 48)) else none) = _
      rw [if_pos ⟨by decide, by rw [bs_size, asU_length, full_length]; omega⟩, trimRight_asU _ (full_digits 16 _ hr), trimZ_full 16 _ hr (rem16 _ hr).1]
    generalize full 16 r = F at hpad e5
    generalize fracD 16 r = G at e5 hl3 ⊢
    rw [Option.bind_some, bs_size, asU_length, pad_wrap _ hl, e4, Option.bind_some, bs_size, asU_length, List.length_replicate, bs_append, ← asU_append, hpad]
    rw [if_pos (by omega), e5, Option.bind_some, bs_size, asU_length, if_pos (by omega)]
    have e6 : (⟨#[46]⟩ : ByteArray) = bs [46] := rfl
    rw [e6, bs_append, bs_append, bs_size]
    rw [if_pos (by simp only [List.length_append, asU_length, List.length_cons, List.length_nil]; omega)]
    simp

theorem textOut_in (x : Int) (h1 : -1099511627776 ≤ x) (h2 : x ≤ 1099511627776) : textOut x = (bs ((if x < 0 then [45] else []) ++ textBody x.natAbs), true) := by
  unfold textOut; rw [if_pos ⟨h1, h2⟩]
theorem textOut_out (x : Int) (h : ¬ (-1099511627776 ≤ x ∧ x ≤ 1099511627776)) : textOut x = (bs [], false) := by
  unfold textOut; rw [if_neg h]
theorem text_is (x : Int) (k : Nat) : digits_Text.f (k + 1) x = some (textOut x) := by
  unfold digits_Text.f fixed_In.f
  by_cases h1 : -1099511627776 ≤ x
  · rw [if_pos h1, Option.bind_some]
    by_cases h2 : x ≤ 1099511627776
    · rw [if_pos (by simpa using h2), textOut_in x h1 h2]
      by_cases h3 : x < 0
      · rw [if_pos h3, if_pos h3]
        have e : wrap64 (-x) = (x.natAbs : Int) := by unfold wrap64; omega
        rw [e]
        exact text_j0 x.natAbs (by omega) [45] (by simp) k
      · rw [if_neg h3, if_neg h3]
        have e : x = (x.natAbs : Int) := by omega
        have := text_j0 x.natAbs (by omega) [] (by simp) k
        rw [← e] at this
        exact this
    · rw [if_neg (by simpa using h2), textOut_out x (fun h => h2 h.2)]; rfl
  · rw [if_neg h1, textOut_out x (fun h => h1 h.1)]; rfl

/-! ### the document's -/
theorem decimal_is (u : Nat) (hu : u < 4611686018427387904) : Ev (fun n => colophonref02_Decimal.f n (u : Int)) (bs (asU (natDigits u))) := by
  induction u using Nat.strongRecOn with
  | _ u ih =>
    refine Ev.step (f := fun k => if (u : Int) < 10 then (some (strOfNums (([(wrap64 (48 + (u : Int))) % 256] : List Int)))) else ((colophonref02_Decimal.f k (wrap64 (Int.tdiv (u : Int) 10))).bind fun t109 => ((some (([(wrap64 (48 + (Int.tmod (u : Int) 10))) % 256] : List Int) : List Int)).bind fun y110 => (if t109.size + (strOfNums y110).size ≤ 9223372036854775807 then (some (t109 ++ (strOfNums y110))) else (none))))) (fun k => rfl) ?_
    by_cases h : u < 10
    · have e : wrap64 (48 + (u : Int)) % 256 = ((48 + u : Nat) : Int) := by unfold wrap64; omega
      rw [natDigits_small h]
      refine Ev.congr (f := fun _ => some (bs (asU [u]))) (fun k => ?_) (Ev.now _)
      rw [if_pos (by omega), e, strOfNums_one, Int.toNat_natCast]; rfl
    · have e1 : wrap64 (Int.tdiv (u : Int) 10) = ((u / 10 : Nat) : Int) := by
        rw [Int.tdiv_eq_ediv_of_nonneg (by omega)]; unfold wrap64; omega
      have e2 : wrap64 (48 + (Int.tmod (u : Int) 10)) % 256 = ((48 + u % 10 : Nat) : Int) := by
        rw [Int.tmod_eq_emod_of_nonneg (by omega)]; unfold wrap64; omega
      have hl := natDigits_length_le (u / 10)
      rw [natDigits_big h]
      refine Ev.congr (f := fun k => (colophonref02_Decimal.f k ((u / 10 : Nat) : Int)).bind fun t109 => if t109.size + 1 ≤ 9223372036854775807 then some (t109 ++ bs (asU [u % 10])) else none) (fun k => ?_) (Ev.bind (ih (u / 10) (by omega) (by omega)) (Ev.congr (f := fun _ => some (bs (asU (natDigits (u / 10) ++ [u % 10])))) (fun k => ?_) (Ev.now _)))
      · rw [if_neg (by omega), e1, e2]
        simp only [Option.bind_some, strOfNums_one, Int.toNat_natCast]
        rfl
      · rw [bs_size, asU_length, if_pos (by omega), bs_append, ← asU_append]

theorem ref_l0 (m : Nat) : ∀ (r : Nat) (p : List UInt8), r < 65536 → remk m r = 0 → p.length + m ≤ 1000 →
    Ev (fun n => colophonref02_Text.l0 n (bs p) (r : Int)) (bs (p ++ asU (fracD m r)), true) := by
  induction m with
  | zero =>
    intro r p hr h hp
    rw [remk_zero] at h
    subst h
    refine Ev.step (f := fun _ => some (bs p, true)) (fun k => ?_) ?_
    · simp only [colophonref02_Text.l0]
      rw [if_pos (by omega)]
    · rw [fracD_zero]; simp only [asU, List.map_nil, List.append_nil]; exact Ev.now _
  | succ m ih =>
    intro r p hr h hp
    by_cases h0 : r = 0
    · subst h0
      refine Ev.step (f := fun _ => some (bs p, true)) (fun k => ?_) ?_
      · simp only [colophonref02_Text.l0]
        rw [if_pos (by omega)]
      · rw [fracD_zero]; simp only [asU, List.map_nil, List.append_nil]; exact Ev.now _
    · rw [remk_succ] at h
      have hd : r * 10 / 65536 < 10 := by omega
      have := ih (r * 10 % 65536) (p ++ asU [r * 10 / 65536]) (Nat.mod_lt _ (by omega)) h (by rw [List.length_append, asU_length, List.length_singleton]; omega)
      rw [fracD_succ, if_neg h0]
      rw [List.append_assoc, ← asU_append] at this
      refine Ev.step (fun k => ?_) this
      have e1 : wrap64 ((r : Int) * 10) = ((r * 10 : Nat) : Int) := by unfold wrap64; omega
      have e2 : wrap64 (48 + wrap64 (Int.tdiv ((r * 10 : Nat) : Int) 65536)) % 256 = ((48 + r * 10 / 65536 : Nat) : Int) := by
        rw [Int.tdiv_eq_ediv_of_nonneg (by omega)]; unfold wrap64; omega
      have e3 : Int.tmod ((r * 10 : Nat) : Int) 65536 = ((r * 10 % 65536 : Nat) : Int) := by
        rw [Int.tmod_eq_emod_of_nonneg (by omega)]; omega
      simp only [colophonref02_Text.l0]
      rw [if_neg (by omega), Option.bind_some, e1, e2, e3, strOfNums_one, Int.toNat_natCast, bs_size, bs_size, bs_append, if_pos (by simp; omega)]
      rfl

theorem ref_text_j0 (u : Nat) (hu : u ≤ 1099511627776) (p : List UInt8) (hp : p.length ≤ 1) : Ev (fun n => colophonref02_Text.j0 n (u : Int) (bs p)) (bs (p ++ textBody u), true) := by
  have hl1 : (natDigits (u / 65536)).length ≤ 8 := natDigits_length 7 _ (by omega)
  have hr : u % 65536 < 65536 := Nat.mod_lt _ (by omega)
  have e1 : wrap64 (Int.tdiv (u : Int) 65536) = ((u / 65536 : Nat) : Int) := by
    rw [Int.tdiv_eq_ediv_of_nonneg (by omega)]; unfold wrap64; omega
  have e2 : Int.tmod (u : Int) 65536 = ((u % 65536 : Nat) : Int) := by
    rw [Int.tmod_eq_emod_of_nonneg (by omega)]; omega
  unfold textBody
  generalize u % 65536 = r at hr e2 ⊢
  have hrem := (rem16 r hr).1
  refine Ev.step (f := fun k => (colophonref02_Decimal.f k ((u / 65536 : Nat) : Int)).bind fun t114 => (if (bs p).size + t114.size ≤ 9223372036854775807 then (if (r : Int) = 0 then (colophonref02_Text.j1 k (bs p ++ t114) (r : Int)) else (if (bs p ++ t114).size + 1 ≤ 9223372036854775807 then (colophonref02_Text.j1 k ((bs p ++ t114) ++ (⟨#[46]⟩ : ByteArray)) (r : Int)) else (none))) else (none))) (fun k => ?_) ?_
  · simp only [colophonref02_Text.j0]
    rw [e1, e2]
  · refine Ev.bind (decimal_is _ (by omega)) ?_
    generalize natDigits (u / 65536) = W at hl1 ⊢
    by_cases h0 : r = 0
    · rw [if_pos h0]
      subst h0
      refine Ev.congr (f := fun k => colophonref02_Text.j1 k (bs (p ++ asU W)) ((0 : Nat) : Int)) (fun k => ?_) (Ev.step (f := fun k => colophonref02_Text.l0 k (bs (p ++ asU W)) ((0 : Nat) : Int)) (fun k => by simp only [colophonref02_Text.j1]) ?_)
      · rw [bs_size, bs_size, asU_length, if_pos (by omega), if_pos (by omega), bs_append]
      · have := ref_l0 16 0 (p ++ asU W) (by omega) hrem (by rw [List.length_append, asU_length]; omega)
        rw [fracD_zero] at this
        simpa [asU] using this
    · rw [if_neg h0]
      refine Ev.congr (f := fun k => colophonref02_Text.j1 k (bs (p ++ asU W ++ [46])) (r : Int)) (fun k => ?_) (Ev.step (f := fun k => colophonref02_Text.l0 k (bs (p ++ asU W ++ [46])) (r : Int)) (fun k => by simp only [colophonref02_Text.j1]) ?_)
      · have e6 : (⟨#[46]⟩ : ByteArray) = bs [46] := rfl
        rw [bs_append, e6, bs_append, bs_size, bs_size, bs_size, asU_length, if_pos (by omega), if_neg (by omega), if_pos (by rw [List.length_append, asU_length]; omega)]
      · have := ref_l0 16 r (p ++ asU W ++ [46]) hr hrem (by rw [List.length_append, List.length_append, asU_length]; simp; omega)
        simpa using this

theorem ref_text_is (x : Int) : Ev (fun n => colophonref02_Text.f n x) (textOut x) := by
  by_cases h1 : -1099511627776 ≤ x
  · by_cases h2 : x ≤ 1099511627776
    · rw [textOut_in x h1 h2]
      by_cases h3 : x < 0
      · rw [if_pos h3]
        have e : wrap64 (-x) = (x.natAbs : Int) := by unfold wrap64; omega
        refine Ev.congr (fun k => ?_) (ref_text_j0 x.natAbs (by omega) [45] (by simp))
        unfold colophonref02_Text.f colophonref01_In.f
        rw [if_pos (by omega), Option.bind_some, if_pos (by simpa using h2), if_pos h3, e]; rfl
      · rw [if_neg h3]
        have e : x = (x.natAbs : Int) := by omega
        refine Ev.congr (fun k => ?_) (ref_text_j0 x.natAbs (by omega) [] (by simp))
        unfold colophonref02_Text.f colophonref01_In.f
        rw [if_pos (by omega), Option.bind_some, if_pos (by simpa using h2), if_neg h3, ← e]; rfl
    · rw [textOut_out x (fun h => h2 h.2)]
      refine Ev.congr (fun k => ?_) (Ev.now _)
      unfold colophonref02_Text.f colophonref01_In.f
      rw [if_pos (by omega), Option.bind_some, if_neg (by simpa using h2)]; rfl
  · rw [textOut_out x (fun h => h1 h.1)]
    refine Ev.congr (fun k => ?_) (Ev.now _)
    unfold colophonref02_Text.f colophonref01_In.f
    rw [if_neg (by omega)]; rfl

end Go.Proofs.YtekifiblehmafaaDoor.X
