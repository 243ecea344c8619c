/- The law of order: decimals of as many digits are read in their order. -/
import Derived.Test.YtekifiblehmafaaDoorD11
import Derived.Test.YtekifiblehmafaaDoorX6
namespace Go.Proofs.YtekifiblehmafaaDoor.X
open Go.RowKit Go.Proofs.YtekifiblehmafaaDoorW.PrintWords
set_option linter.unusedVariables false
set_option linter.unusedSimpArgs false

theorem val_zero_all : ∀ l : List Nat, val l = 0 ↔ l.all (· == 0) = true
  | [] => by simp [val]
  | a :: l => by
    have ih := val_zero_all l
    rw [val_cons, List.all_cons, Bool.and_eq_true, ← ih, beq_iff_eq]
    have hp : 0 < 10 ^ l.length := Nat.pow_pos (by omega)
    constructor
    · intro h
      have h1 : a * 10 ^ l.length = 0 := by omega
      refine ⟨?_, by omega⟩
      rcases Nat.mul_eq_zero.1 h1 with h2 | h2
      · exact h2
      · omega
    · rintro ⟨rfl, h⟩
      omega
theorem half_val (D : List Nat) (h : ∀ d ∈ D, d < 10) : halfOut D = if 2 * val D < 10 ^ D.length then -1 else if 2 * val D = 10 ^ D.length then 0 else 1 := by
  cases D with
  | nil => rfl
  | cons d l =>
    have hv := val_lt l (fun x hx => h x (List.mem_cons_of_mem _ hx))
    have hz := val_zero_all l
    have hd := h d List.mem_cons_self
    rw [halfOut_cons, val_cons, List.length_cons, Nat.pow_succ]
    generalize val l = v at *
    generalize 10 ^ l.length = P at *
    by_cases h1 : d < 5
    · have h2 : d * P ≤ 4 * P := Nat.mul_le_mul_right _ (by omega)
      rw [if_pos h1, if_pos (by omega)]
    · rw [if_neg h1]
      by_cases h2 : 5 < d
      · have h3 : 6 * P ≤ d * P := Nat.mul_le_mul_right _ (by omega)
        rw [if_pos h2, if_neg (by omega), if_neg (by omega)]
      · obtain rfl : d = 5 := by omega
        rw [if_neg h2, if_neg (show ¬ 2 * (5 * P + v) < P * 10 by omega)]
        by_cases h3 : v = 0
        · rw [if_pos (hz.1 h3), if_pos (by omega)]
        · rw [if_neg (fun hh => h3 (hz.2 hh)), if_neg (by omega)]
theorem val_lowD : ∀ j n, val (lowD j n) = n % 10 ^ j
  | 0, n => by simp [lowD, val, Nat.mod_one]
  | j + 1, n => by
    rw [lowD, val_cons, lowD_length, val_lowD j n, Nat.pow_succ, Nat.mod_mul, Nat.mul_comm]
    omega
theorem round_parts (b : Bool) (a : Nat) (ha : a ≤ 99999999) (W : Nat) : ∃ v n : Nat, v + 100000000 * n = 65536 * a ∧ v < 100000000 ∧
    lenR b ((W : Int) * 65536 + (dblOut (bs (asU (lowD 8 a)))).1) (dblOut (bs (asU (lowD 8 a)))).2 = (W : Int) * 65536 + (if 2 * v > 100000000 ∨ (2 * v = 100000000 ∧ b = false) then (n : Int) + 1 else n) := by
  have hd := lowD_digits 8 a
  rw [dblOut_half _ (isDig_asU _ hd), digs_asU _ hd]
  have h1 := drounds_val (lowD 8 a) 16
  have hdd := drounds_digits (lowD 8 a) 0 hd 16
  have h3 := val_lt _ hdd
  have hh := half_val _ hdd
  rw [drounds_length, lowD_length] at h3 hh
  rw [lowD_length, val_lowD, Nat.mod_eq_of_lt (by omega)] at h1
  generalize drounds 16 (lowD 8 a, 0) = p at *
  have e8 : (10 : Nat) ^ 8 = 100000000 := by decide
  have e16 : (2 : Nat) ^ 16 = 65536 := by decide
  rw [e8] at h1 h3 hh
  rw [e16] at h1
  refine ⟨val p.1, p.2, h1, h3, ?_⟩
  rw [hh]
  simp only
  generalize val p.1 = v at *
  generalize p.2 = n at *
  unfold lenR
  by_cases c1 : 2 * v < 100000000
  · rw [if_pos c1, if_neg (by omega), if_neg (by omega)]
  · rw [if_neg c1]
    by_cases c2 : 2 * v = 100000000
    · rw [if_pos c2]
      cases b
      · rw [if_pos (.inr ⟨rfl, rfl⟩), if_pos (.inr ⟨c2, rfl⟩)]; omega
      · rw [if_neg (by simp), if_neg (by simp; omega)]
    · rw [if_neg c2, if_pos (.inl (by omega)), if_pos (.inl (by omega))]; omega
theorem near_parts (below : Bool) (A B : List Nat) (hA : ∀ d ∈ A, d < 10) (hB : ∀ d ∈ B, d < 10) (lA : A.length = 8) (lB : B.length = 8) (s : ByteArray)
    (hs : signed s = below) (ht : (signless s).data.toList = asU A ++ 46 :: asU B) (hz : s.size ≤ 18) :
    nearOut s = nearEnd below (lenR below ((val A : Nat) * 65536 + (dblOut (bs (asU B))).1) (dblOut (bs (asU B))).2) := by
  have hdA := isDig_asU _ hA
  have hdB := isDig_asU _ hB
  have hcut : Lib.cut (signless s).data.toList [46] = (asU A, asU B, true) := by rw [ht, cut_some _ _ (no_dot _ hdA)]
  have hw : wholeOf (signless s) = bs (asU A) := by unfold wholeOf; rw [hcut]
  have hp : partOf (signless s) = bs (asU B) := by unfold partOf; rw [hcut]
  have hpt : pointed (signless s) = true := by unfold pointed; rw [hcut]
  have hne : ∀ L : List Nat, L.length = 8 → (bs (asU L)).data.toList ≠ [] := fun L hL h => by
    have : (asU L).length = 0 := by
      show (bs (asU L)).data.toList.length = 0
      rw [h]; rfl
    rw [asU_length] at this; omega
  have w1 : allDig (bs (asU A)) = true := (allDig_iff _).2 ⟨hne A lA, hdA⟩
  have w2 : allDig (bs (asU B)) = true := (allDig_iff _).2 ⟨hne B lB, hdB⟩
  have w3 : (bare (bs (asU A))).size ≤ 8 := by
    have := trimL_len (asU A)
    rw [asU_length] at this
    show (Lib.trimLeftB (asU A) 48).length ≤ 8
    omega
  have h11 : decVal (bare (bs (asU A))).data.toList = val A := (decVal_bare (asU A)).trans (decVal_asU _ hA)
  unfold nearOut
  rw [hw, hp, hpt, if_neg (by omega), if_neg, if_neg (by omega), hs, len_at _ _ _ _ _ _ h11.symm rfl rfl]
  rintro (h | ⟨h, h'⟩)
  · rw [w1] at h; cases h
  · rw [w2] at h'; cases h'
theorem eight_text (n : Nat) : strOfNums ((lowD 8 n).map fun d : Nat => 48 + (d : Int)) = bs (asU (lowD 8 n)) := Go.WideShapes.bytes_inj (by
  rw [strOfNums_data]
  show _ = asU (lowD 8 n)
  unfold asU
  rw [List.map_map]
  refine List.map_congr_left fun d hd => ?_
  show UInt8.ofNat (48 + (d : Int)).toNat = UInt8.ofNat (48 + d)
  congr 1)
theorem near_two (W a : Nat) (hW : W ≤ 9999999) (ha : a ≤ 99999999) : ∃ v n : Nat, v + 100000000 * n = 65536 * a ∧ v < 100000000 ∧
    digits_Near.f ((bs (asU (lowD 8 W)) ++ (⟨#[46]⟩ : ByteArray)) ++ bs (asU (lowD 8 a))) = some ((W : Int) * 65536 + (if 2 * v ≥ 100000000 then (n : Int) + 1 else n), 0) := by
  obtain ⟨v, n, h1, h2, h3⟩ := round_parts false a ha W
  refine ⟨v, n, h1, h2, ?_⟩
  have e : (bs (asU (lowD 8 W)) ++ (⟨#[46]⟩ : ByteArray)) ++ bs (asU (lowD 8 a)) = bs (asU (lowD 8 W) ++ 46 :: asU (lowD 8 a)) := by
    show (bs _ ++ bs [46]) ++ bs _ = _
    rw [bs_append, bs_append, List.append_assoc]; rfl
  rw [e]
  have hne : signed (bs (asU (lowD 8 W) ++ 46 :: asU (lowD 8 a))) = false := by
    have ha : W / 10 ^ 7 % 10 < 10 := Nat.mod_lt _ (by omega)
    show (((45 : UInt8) == UInt8.ofNat (48 + W / 10 ^ 7 % 10)) && _) = false
    generalize W / 10 ^ 7 % 10 = a at *
    have hne : UInt8.ofNat (48 + a) ≠ 45 := by
      intro h
      have := congrArg UInt8.toNat h
      rw [UInt8.toNat_ofNat_of_lt' (by show 48 + a < 256; omega)] at this
      have h45 : (45 : UInt8).toNat = 45 := rfl
      omega
    have hb : ((45 : UInt8) == UInt8.ofNat (48 + a)) = false := by rw [beq_eq_false_iff_ne]; exact Ne.symm hne
    rw [hb, Bool.false_and]
  have ht := signless_no _ hne
  have hp := near_parts false (lowD 8 W) (lowD 8 a) (lowD_digits 8 W) (lowD_digits 8 a) (lowD_length 8 W) (lowD_length 8 a) _ hne (by rw [ht]; rfl) (by
    show (asU (lowD 8 W) ++ 46 :: asU (lowD 8 a)).length ≤ 18
    rw [List.length_append, List.length_cons, asU_length, asU_length, lowD_length, lowD_length]; omega)
  rw [val_lowD, Nat.mod_eq_of_lt (by omega), h3] at hp
  show some (nearOut _) = _
  rw [hp]
  have e2 : (if 2 * v > 100000000 ∨ (2 * v = 100000000 ∧ false = false) then (n : Int) + 1 else n) = if 2 * v ≥ 100000000 then (n : Int) + 1 else n := by
    by_cases c : 2 * v ≥ 100000000
    · rw [if_pos c, if_pos (by simp; omega)]
    · rw [if_neg c, if_neg (by simp; omega)]
  rw [e2, near_in_f]
  split <;> omega
theorem near_two_below (W a : Nat) (hW : W ≤ 9999999) (ha : a ≤ 99999999) : ∃ v n : Nat, v + 100000000 * n = 65536 * a ∧ v < 100000000 ∧
    digits_Near.f ((((⟨#[45]⟩ : ByteArray) ++ bs (asU (lowD 8 W))) ++ (⟨#[46]⟩ : ByteArray)) ++ bs (asU (lowD 8 a))) = some (-((W : Int) * 65536 + (if 2 * v > 100000000 then (n : Int) + 1 else n)), 0) := by
  obtain ⟨v, n, h1, h2, h3⟩ := round_parts true a ha W
  refine ⟨v, n, h1, h2, ?_⟩
  have e : (((⟨#[45]⟩ : ByteArray) ++ bs (asU (lowD 8 W))) ++ (⟨#[46]⟩ : ByteArray)) ++ bs (asU (lowD 8 a)) = bs (45 :: (asU (lowD 8 W) ++ 46 :: asU (lowD 8 a))) := by
    show ((bs [45] ++ bs _) ++ bs [46]) ++ bs _ = _
    rw [bs_append, bs_append, bs_append]; simp
  rw [e]
  have hne : signed (bs (45 :: (asU (lowD 8 W) ++ 46 :: asU (lowD 8 a)))) = true := rfl
  have ht := signless_yes _ hne
  have hp := near_parts true (lowD 8 W) (lowD 8 a) (lowD_digits 8 W) (lowD_digits 8 a) (lowD_length 8 W) (lowD_length 8 a) _ hne (by rw [ht]; rfl) (by
    show (45 :: (asU (lowD 8 W) ++ 46 :: asU (lowD 8 a))).length ≤ 18
    rw [List.length_cons, List.length_append, List.length_cons, asU_length, asU_length, lowD_length, lowD_length]; omega)
  rw [val_lowD, Nat.mod_eq_of_lt (by omega), h3] at hp
  show some (nearOut _) = _
  rw [hp]
  have e2 : (if 2 * v > 100000000 ∨ (2 * v = 100000000 ∧ true = false) then (n : Int) + 1 else n) = if 2 * v > 100000000 then (n : Int) + 1 else n := by
    by_cases c : 2 * v > 100000000
    · rw [if_pos c, if_pos (.inl c)]
    · rw [if_neg c, if_neg (by simp; omega)]
  rw [e2, near_in_t]
  split <;> omega
theorem less_out (a b c : Int) : Ev (fun k => colophonlaw02_DigitsLess.j0 k a b c true) true := by
  refine Ev.step (f := fun k => (colophonlaw02_wakes.f k).bind fun t130 => some t130) (fun k => ?_) (Ev.bind wakes_ev (Ev.now _))
  simp only [colophonlaw02_DigitsLess.j0]
  exact if_pos trivial
theorem eight_f (n : Nat) (h : n ≤ 99999999) : colophonlaw02_eight.f (n : Int) = some (bs (asU (lowD 8 n))) := by
  unfold colophonlaw02_eight.f
  rw [if_pos ⟨by omega, by omega⟩, Int.toNat_natCast, eight_text]
theorem less_key (a b v n v' n' : Nat) (hab : a ≤ b) (h1 : v + 100000000 * n = 65536 * a) (h2 : v < 100000000) (h3 : v' + 100000000 * n' = 65536 * b) (h4 : v' < 100000000) (hb : b ≤ 99999999) :
    (0 ≤ (if 2 * v ≥ 100000000 then (n : Int) + 1 else n) ∧ (if 2 * v ≥ 100000000 then (n : Int) + 1 else n) ≤ (if 2 * v' ≥ 100000000 then (n' : Int) + 1 else n') ∧ (if 2 * v' ≥ 100000000 then (n' : Int) + 1 else n') ≤ 65536) ∧
    (if 2 * v > 100000000 then (n : Int) + 1 else n) ≤ (if 2 * v' > 100000000 then (n' : Int) + 1 else n') := by
  refine ⟨⟨?_, ?_, ?_⟩, ?_⟩ <;> (repeat' split) <;> omega
theorem less_in (W a b : Nat) (hW : W ≤ 9999999) (hab : a ≤ b) (hb : b ≤ 99999999) : Ev (fun k => colophonlaw02_DigitsLess.j0 k (W : Int) (a : Int) (b : Int) false) true := by
  obtain ⟨v1, n1, p1, q1, r1⟩ := near_two W a hW (by omega)
  obtain ⟨v2, n2, p2, q2, r2⟩ := near_two W b hW hb
  obtain ⟨v3, n3, p3, q3, r3⟩ := near_two_below W a hW (by omega)
  obtain ⟨v4, n4, p4, q4, r4⟩ := near_two_below W b hW hb
  obtain ⟨⟨k0, k1, k2⟩, _⟩ := less_key a b v1 n1 v2 n2 hab p1 q1 p2 q2 hb
  obtain ⟨_, k3⟩ := less_key a b v3 n3 v4 n4 hab p3 q3 p4 q4 hb
  have ew := eight_f W (by omega)
  have ea := eight_f a (by omega)
  have eb := eight_f b hb
  have s8 : ∀ n, (bs (asU (lowD 8 n))).size = 8 := fun n => by
    show (asU (lowD 8 n)).length = 8
    rw [asU_length, lowD_length]
  have sw := s8 W
  have sa := s8 a
  have sb := s8 b
  clear s8 p1 q1 p2 q2 p3 q3 p4 q4
  generalize bs (asU (lowD 8 W)) = tw at *
  generalize bs (asU (lowD 8 a)) = ta at *
  generalize bs (asU (lowD 8 b)) = tb at *
  generalize (if 2 * v1 ≥ 100000000 then (n1 : Int) + 1 else n1) = x1 at *
  generalize (if 2 * v2 ≥ 100000000 then (n2 : Int) + 1 else n2) = x2 at *
  generalize (if 2 * v3 > 100000000 then (n3 : Int) + 1 else n3) = x3 at *
  generalize (if 2 * v4 > 100000000 then (n4 : Int) + 1 else n4) = x4 at *
  have wr1 : wrap64 ((W : Int) * 65536) = (W : Int) * 65536 := by unfold wrap64; omega
  have wr2 : wrap64 ((W : Int) * 65536 + 65536) = (W : Int) * 65536 + 65536 := by unfold wrap64; omega
  have s1 : (⟨#[46]⟩ : ByteArray).size = 1 := rfl
  have s2 : (⟨#[45]⟩ : ByteArray).size = 1 := rfl
  refine Ev.step (f := fun k => (colophonlaw02_wakes.f k).bind fun t130 => some t130) (fun k => ?_) (Ev.bind wakes_ev (Ev.now _))
  simp only [colophonlaw02_DigitsLess.j0]
  simp only [ew, ea, eb, r1, r2, r3, r4, Option.bind_some, ByteArray.size_append, sw, sa, sb, s1, s2, wr1, wr2]
  rw [if_neg (by decide), if_pos (by decide), if_pos (by decide), if_pos (by decide), if_pos (by decide), if_pos (by decide), if_pos (by decide), if_pos (by decide), if_pos (by decide), if_pos (by decide), if_pos (by decide)]
  rw [if_pos trivial, if_pos trivial, if_pos trivial, if_pos trivial, if_pos (show (W : Int) * 65536 + x1 ≤ (W : Int) * 65536 + x2 by omega), if_pos (show -((W : Int) * 65536 + x3) ≥ -((W : Int) * 65536 + x4) by omega), if_pos (show (W : Int) * 65536 + x1 ≥ (W : Int) * 65536 by omega), if_pos (show (W : Int) * 65536 + x2 ≤ (W : Int) * 65536 + 65536 by omega)]
theorem less_law (x y z : Int) : ∃ k, colophonlaw02_DigitsLess.f k x y z = some true := by
  refine Ev.rounds (g := fun k => colophonlaw02_DigitsLess.f k x y z) ?_
  by_cases c1 : x < 0
  · exact Ev.congr (fun k => by unfold colophonlaw02_DigitsLess.f; rw [if_pos c1]) (less_out x y z)
  by_cases c2 : x > 9999999
  · exact Ev.congr (fun k => by unfold colophonlaw02_DigitsLess.f; rw [if_neg c1, if_pos c2]) (less_out x y z)
  by_cases c3 : y < 0
  · exact Ev.congr (fun k => by unfold colophonlaw02_DigitsLess.f; rw [if_neg c1, if_neg c2, if_pos c3]) (less_out x y z)
  by_cases c4 : y > 99999999
  · exact Ev.congr (fun k => by unfold colophonlaw02_DigitsLess.f; rw [if_neg c1, if_neg c2, if_neg c3, if_pos c4]) (less_out x y z)
  by_cases c5 : z < y
  · exact Ev.congr (fun k => by unfold colophonlaw02_DigitsLess.f; rw [if_neg c1, if_neg c2, if_neg c3, if_neg c4, if_pos c5]) (less_out x y z)
  by_cases c6 : z > 99999999
  · exact Ev.congr (fun k => by unfold colophonlaw02_DigitsLess.f; rw [if_neg c1, if_neg c2, if_neg c3, if_neg c4, if_neg c5, decide_eq_true c6]) (less_out x y z)
  have h := less_in x.toNat y.toNat z.toNat (by omega) (by omega) (by omega)
  rw [Int.toNat_of_nonneg (by omega), Int.toNat_of_nonneg (by omega), Int.toNat_of_nonneg (by omega)] at h
  exact Ev.congr (fun k => by unfold colophonlaw02_DigitsLess.f; rw [if_neg c1, if_neg c2, if_neg c3, if_neg c4, if_neg c5, decide_eq_false c6]) h
theorem less_calls (a b c : Int) (_ : (Lit.int .i64 a).wf = true) (_ : (Lit.int .i64 b).wf = true) (_ : (Lit.int .i64 c).wf = true) (W : World) (hG : GW W) : Calls Tryd.prog 11 #[.int .i64 a, .int .i64 b, .int .i64 c] W fun e w' => e = .returned (.bool true) ∧ Below W.heap.size W w' := by
  obtain ⟨k, h⟩ := less_law a b c
  exact colophonlaw02_DigitsLess.calls k a b c true W ⟨hG⟩ h
end Go.Proofs.YtekifiblehmafaaDoor.X
