/- The law back and forth: what a length's text is read as. -/
import Derived.Test.YtekifiblehmafaaDoorD10
namespace Go.Proofs.YtekifiblehmafaaDoor.X
open Go.RowKit Go.Proofs.YtekifiblehmafaaDoorW.PrintWords
set_option linter.unusedVariables false
set_option linter.unusedSimpArgs false

theorem dbl_val : ∀ l : List Nat, val (dbl l).1 + 10 ^ l.length * (dbl l).2 = 2 * val l
  | [] => rfl
  | a :: l => by
    have ih := dbl_val l
    rw [dbl_cons]
    simp only
    rw [val_cons, val_cons, dbl_length, List.length_cons, Nat.pow_succ]
    generalize (dbl l).2 = c at *
    generalize val (dbl l).1 = v at *
    generalize val l = y at *
    generalize 10 ^ l.length = P at *
    have e := Nat.div_add_mod (2 * a + c) 10
    generalize (2 * a + c) / 10 = q at *
    generalize (2 * a + c) % 10 = r at *
    have h1 : r * P + P * 10 * q = (2 * a + c) * P := by
      rw [← e, Nat.add_mul, Nat.mul_comm P 10, Nat.mul_assoc, Nat.mul_assoc, Nat.mul_comm P q]
      omega
    have h2 : (2 * a + c) * P = 2 * (a * P) + P * c := by rw [Nat.add_mul, Nat.mul_assoc, Nat.mul_comm c P]
    omega
theorem drounds_val (l : List Nat) : ∀ k, val (drounds k (l, 0)).1 + 10 ^ l.length * (drounds k (l, 0)).2 = 2 ^ k * val l
  | 0 => by simp [drounds_zero]
  | k + 1 => by
    have ih := drounds_val l k
    have hl := drounds_length l 0 k
    have h1 := dbl_val (drounds k (l, 0)).1
    rw [hl] at h1
    rw [drounds_succ]
    simp only
    generalize (drounds k (l, 0)).1 = D at *
    generalize (drounds k (l, 0)).2 = n at *
    rw [Nat.mul_add, Nat.pow_succ, Nat.mul_comm (2 ^ k) 2, Nat.mul_assoc, ← ih]
    generalize 10 ^ l.length = P at *
    have h2 : P * (2 * n) = 2 * (P * n) := by rw [Nat.mul_left_comm]
    omega
theorem fracD_val : ∀ k r, remk k r = 0 → val (fracD k r) * 65536 = r * 10 ^ (fracD k r).length
  | 0, r, h => by
    rw [remk_zero] at h
    subst h
    rw [fracD_zero]; rfl
  | k + 1, r, h => by
    rw [remk_succ] at h
    have ih := fracD_val k _ h
    rw [fracD_succ]
    by_cases h0 : r = 0
    · rw [if_pos h0]; subst h0; rfl
    · rw [if_neg h0, val_cons, List.length_cons, Nat.add_mul, ih, Nat.pow_succ]
      generalize 10 ^ (fracD k (r * 10 % 65536)).length = P
      have e := Nat.div_add_mod (r * 10) 65536
      generalize r * 10 / 65536 = q at *
      generalize r * 10 % 65536 = s at *
      have h1 : r * (P * 10) = r * 10 * P := by rw [Nat.mul_comm P 10, Nat.mul_assoc]
      rw [h1, ← e, Nat.add_mul, Nat.mul_assoc 65536, Nat.mul_comm 65536]
theorem val_zero_half (D : List Nat) (h : val D = 0) : halfOut D = -1 := by
  cases D with
  | nil => rfl
  | cons d l =>
    rw [val_cons] at h
    have h1 : d * 10 ^ l.length = 0 := by omega
    have h2 : d = 0 := by
      rcases Nat.mul_eq_zero.1 h1 with h3 | h3
      · exact h3
      · exact absurd h3 (Nat.ne_of_gt (Nat.pow_pos (by omega)))
    rw [halfOut_cons, if_pos (by omega)]
theorem exact_key (P v n r : Nat) (hP : 0 < P) (hv : v < P) (h : v + P * n = r * P) : n = r ∧ v = 0 := by
  have h1 : (v + P * n) / P = n := by rw [Nat.add_mul_div_left _ _ hP, Nat.div_eq_of_lt hv, Nat.zero_add]
  have h2 : (r * P) / P = r := Nat.mul_div_cancel _ hP
  have h3 : n = r := by rw [← h1, h, h2]
  subst h3
  rw [Nat.mul_comm n P] at h
  exact ⟨rfl, by omega⟩
theorem isDig_asU (l : List Nat) (h : ∀ d ∈ l, d < 10) : (asU l).all isDig = true := by
  rw [List.all_eq_true]
  intro c hc
  obtain ⟨d, hd, rfl⟩ := List.mem_map.1 hc
  have := h d hd
  unfold isDig
  rw [UInt8.toNat_ofNat_of_lt' (by show 48 + d < 256; omega)]
  simp; omega
theorem digs_asU (l : List Nat) (h : ∀ d ∈ l, d < 10) : digs (bs (asU l)) = l := by
  show ((asU l).map fun c => c.toNat - 48) = l
  unfold asU
  rw [List.map_map]
  refine (List.map_congr_left fun d hd => ?_).trans (List.map_id l)
  have := h d hd
  show (UInt8.ofNat (48 + d)).toNat - 48 = d
  rw [UInt8.toNat_ofNat_of_lt' (by show 48 + d < 256; omega)]
  omega
theorem decVal_asU (l : List Nat) (h : ∀ d ∈ l, d < 10) : decVal (asU l) = val l := by
  have e : ∀ (l : List Nat) (n : Nat), (∀ d ∈ l, d < 10) → (asU l).foldl (fun n c => 10 * n + (c.toNat - 48)) n = l.foldl (fun n d => 10 * n + d) n := by
    intro l
    induction l with
    | nil => intro n _; rfl
    | cons a l ih =>
      intro n hl
      have ha := hl a List.mem_cons_self
      show (asU l).foldl _ (10 * n + ((UInt8.ofNat (48 + a)).toNat - 48)) = l.foldl _ (10 * n + a)
      rw [UInt8.toNat_ofNat_of_lt' (by show 48 + a < 256; omega), ih _ (fun d hd => hl d (List.mem_cons_of_mem _ hd)), show 48 + a - 48 = a from by omega]
  exact e l 0 h
theorem dblOut_exact (r : Nat) (hr : r < 65536) : dblOut (bs (asU (fracD 16 r))) = ((r : Int), -1) := by
  have hd := fracD_digits 16 r hr
  rw [dblOut_half _ (isDig_asU _ hd), digs_asU _ hd]
  have h1 := drounds_val (fracD 16 r) 16
  have h2 := fracD_val 16 r (rem16 r hr).1
  have h3 := val_lt _ (drounds_digits (fracD 16 r) 0 hd 16)
  rw [drounds_length] at h3
  have h4 : 2 ^ 16 * val (fracD 16 r) = val (fracD 16 r) * 65536 := by rw [Nat.mul_comm]
  rw [h4, h2] at h1
  obtain ⟨e1, e2⟩ := exact_key _ _ _ _ (Nat.pow_pos (by omega)) h3 h1
  rw [e1, val_zero_half _ e2]
theorem no_dot (l : List UInt8) (h : l.all isDig = true) : (46 : UInt8) ∉ l := fun hm => by
  have := List.all_eq_true.1 h _ hm
  rw [isDig46] at this
  cases this
theorem trimL_len (l : List UInt8) : (Lib.trimLeftB l 48).length ≤ l.length := (List.dropWhile_sublist _).length_le
theorem body_near (u : Nat) (hu : u ≤ 1099511627776) (t : ByteArray) (ht : t.data.toList = textBody u) :
    allDig (wholeOf t) = true ∧ (pointed t = true → allDig (partOf t) = true) ∧ (bare (wholeOf t)).size ≤ 8 ∧ (∀ b, lenOf b (bare (wholeOf t)) (partOf t) = u) ∧ t.size ≤ 25 := by
  have hq := natDigits_digits (u / 65536)
  have hr : u % 65536 < 65536 := Nat.mod_lt _ (by omega)
  have hf := fracD_digits 16 _ hr
  have hlq := natDigits_length 7 (u / 65536) (by omega)
  have hlp := natDigits_pos (u / 65536)
  have hlf := fracD_length 16 (u % 65536)
  have hdq := isDig_asU _ hq
  have hdf := isDig_asU _ hf
  have hvq := val_natDigits (u / 65536)
  have hcut : Lib.cut t.data.toList [46] = (asU (natDigits (u / 65536)), asU (fracD 16 (u % 65536)), decide (u % 65536 ≠ 0)) := by
    rw [ht]
    unfold textBody
    by_cases h0 : u % 65536 = 0
    · rw [if_pos h0, List.append_nil, cut_none _ (no_dot _ hdq), h0, fracD_zero]; rfl
    · rw [if_neg h0, cut_some _ _ (no_dot _ hdq)]; simp [h0]
  have hw : wholeOf t = bs (asU (natDigits (u / 65536))) := by unfold wholeOf; rw [hcut]
  have hp : partOf t = bs (asU (fracD 16 (u % 65536))) := by unfold partOf; rw [hcut]
  have hpt : pointed t = decide (u % 65536 ≠ 0) := by unfold pointed; rw [hcut]
  have hsz : t.size ≤ 25 := by
    rw [← data_length, ht]
    unfold textBody
    rw [List.length_append, asU_length]
    split <;> simp [asU_length] <;> omega
  rw [hw, hp, hpt]
  refine ⟨?_, ?_, ?_, ?_, hsz⟩
  · rw [allDig_iff]
    refine ⟨?_, hdq⟩
    intro h
    have : (asU (natDigits (u / 65536))).length = 0 := by
      show (bs (asU (natDigits (u / 65536)))).data.toList.length = 0
      rw [h]; rfl
    rw [asU_length] at this; omega
  · intro h
    rw [allDig_iff]
    refine ⟨?_, hdf⟩
    intro h2
    have h3 : (asU (fracD 16 (u % 65536))).length = 0 := by
      show (bs (asU (fracD 16 (u % 65536)))).data.toList.length = 0
      rw [h2]; rfl
    rw [asU_length] at h3
    exact fracD_end 16 _ hr (rem16 _ hr).1 (of_decide_eq_true h) (List.length_eq_zero_iff.1 h3)
  · have := trimL_len (asU (natDigits (u / 65536)))
    rw [asU_length] at this
    show (Lib.trimLeftB (asU (natDigits (u / 65536))) 48).length ≤ 8
    omega
  · intro b
    have h11 : decVal (bare (bs (asU (natDigits (u / 65536))))).data.toList = u / 65536 := by
      refine (decVal_bare (asU (natDigits (u / 65536)))).trans ?_
      rw [decVal_asU _ hq, hvq]
    rw [len_at _ _ _ _ _ _ h11.symm rfl rfl, dblOut_exact _ hr]
    simp only
    rw [len_low]
    omega
theorem near_back (x : Int) (h1 : -1099511627776 ≤ x) (h2 : x ≤ 1099511627776) : nearOut (textOut x).1 = (x, 0) ∧ (textOut x).1.size ≤ 26 := by
  rw [textOut_in x h1 h2]
  have hb := body_near x.natAbs (by omega)
  have key : ∀ s : ByteArray, signed s = decide (x < 0) → (signless s).data.toList = textBody x.natAbs → s.size ≤ (signless s).size + 1 → nearOut s = (x, 0) ∧ s.size ≤ 26 := by
    intro s hs ht hz
    obtain ⟨b1, b2, b3, b4, b5⟩ := hb _ ht
    refine ⟨?_, by omega⟩
    unfold nearOut
    rw [if_neg (by omega), if_neg, if_neg (by omega), b4, hs]
    · unfold nearEnd
      rw [if_pos (by omega)]
      by_cases h3 : x < 0
      · simp [h3]; omega
      · simp [h3]; omega
    · rintro (h | ⟨h, h'⟩)
      · rw [b1] at h; cases h
      · rw [b2 h] at h'; cases h'
  by_cases h3 : x < 0
  · simp only [h3, if_true]
    have hs : signed (bs ([45] ++ textBody x.natAbs)) = true := rfl
    have ht := signless_yes (bs ([45] ++ textBody x.natAbs)) hs
    have ht' : (signless (bs ([45] ++ textBody x.natAbs))).data.toList = textBody x.natAbs := ht
    refine key _ (by rw [hs]; simp [h3]) ht' ?_
    rw [← data_length, ← data_length, ht']
    show ([45] ++ textBody x.natAbs).length ≤ _
    simp
  · simp only [h3, if_false]
    have hs : signed (bs ([] ++ textBody x.natAbs)) = false := by
      obtain ⟨a, l, e, ha⟩ : ∃ a l, natDigits (x.natAbs / 65536) = a :: l ∧ a < 10 := by
        have hp := natDigits_pos (x.natAbs / 65536)
        have hd := natDigits_digits (x.natAbs / 65536)
        cases hn : natDigits (x.natAbs / 65536) with
        | nil => rw [hn] at hp; simp at hp
        | cons a l => exact ⟨a, l, rfl, hd a (by rw [hn]; exact List.mem_cons_self)⟩
      show Lib.hasPrefix (textBody x.natAbs) [45] = false
      unfold textBody
      rw [e]
      have hne : UInt8.ofNat (48 + a) ≠ 45 := by
        intro h
        have := congrArg UInt8.toNat h
        rw [UInt8.toNat_ofNat_of_lt' (by show 48 + a < 256; omega)] at this
        have h45 : (45 : UInt8).toNat = 45 := rfl
        omega
      have hb : ((45 : UInt8) == UInt8.ofNat (48 + a)) = false := by rw [beq_eq_false_iff_ne]; exact Ne.symm hne
      show (((45 : UInt8) == UInt8.ofNat (48 + a)) && _) = false
      rw [hb, Bool.false_and]
    have ht := signless_no (bs ([] ++ textBody x.natAbs)) hs
    have ht' : (signless (bs ([] ++ textBody x.natAbs))).data.toList = textBody x.natAbs := ht
    refine key _ (by rw [hs]; simp [h3]) ht' ?_
    rw [← data_length, ← data_length, ht']
    show ([] ++ textBody x.natAbs).length ≤ _
    simp
theorem back_j0_out (x : Int) : Ev (fun k => colophonlaw02_DigitsBack.j0 k x (bs []) false false) true := by
  refine Ev.step (f := fun k => (colophonlaw02_wakes.f k).bind fun t130 => some t130) (fun k => ?_) (Ev.bind wakes_ev (Ev.now _))
  simp only [colophonlaw02_DigitsBack.j0]
  rw [if_neg (by decide), if_neg (by decide)]
theorem back_law (x : Int) : ∃ k, colophonlaw02_DigitsBack.f k x = some true := by
  refine Ev.rounds (g := fun k => colophonlaw02_DigitsBack.f k x) ?_
  refine Ev.bind (text_ev x) ?_
  by_cases hin : -1099511627776 ≤ x ∧ x ≤ 1099511627776
  · obtain ⟨hn, hz⟩ := near_back x hin.1 hin.2
    have hp := parse_ev (textOut x).1
    have hok : (textOut x).2 = true := by rw [textOut_in _ hin.1 hin.2]
    rw [hn, if_pos ⟨rfl, rfl⟩] at hp
    refine Ev.congr (f := fun k => colophonlaw02_DigitsBack.j0 k x (textOut x).1 true false) (fun k => ?_) ?_
    · rw [hok, if_pos hin.1, if_neg (by simp [hin.2]), if_pos rfl]
    · refine Ev.step (f := fun k => (digits_Parse.f k (textOut x).1).bind fun bt170 => ((digits_Near.f (textOut x).1).bind fun bt172 => (if bt170.2 = true then (if bt170.1 = x then (if bt172.2 = 0 then (if bt172.1 = x then (if ((textOut x).1.size : Int) ≤ 26 then ((colophonlaw02_wakes.f k).bind fun t174 => (some t174)) else (some false)) else (some false)) else (some false)) else (some false)) else (some false)))) (fun k => ?_) (Ev.bind hp ?_)
      · simp only [colophonlaw02_DigitsBack.j0]
        rw [if_neg (by decide)]; rfl
      · refine Ev.congr (f := fun k => (colophonlaw02_wakes.f k).bind fun t130 => some t130) (fun k => ?_) (Ev.bind wakes_ev (Ev.now _))
        have e : digits_Near.f (textOut x).1 = some (x, 0) := by rw [← hn]; rfl
        rw [e, Option.bind_some, if_pos rfl, if_pos rfl, if_pos rfl, if_pos rfl, if_pos (by omega)]
  · rw [textOut_out x hin]
    refine Ev.congr (fun k => ?_) (back_j0_out x)
    by_cases h1 : x ≥ -1099511627776
    · rw [if_pos h1, if_neg (by simp; omega), if_neg (by decide), Lib.toList_data]; rfl
    · rw [if_neg h1, if_neg (by decide), if_neg (by decide), Lib.toList_data]; rfl
theorem back_calls (a : Int) (_ : (Lit.int .i64 a).wf = true) (W : World) (hG : GW W) : Calls Tryd.prog 9 #[.int .i64 a] W fun e w' => e = .returned (.bool true) ∧ Below W.heap.size W w' := by
  obtain ⟨k, h⟩ := back_law a
  exact colophonlaw02_DigitsBack.calls k a true W ⟨hG⟩ h
end Go.Proofs.YtekifiblehmafaaDoor.X
