/- Part 9 of a proof: what it needs of the program's functions as plain Lean functions, with the proof that the machine's calls come to them, and of plain laws; put together out of smaller texts. No conditions besides those that each statement names. -/
import Derived.Test.YtckdgcpomkefpaaGreatDoorPa5
import Derived.Test.YtckdgcpomkefpaaGreatDoorPa7
import Derived.Test.YtckdgcpomkefpaaGreatDoorPa8
section
set_option linter.unusedVariables false
set_option linter.unusedSimpArgs false
set_option maxRecDepth 100000
namespace Go.Proofs.YtckdgcpomkefpaaGreatDoor.En
open Go
attribute [local irreducible] Dg.drounds
theorem inB_iff (n : Int) : inB n = decide (-1099511627776 ≤ n ∧ n ≤ 1099511627776) := by
  unfold inB
  rw [Bool.eq_iff_iff]
  simp only [Bool.and_eq_true, decide_eq_true_eq]
theorem rnF_pos (v : Int) (h : 0 ≤ v) : rnF v = nrR (Dg.nearEnd false v).1 (Dg.nearEnd false v).2 := by
  unfold rnF Dg.nearEnd
  rw [inB_iff]
  by_cases h1 : v ≤ 1099511627776
  · rw [if_pos h1, decide_eq_true ⟨by omega, h1⟩]
    rfl
  · rw [if_neg h1, decide_eq_false (by omega)]
    rfl
theorem rnF_neg (v : Int) (h : 0 ≤ v) : rnF (-v) = nrR (Dg.nearEnd true v).1 (Dg.nearEnd true v).2 := by
  unfold rnF Dg.nearEnd
  rw [inB_iff]
  by_cases h1 : v ≤ 1099511627776
  · rw [if_pos h1, decide_eq_true ⟨by omega, by omega⟩]
    rfl
  · rw [if_neg h1, decide_eq_false (by omega)]
    rfl
theorem rnX_eq (s : ByteArray) (h0 : 0 < s.size) (x h : Int) (hx : 0 ≤ x) (hx2 : x ≤ 1000000000000000) (h3 : h ≤ 1) : rnX s x h = nrR (Dg.nearEnd (Dg.signed s) (Dg.lenR (Dg.signed s) x h)).1 (Dg.nearEnd (Dg.signed s) (Dg.lenR (Dg.signed s) x h)).2 := by
  unfold rnX
  rw [okI_of (by omega) (by omega), cond_true, sign_bt s h0, W_in (n := x + 1) ⟨by omega, by omega⟩, W_in (n := 0 - (x + 1)) ⟨by omega, by omega⟩, W_in (n := 0 - x) ⟨by omega, by omega⟩,
    show 0 - (x + 1) = -(x + 1) by omega, show 0 - x = -x by omega]
  unfold Dg.lenR
  cases hb : Dg.signed s
  · rw [cond_false]
    by_cases h1 : h ≥ 0
    · rw [decide_eq_true h1, if_pos (by rcases Int.lt_or_eq_of_le h1 with q | q; exact .inl q; exact .inr ⟨q.symm, rfl⟩)]
      exact rnF_pos _ (by omega)
    · rw [decide_eq_false h1, if_neg (by rintro (q | q) <;> omega)]
      exact rnF_pos _ hx
  · rw [cond_true]
    by_cases h1 : h > 0
    · rw [if_pos (.inl h1)]
      have h2 : h = 1 := by omega
      rw [h2]
      exact rnF_neg _ (by omega)
    · rw [if_neg (by rintro (q | q); exact h1 q; cases q.2), show (h == 1) = false by rw [beq_eq_false_iff_ne]; omega]
      exact rnF_neg _ hx
theorem hfV_eq (L : List Nat) : hfV (intD L) = Dg.halfOut L := by
  cases L with
  | nil => rfl
  | cons d l =>
    rw [Dg.halfOut_cons]
    show (bif decide (((d : Nat) : Int) < 5) then -1 else bif decide (((d : Nat) : Int) > 5) then 1 else bif (intD l).all (fun d => (d.at 0).toI == 0) then 0 else 1 : Int) = _
    have ha : (intD l).all (fun d => (d.at 0).toI == 0) = l.all (· == 0) := by
      unfold intD
      rw [List.all_map]
      congr 1
      funext x
      show (((x : Nat) : Int) == 0) = (x == 0)
      rw [Bool.eq_iff_iff, beq_iff_eq, beq_iff_eq]
      omega
    rw [ha]
    by_cases h1 : d < 5
    · rw [if_pos h1, decide_eq_true (by omega)]; rfl
    · rw [if_neg h1, decide_eq_false (by omega), cond_false]
      by_cases h2 : 5 < d
      · rw [if_pos h2, decide_eq_true (by omega)]; rfl
      · rw [if_neg h2, decide_eq_false (by omega), cond_false]
        cases l.all (· == 0) <;> rfl
theorem rnT_key (s q : ByteArray) (h0 : 0 < s.size) (v n : Nat) (h : Int) (hv : v ≤ 1073741824) (hn : n < 65536) (h3 : h ≤ 1) : rnX s (W (W ((v : Int) * 65536) + (n : Int))) h =
    nrR (Dg.nearEnd (Dg.signed s) (Dg.lenR (Dg.signed s) ((v : Int) * 65536 + (n : Int)) h)).1 (Dg.nearEnd (Dg.signed s) (Dg.lenR (Dg.signed s) ((v : Int) * 65536 + (n : Int)) h)).2 := by
  rw [W_in (n := (v : Int) * 65536) ⟨by omega, by omega⟩, W_in (n := (v : Int) * 65536 + (n : Int)) ⟨by omega, by omega⟩]
  exact rnX_eq s h0 _ _ (by omega) (by omega) h3
def tailN (s q : ByteArray) (v : Nat) : Int × Int := Dg.nearEnd (Dg.signed s) (Dg.lenR (Dg.signed s) ((v : Int) * 65536 + (Dg.dblOut q).1) (Dg.dblOut q).2)
theorem rnT_eq (s : ByteArray) (hs : s.size ≤ 40) (h0 : 0 < s.size) (b v : Nat) (hb : b ≤ s.size) (hv : v ≤ 1073741824) (hd : (s.extract b s.size).data.toList.all Dg.isDig = true) :
    rnT s (b : Int) (v : Int) = nrR (tailN s (s.extract b s.size) v).1 (tailN s (s.extract b s.size) v).2 := by
  have hsz : (s.extract b s.size).size ≤ 40 := by rw [ByteArray.size_extract]; omega
  have e : sub' s (b : Int) (s.size : Int) = s.extract b s.size := rfl
  unfold rnT tailN
  rw [slOk_of (by omega) (by omega) (by omega), cond_true, e]
  generalize s.extract b s.size = q at hd hsz ⊢
  have e2 : Dg.dblOut q = ((drN q : Int), Dg.halfOut (drL q)) := Dg.dblOut_half q hd
  have hlen : (intD (drL q)).length ≤ 1000 := by unfold intD drL; rw [List.length_map, Dg.drounds_length, Dg.digs_length]; omega
  have hn : drN q < 65536 := Dg.drounds_bound _ (Dg.digs_small q hd) 16
  have h3 : Dg.halfOut (drL q) ≤ 1 := by rcases Dg.halfOut_three (drL q) with h | h | h <;> omega
  have hq : allB q = true := hd
  rw [hq, Nat.ble_eq_true_of_le (show q.size ≤ 100 by omega), Nat.ble_eq_true_of_le hlen, hfV_eq, e2, Bool.true_and, cond_true, cond_true]
  exact rnT_key s q h0 v (drN q) (Dg.halfOut (drL q)) hv hn h3
theorem rn_run (m : Nat) (s : ByteArray) (hs : s.size ≤ 40) (e b : Nat) (he : e ≤ s.size) : ∀ (k r i v : Nat), e - i = k → i ≤ e → k < r → v ≤ 1073741824 → ((s.data.toList.drop i).take (e - i)).all Dg.isDig = true →
    rnL m r s (e : Int) (b : Int) (v : Int) (i : Int) = if Dg.decFrom v ((s.data.toList.drop i).take (e - i)) > 1073741824 then nrR 0 3 else rnT s (b : Int) (Dg.decFrom v ((s.data.toList.drop i).take (e - i)) : Nat)
  | k, 0, i, v, _, _, h, _, _ => by omega
  | 0, r + 1, i, v, hk, hi, hr, hv, hd => by
    rw [rn_1, hk, List.take_zero, decide_eq_false (by omega), cond_false, show Dg.decFrom v [] = v from rfl, if_neg (by omega)]
  | k + 1, r + 1, i, v, hk, hi, hr, hv, hd => by
    have hl : s.data.toList.length = s.size := rfl
    have hlt : i < s.data.toList.length := by omega
    have hb := bt_nat s i hlt
    have e1 : (s.data.toList.drop i).take (e - i) = (s.data.toList[i]'hlt) :: (s.data.toList.drop (i + 1)).take (e - (i + 1)) := by
      rw [List.drop_eq_getElem_cons hlt, show e - i = (e - (i + 1)) + 1 from by omega, List.take_succ_cons]
    have ih := rn_run m s hs e b he k r (i + 1)
    rw [rn_1, decide_eq_true (by omega), cond_true, okI_of (by omega) (by omega), cond_true, hb]
    rw [e1] at hd ⊢
    generalize (s.data.toList[i]'hlt) = c at *
    generalize (s.data.toList.drop (i + 1)).take (e - (i + 1)) = R at *
    rw [List.all_cons, Bool.and_eq_true] at hd
    have hc : 48 ≤ c.toNat ∧ c.toNat ≤ 57 := by have := hd.1; unfold Dg.isDig at this; simpa using this
    rw [Dg.decFrom_cons, W_in (n := (v : Int) * 10) ⟨by omega, by omega⟩, u8_sub (by omega) (by omega), W_in (n := (v : Int) * 10 + ((c.toNat : Int) - 48)) ⟨by omega, by omega⟩, W_in (n := (i : Int) + 1) ⟨by omega, by omega⟩,
      show (v : Int) * 10 + ((c.toNat : Int) - 48) = ((10 * v + (c.toNat - 48) : Nat) : Int) by omega]
    have hge := Dg.decFrom_ge R (10 * v + (c.toNat - 48))
    by_cases hbig : 10 * v + (c.toNat - 48) > 1073741824
    · rw [decide_eq_true (by omega), if_pos (by omega)]
      rfl
    · rw [decide_eq_false (by omega), cond_false]
      exact ih _ (by omega) (by omega) (by omega) (by omega) hd.2
theorem near_parts (s : ByteArray) (h40 : ¬ s.size > 40) (hg : Dg.goodT (Dg.signless s)) :
    ∃ b, b ≤ s.size ∧ b = Dg.atOf s + (if Dg.pointed (Dg.signless s) then (Dg.wholeOf (Dg.signless s)).size + 1 else (Dg.wholeOf (Dg.signless s)).size) ∧
      s.extract b s.size = Dg.partOf (Dg.signless s) ∧ (Dg.partOf (Dg.signless s)).data.toList.all Dg.isDig = true ∧ Dg.atOf s + (Dg.wholeOf (Dg.signless s)).size ≤ s.size ∧ (Dg.wholeOf (Dg.signless s)).size ≠ 0 ∧
      (s.data.toList.drop (Dg.atOf s)).take (Dg.atOf s + (Dg.wholeOf (Dg.signless s)).size - Dg.atOf s) = (Dg.wholeOf (Dg.signless s)).data.toList ∧ (Dg.wholeOf (Dg.signless s)).data.toList.all Dg.isDig = true := by
  have hw : Dg.allDig (Dg.wholeOf (Dg.signless s)) = true := by
    cases h1 : Dg.allDig (Dg.wholeOf (Dg.signless s))
    · exact absurd (.inl h1) hg
    · rfl
  obtain ⟨w1, w2⟩ := (Dg.allDig_iff _).1 hw
  have hlen : (Dg.signless s).data.toList.length = s.size - Dg.atOf s := by rw [Dg.signless_drop, List.length_drop, Dg.data_length]
  have hwl : (Dg.wholeOf (Dg.signless s)).size ≤ (Dg.signless s).data.toList.length := by
    rw [← Dg.data_length, Dg.whole_take]; exact List.length_take_le' _ _
  have hw0 : (Dg.wholeOf (Dg.signless s)).size ≠ 0 := by rw [← Dg.data_length]; rwa [Ne, List.length_eq_zero_iff]
  have hat : Dg.atOf s ≤ 1 := by unfold Dg.atOf; split <;> omega
  have hpd : (Dg.partOf (Dg.signless s)).data.toList.all Dg.isDig = true := by
    cases hp : Dg.pointed (Dg.signless s) with
    | false => rw [Dg.partOf_none _ (by rw [hp])]; rfl
    | true =>
      cases h1 : Dg.allDig (Dg.partOf (Dg.signless s))
      · exact absurd (.inr ⟨hp, h1⟩) hg
      · exact Dg.allDig_all _ h1
  have hpart := Dg.part_drop (Dg.signless s)
  refine ⟨_, ?_, rfl, Go.WideShapes.bytes_inj (by rw [Dg.extract_data, hpart, Dg.signless_drop, List.drop_drop]), hpd, by omega, hw0, by rw [Nat.add_sub_cancel_left, ← Dg.signless_drop, ← Dg.whole_take], w2⟩
  rcases Dg.split_at (Dg.signless s).data.toList with hn | ⟨A, B, e, hA⟩
  · have hp : Dg.pointed (Dg.signless s) = false := by unfold Dg.pointed; rw [Dg.cut_none _ hn]
    rw [hp, if_neg (by decide)]; omega
  · have hc := Dg.cut_some A B hA
    rw [← e] at hc
    have hsz : (Dg.wholeOf (Dg.signless s)).size = A.length := by unfold Dg.wholeOf; rw [hc]; rfl
    have hl2 : (Dg.signless s).data.toList.length = A.length + 1 + B.length := by rw [e]; simp; omega
    rw [hsz]; split <;> omega
theorem near_good (s : ByteArray) (h40 : ¬ s.size > 40) (hg : Dg.goodT (Dg.signless s)) (hpd : (Dg.partOf (Dg.signless s)).data.toList.all Dg.isDig = true) (w2 : (Dg.wholeOf (Dg.signless s)).data.toList.all Dg.isDig = true) :
    Dg.nearOut s = if Dg.decVal (Dg.wholeOf (Dg.signless s)).data.toList > 1073741824 then (0, 3) else tailN s (Dg.partOf (Dg.signless s)) (Dg.decVal (Dg.wholeOf (Dg.signless s)).data.toList) := by
  unfold Dg.nearOut tailN
  rw [if_neg h40, if_neg hg]
  have hmr := Dg.dblOut_bound _ hpd
  by_cases h8 : (Dg.bare (Dg.wholeOf (Dg.signless s))).size > 8
  · rw [if_pos h8]
    have h9 := Dg.bare_big _ w2 h8
    rw [Dg.near_big _ _ _ _ h9 hmr.1]
    split <;> rfl
  · rw [if_neg h8]
    have hb : Dg.decVal (Dg.bare (Dg.wholeOf (Dg.signless s))).data.toList = Dg.decVal (Dg.wholeOf (Dg.signless s)).data.toList := Dg.decVal_bare _
    have hlt : Dg.decVal (Dg.wholeOf (Dg.signless s)).data.toList < 100000000 := by
      rw [← hb]
      refine Nat.lt_of_lt_of_le (Dg.decVal_bound _ fun x hx => List.all_eq_true.1 w2 x ((List.dropWhile_sublist _).subset hx)) ?_
      exact Nat.pow_le_pow_right (by omega : 0 < 10) (show (Dg.bare (Dg.wholeOf (Dg.signless s))).data.toList.length ≤ 8 by rw [Dg.data_length]; omega)
    rw [if_neg (by omega), Dg.len_at _ _ _ _ _ _ rfl rfl rfl, hb]
theorem rn_eq (s : ByteArray) : evFn PR TK rnC 50 131 [S s] [none] = nrR (nr1 s) (nr2 s) := by
  rw [rn_0]
  unfold nr1 nr2
  by_cases h40 : s.size > 40
  · rw [decide_eq_true (by omega), cond_true]
    unfold Dg.nearOut
    rw [if_pos h40]
  · rw [decide_eq_false (by omega), cond_false, Nat.ble_eq_true_of_le (by omega), cond_true]
    by_cases hg : Dg.goodT (Dg.signless s)
    · obtain ⟨b, hb1, hb2, hext, hpd, hwl, hw0, hsl, w2⟩ := near_parts s h40 hg
      rw [near_good s h40 hg hpd w2]
      unfold frR
      rw [Dg.formT_good _ hg]
      simp only [frO, Bool.not_true, cond_false]
      rw [← hb2]
      have hr := rn_run 50 s (by omega) (Dg.atOf s + (Dg.wholeOf (Dg.signless s)).size) b hwl (Dg.wholeOf (Dg.signless s)).size 50 (Dg.atOf s) 0 (by omega) (by omega) (by omega) (by omega) (by rw [hsl]; exact w2)
      rw [hsl, show Dg.decFrom 0 (Dg.wholeOf (Dg.signless s)).data.toList = Dg.decVal (Dg.wholeOf (Dg.signless s)).data.toList from rfl] at hr
      rw [show ((0 : Nat) : Int) = 0 from rfl] at hr
      rw [hr]
      by_cases hv : Dg.decVal (Dg.wholeOf (Dg.signless s)).data.toList > 1073741824
      · rw [if_pos hv, if_pos hv]
      · rw [if_neg hv, if_neg hv, rnT_eq s (by omega) (by omega) b _ hb1 (by omega) (by rw [hext]; exact hpd), hext]
    · unfold frR Dg.nearOut
      rw [Dg.formT_bad _ hg, if_neg h40, if_pos (Classical.not_not.1 hg)]
      rfl
theorem rn_sound {ext : CallF} (hext : SoundCall PR ext) : SoundCall PR (addF 131 rnE ext) := by
  refine sound_both (sound_add (takes := TK) hmixP (show SoundCall PR rnC from fm_sound (bts_sound (hf_sound (rin_sound sound_none)))) _ (fn := (PR.funcs[131]?).getD default) (by kernel_rfl) (by kernel_rfl) rnE fun xs bs out h => ?_) hext
  unfold rnE at h
  split at h
  · rename_i s
    injection h with h
    injection h with h1 h2
    subst h2
    exact ⟨50, rn_eq s⟩
  · cases h
def dpF (s : ByteArray) : Bool × Int := bif nr2 s == 0 && ((fixT (nr1 s)).toList == s.toList) then (true, nr1 s) else (false, 0)
theorem inB_nr {s : ByteArray} (h : (nr2 s == 0) = true) : inB (nr1 s) = true := by
  rw [inB_iff, decide_eq_true_eq]
  exact Dg.nearOut_in s (beq_iff_eq.1 h)
theorem nearOut_zero (s : ByteArray) (h : (nr2 s == 0) = false) : nr1 s = 0 := by
  unfold nr1
  unfold nr2 at h
  unfold Dg.nearOut at h ⊢
  split
  · rfl
  · rename_i h1
    rw [if_neg h1] at h
    split
    · rfl
    · rename_i h2
      rw [if_neg h2] at h
      split
      · rfl
      · rename_i h3
        rw [if_neg h3] at h
        unfold Dg.nearEnd at h ⊢
        split
        · rename_i h4
          rw [if_pos h4] at h
          cases h
        · rfl
theorem inB_any (s : ByteArray) : inB (nr1 s) = true := by
  cases h : nr2 s == 0
  · rw [nearOut_zero s h]; rfl
  · exact inB_nr h
theorem dp_eq (s : ByteArray) : evFn PR TK dpC 0 110 [S s] [none] = dpR (dpF s).2 (dpF s).1 := by
  rw [dp_0, inB_any s, cond_true]
  unfold dpF
  cases h : nr2 s == 0
  · rw [show (nr2 s != 0) = true by rw [bne, h]; rfl]
    rfl
  · rw [show (nr2 s != 0) = false by rw [bne, h]; rfl]
    cases (fixT (nr1 s)).toList == s.toList <;> rfl
theorem rdp_eq (s : ByteArray) : evFn PR TK rpC2 0 116 [S s] [none] = dpR (dpF s).2 (dpF s).1 := by
  rw [rdp_0, inB_any s, cond_true]
  unfold dpF
  cases h : nr2 s == 0
  · rw [show (nr2 s != 0) = true by rw [bne, h]; rfl]
    rfl
  · rw [show (nr2 s != 0) = false by rw [bne, h]; rfl]
    cases (fixT (nr1 s)).toList == s.toList <;> rfl
theorem dpF_sound {ext : CallF} (hext : SoundCall PR ext) : SoundCall PR (addF 110 (dpE dpF) ext) := by
  refine sound_both (sound_add (takes := TK) hmixP (show SoundCall PR dpC from nr_sound (dg_sound sound_none)) _ (fn := (PR.funcs[110]?).getD default) (by kernel_rfl) (by kernel_rfl) (dpE dpF) fun xs bs out h => ?_) hext
  unfold dpE at h
  split at h
  · rename_i s
    injection h with h
    injection h with h1 h2
    subst h2
    exact ⟨0, dp_eq s⟩
  · cases h
theorem rdpF_sound {ext : CallF} (hext : SoundCall PR ext) : SoundCall PR (addF 116 (dpE dpF) ext) := by
  refine sound_both (sound_add (takes := TK) hmixP (show SoundCall PR rpC2 from rn_sound (rdg_sound sound_none)) _ (fn := (PR.funcs[116]?).getD default) (by kernel_rfl) (by kernel_rfl) (dpE dpF) fun xs bs out h => ?_) hext
  unfold dpE at h
  split at h
  · rename_i s
    injection h with h
    injection h with h1 h2
    subst h2
    exact ⟨0, rdp_eq s⟩
  · cases h
end Go.Proofs.YtckdgcpomkefpaaGreatDoor.En
end
section
set_option linter.unusedVariables false
set_option linter.unusedSimpArgs false
set_option maxRecDepth 100000
namespace Go.Proofs.YtckdgcpomkefpaaGreatDoor.En
open Go
attribute [local irreducible] Dg.drounds
theorem dpF_fix {w : ByteArray} (h : (dpF w).1 = true) : nr2 w = 0 ∧ fixT (nr1 w) = w ∧ (dpF w).2 = nr1 w := by
  unfold dpF at h ⊢
  cases hc : nr2 w == 0 && ((fixT (nr1 w)).toList == w.toList) <;> rw [hc] at h
  · cases h
  · rw [Bool.and_eq_true, beq_iff_eq, beq_iff_eq, Lib.toList_data, Lib.toList_data] at hc
    exact ⟨hc.1, ba_inj hc.2, rfl⟩
theorem no_point {v : Int} : (46 : UInt8) ∉ Lib.itoa v := by
  have hd : ∀ u : Nat, (46 : UInt8) ∉ Lib.decDigits u := fun u h => by
    have := (dec_all u).1 _ h
    exact absurd this.1 (by decide)
  rcases Int.lt_or_le v 0 with h | h
  · obtain ⟨u, rfl⟩ : ∃ u : Nat, v = -(u : Int) := ⟨v.natAbs, by omega⟩
    rw [Lib.itoa_neg u (by omega)]
    intro hm
    rcases List.mem_cons.1 hm with e | hm
    · exact absurd e (by decide)
    · exact hd u hm
  · obtain ⟨u, rfl⟩ : ∃ u : Nat, v = (u : Int) := ⟨v.natAbs, by omega⟩
    rw [Lib.itoa_nonneg]
    exact hd u
theorem isI_itoa {w : ByteArray} (h : isI w = true) : Lib.itoa (atV w) = w.data.toList := by
  unfold isI at h
  rw [Bool.and_eq_true] at h
  have hb := atV_bd h.1
  unfold i64B at hb
  rw [Bool.and_eq_true, decide_eq_true_eq, decide_eq_true_eq] at hb
  have h2 := h.2
  rw [isT_itT hb.1 hb.2, decide_eq_true_iff] at h2
  exact h2
theorem fOk : FOk dpF := by
  refine ⟨fun w hw => ?_, fun w hi h => ?_⟩
  · have hl : w.data.toList = [] := List.length_eq_zero_iff.1 hw
    have hn : nr2 w = 20 := by
      unfold nr2 Dg.nearOut
      have hng : ¬ Dg.goodT (Dg.signless w) := fun hg => by
        have := Dg.formT_good _ hg
        rw [Dg.signless_drop, hl, List.drop_nil] at this
        cases this
      rw [if_neg (by omega), if_pos (Classical.not_not.1 hng)]
    unfold dpF
    rw [hn]
    rfl
  · obtain ⟨h1, h2, h3⟩ := dpF_fix h
    rw [h3]
    have hi := isI_itoa hi
    by_cases hz : (nr1 w).natAbs % 65536 = 0
    · generalize nr1 w = x at hz ⊢
      have e : (x.tmod 65536).natAbs = 0 := by rw [Int.natAbs_tmod]; exact hz
      omega
    · exfalso
      have hp : (46 : UInt8) ∈ w.data.toList := by
        rw [← h2]
        unfold fixT textBody
        rw [if_neg hz]
        simp [bs]
      rw [← hi] at hp
      exact no_point hp
end Go.Proofs.YtckdgcpomkefpaaGreatDoor.En
end
section
set_option linter.unusedVariables false
set_option linter.unusedSimpArgs false
set_option maxRecDepth 100000
namespace Go.Proofs.YtckdgcpomkefpaaGreatDoor.En
open Go Go.RowKit
section
variable (m : Nat) (k1 n1 k2 n2 : Int) (b1 b2 : Bool) (s1 s2 : ByteArray) (ks1 l1 ks2 l2 : List Dat)
end
theorem sameO_refl : ∀ (k : Nat) (d : Dat), fitO k (d.at 4).toL (d.at 5).toL → sameO k d d = true
  | 0, d, h => h.elim
  | k + 1, d, h => by
    obtain ⟨h1, h2, h3⟩ := h
    have hl : ∀ l : List Dat, (∀ e ∈ l, fitO k (e.at 4).toL (e.at 5).toL) → allEq (sameO k) l l = true := fun l => by
      induction l with
      | nil => intro _; rfl
      | cons e l ih =>
        intro hl
        rw [allEq, sameO_refl k e (hl e (by simp)), ih fun x hx => hl x (by simp [hx])]
        rfl
    unfold sameO
    rw [hl _ h3, keysEq_refl]
    simp
end Go.Proofs.YtckdgcpomkefpaaGreatDoor.En
end
section
set_option linter.unusedVariables false
set_option linter.unusedSimpArgs false
set_option maxRecDepth 100000
namespace Go.Proofs.YtckdgcpomkefpaaGreatDoor.En
open Go Go.RowKit
noncomputable def callPa : CallF := addF 23 wakesE (addF 31 (paE dpF) (addF 32 (rpE dpF) (addF 28 (sameE 101) fun _ _ _ => none)))
theorem callPa_sound : SoundCall PR callPa :=
  sound_both wakes_sound (pa_sound dpF (dpF_sound sound_none) (rp_sound dpF (rdpF_sound sound_none) (same_sound sound_none 101)))
noncomputable def psK (d e : Dat) (p q x y : Int) : Option Out := bif fitB 101 (d.at 4).toL (d.at 5).toL then
  andK (sameO 101 (nrm d) (nrm e)) (p == q) fun t => andK t (x == y) fun t => andK t true fun t => some (.ret (B t) [none, none]) else none
noncomputable def ps2 (o : Option (Dat × Int)) (c : Bool) (d : Dat) (p x : Int) : Option Out := bif c then psK d (plO 0 0 false ⟨#[]⟩) p 0 x 1 else bif o.isSome then psK d (rvP o).1 p (rvP o).2 x 0 else psK d (plO 0 0 false ⟨#[]⟩) p 0 x 50
theorem parses_0 (m : Nat) (s : ByteArray) (a : Int) : evFn PR TK callPa m 7 [S s, I a] [none, none] =
  bif decide ((s.size : Int) > 20000) then some (.ret (B true) [none, none]) else bif Nat.ble s.size 1000000 then
    (bif (decide (a < 0) || decide (a > (s.size : Int))) then (bif Nat.ble s.size 1000000 then ps2 (rpO dpF s a) (decide (a < 0) || decide (a > (s.size : Int))) (plO 0 0 false ⟨#[]⟩) 0 1 else none) else
      bif (paO dpF s a).isSome then (bif Nat.ble s.size 1000000 then ps2 (rpO dpF s a) (decide (a < 0) || decide (a > (s.size : Int))) (rvP (paO dpF s a)).1 (rvP (paO dpF s a)).2 0 else none) else
        (bif Nat.ble s.size 1000000 then ps2 (rpO dpF s a) (decide (a < 0) || decide (a > (s.size : Int))) (plO 0 0 false ⟨#[]⟩) 0 50 else none)) else none := by kernel_rfl
theorem psK_same {d : Dat} {p x : Int} (h : fitO 101 (d.at 4).toL (d.at 5).toL) : psK d d p p x x = some (.ret (B true) [none, none]) := by
  have e : sameO 101 (nrm d) (nrm d) = true := sameO_refl 101 (nrm d) h
  unfold psK
  rw [fitB_eq h, cond_true, andK_eq, andK_eq, andK_eq, e, beq_self_eq_true, beq_self_eq_true]
  rfl
theorem fit_zero : fitO 101 ((plO 0 0 false ⟨#[]⟩).at 4).toL ((plO 0 0 false ⟨#[]⟩).at 5).toL := fitR_nil 100
theorem rpO_fit {s : ByteArray} {a : Int} {d : Dat} {p : Int} (h : rpO dpF s a = some (d, p)) : fitO 101 (d.at 4).toL (d.at 5).toL := by
  have hft := rdP_fit dpF s 34 0 (blA s a)
  unfold rpO at h
  dsimp only at hft
  generalize rdP dpF s 34 (blA s a) 0 = x at h hft
  obtain ⟨e, q, ok⟩ := x
  dsimp only at h hft
  cases ok with
  | false => cases h
  | true =>
    cases hg : decide (goodO 101 (nrm e) 0 0 > 0) <;> rw [hg] at h
    · cases h
    · have h : some (nrm e, q) = some (d, p) := h
      injection h with h
      injection h with h1 h2
      subst h1
      exact fitR_le (k := 35) (by omega) (hft rfl)
theorem parses_run (m : Nat) (s : ByteArray) (a : Int) : evFn PR TK callPa m 7 [S s, I a] [none, none] = some (.ret (B true) [none, none]) := by
  rw [parses_0]
  by_cases hs : (s.size : Int) > 20000
  · rw [decide_eq_true hs, cond_true]
  · rw [decide_eq_false hs, cond_false, Nat.ble_eq_true_of_le (by omega), cond_true, cond_true, cond_true, cond_true]
    cases hc : decide (a < 0) || decide (a > (s.size : Int))
    · rw [Bool.or_eq_false_iff, decide_eq_false_iff_not, decide_eq_false_iff_not] at hc
      rw [parse_eq iOk fOk (by omega) (by omega) (by omega)]
      unfold ps2
      simp only [cond_false]
      cases ho : rpO dpF s a with
      | none => exact psK_same fit_zero
      | some t =>
        obtain ⟨d, p⟩ := t
        exact psK_same (rpO_fit ho)
    · unfold ps2
      simp only [cond_true]
      exact psK_same fit_zero
def parsesE : List AV → Bx → Option (Bool × Out)
  | [.v (.string s), .v (.int .i64 a)], [none, none] => some (true, .ret (B true) [none, none])
  | _, _ => none
theorem parses_sound : SoundCall PR (addF 7 parsesE callPa) := by
  refine sound_add (takes := TK) hmixP callPa_sound _ (fn := (PR.funcs[7]?).getD default) (by kernel_rfl) (by kernel_rfl) parsesE fun xs bs out h => ?_
  unfold parsesE at h
  split at h
  · injection h with h
    injection h with h1 h2
    subst h2
    exact ⟨1, parses_run _ _ _⟩
  · cases h
theorem parses_ent (s : ByteArray) (a : Int) : addF 7 parsesE callPa 7 [S s, I a] [none, none] = some (true, .ret (B true) [none, none]) := by kernel_rfl
theorem parses_calls {W : World} (hW : GW W) (s : ByteArray) (a : Int) :
    Calls PR 7 #[.string s, .int .i64 a] W fun e w' => e = .returned (.bool true) ∧ Below W.heap.size W w' := by
  refine calls_v parses_sound (f := 7) (xs := [S s, I a]) (bs := [none, none]) (bs' := [none, none]) ?_ (by simp) rfl hW rfl (fun i x hi => ?_)
  · rw [parses_ent]; rfl
  · match i, hi with
    | 0, hi => cases hi; exact ⟨_, rfl, rfl, rfl⟩
    | 1, hi => cases hi; exact ⟨_, rfl, rfl, rfl⟩
end Go.Proofs.YtckdgcpomkefpaaGreatDoor.En
end
