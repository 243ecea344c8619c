/- The document's doubling of a fraction: its loops. -/
import Derived.Test.YtekifiblehmafaaDoorD6
namespace Go.Proofs.YtekifiblehmafaaDoor.X
open Go.RowKit Go.Proofs.YtekifiblehmafaaDoorW.PrintWords
set_option linter.unusedVariables false
set_option linter.unusedSimpArgs false
attribute [local irreducible] drounds

theorem w_dbl (x c : Nat) (hx : x < 65536) (hc : c ≤ 1) : wrap64 ((wrap64 (2 * (x : Int))) + (c : Int)) = ((2 * x + c : Nat) : Int) := by unfold wrap64; omega
theorem w_mod (v : Nat) : Int.tmod (v : Int) 10 = ((v % 10 : Nat) : Int) := by rw [Int.tmod_eq_emod_of_nonneg (by omega)]; omega
theorem w_div (v : Nat) (hv : v < 200000) : wrap64 (Int.tdiv (v : Int) 10) = ((v / 10 : Nat) : Int) := by rw [Int.tdiv_eq_ediv_of_nonneg (by omega)]; unfold wrap64; omega
theorem w_pred (i : Nat) (hi : i ≤ 1000) : wrap64 ((i : Int) - 1) = (i : Int) - 1 := by unfold wrap64; omega
theorem w_succ (i : Nat) (hi : i ≤ 1000) : wrap64 ((i : Int) + 1) = ((i + 1 : Nat) : Int) := by unfold wrap64; omega
theorem bits_l2 (L : List Nat) (hL : L.length ≤ 40) (hd : ∀ d ∈ L, d < 10) (n j : Nat) (hn : n < 65536) (hj : j < 16) (R : Int × List Int)
    (h : Ev (fun k => colophonref02_bits.l1 k (castL (dbl L).1) ((2 * n + (dbl L).2 : Nat) : Int) ((j + 1 : Nat) : Int)) R) :
    ∀ i, i ≤ L.length → Ev (fun k => colophonref02_bits.l2 k (castL (L.take i ++ (dbl (L.drop i)).1)) (n : Int) (j : Int) ((dbl (L.drop i)).2 : Nat) ((i : Int) - 1)) R := by
  intro i
  induction i with
  | zero =>
    intro hi
    have hc := dbl_carry (L.drop 0) (fun d hx => hd d (List.mem_of_mem_drop hx))
    rw [List.drop_zero, List.take_zero, List.nil_append]
    rw [List.drop_zero] at hc
    refine Ev.step (fun k => ?_) h
    have e1 := w_dbl n (dbl L).2 hn hc
    have e2 := w_succ j (by omega)
    simp only [colophonref02_bits.l2]
    rw [if_neg (by omega), e1, e2]
  | succ i ih =>
    intro hi
    have h1 := ih (by omega)
    have hk : i < L.length := by omega
    have hkk : i < (L.take (i + 1) ++ (dbl (L.drop (i + 1))).1).length := by rw [List.length_append, List.length_take]; omega
    have hc := dbl_carry (L.drop (i + 1)) (fun d hx => hd d (List.mem_of_mem_drop hx))
    have hx := hd (L[i]'hk) (List.getElem_mem hk)
    have hr := rd_castL _ i hkk
    have e0 : (L.take (i + 1) ++ (dbl (L.drop (i + 1))).1)[i]'hkk = L[i]'hk := by
      rw [List.getElem_append_left (by rw [List.length_take]; omega), List.getElem_take]
    rw [e0] at hr
    have hset := dbl_set L i (L[i]'hk) (dbl (L.drop (i + 1))).2 hk rfl rfl
    have hstep := dbl_step L i (L[i]'hk) (dbl (L.drop (i + 1))).2 hk rfl rfl
    have h2 : (dbl (L.drop i)).2 = (2 * L[i]'hk + (dbl (L.drop (i + 1))).2) / 10 := by rw [hstep]
    rw [← hset, h2] at h1
    rw [show ((i + 1 : Nat) : Int) - 1 = (i : Int) from by omega]
    have hlen : (castL (L.take (i + 1) ++ (dbl (L.drop (i + 1))).1)).length = L.length := by
      rw [castL_length, List.length_append, dbl_length, List.length_take, List.length_drop]; omega
    generalize (L.take (i + 1) ++ (dbl (L.drop (i + 1))).1) = M at *
    generalize (dbl (L.drop (i + 1))).2 = c at *
    generalize (L[i]'hk) = x at *
    refine Ev.step (fun k => ?_) h1
    have c1 : (i : Int) ≥ 0 := by omega
    have c2 : 0 ≤ (i : Int) := by omega
    have c3 : (i : Int) < (L.length : Int) := by omega
    have e4 := w_pred i (by omega)
    have e3 := w_div (2 * x + c) (by omega)
    have e1 := w_dbl x c (by omega) hc
    have e2 := w_mod (2 * x + c)
    simp only [colophonref02_bits.l2]
    rw [if_pos c1, if_pos c2, hlen, if_pos c3, hr, e1, e2, e3, e4, Int.toNat_natCast, castL_set]
theorem bits_l1 (s : ByteArray) (hs : s.size ≤ 40) (hd : s.data.toList.all isDig = true) : ∀ (d j : Nat), 16 - j = d → j ≤ 16 →
    Ev (fun k => colophonref02_bits.l1 k (castL (drounds j (digs s, 0)).1) ((drounds j (digs s, 0)).2 : Nat) (j : Int)) (((drounds 16 (digs s, 0)).2 : Nat), castL (drounds 16 (digs s, 0)).1) := by
  intro d
  induction d with
  | zero =>
    intro j h1 h2
    obtain rfl : j = 16 := by omega
    refine Ev.step (f := fun _ => some ((((drounds 16 (digs s, 0)).2 : Nat) : Int), castL (drounds 16 (digs s, 0)).1)) (fun k => ?_) (Ev.now _)
    simp only [colophonref02_bits.l1]
    rw [if_neg (by omega)]
  | succ d ih =>
    intro j h1 h2
    have h3 := ih (j + 1) (by omega) (by omega)
    have hlen : (drounds j (digs s, 0)).1.length = s.size := by rw [drounds_length, digs_length]
    have hdig := drounds_digits (digs s) 0 (digs_small s hd) j
    have hn : (drounds j (digs s, 0)).2 < 65536 := Nat.lt_of_lt_of_le (drounds_bound _ (digs_small s hd) j) (Nat.pow_le_pow_right (n := 2) (by omega) h2)
    rw [drounds_succ] at h3
    generalize (drounds j (digs s, 0)).1 = L at *
    generalize (drounds j (digs s, 0)).2 = n at *
    have h4 := bits_l2 L (by omega) hdig n j hn (by omega) _ h3 L.length (Nat.le_refl _)
    rw [List.drop_of_length_le (Nat.le_refl _), List.take_of_length_le (Nat.le_refl _)] at h4
    have e1 : wrap64 (((castL L).length : Int) - 1) = (L.length : Int) - 1 := by rw [castL_length]; exact w_pred _ (by omega)
    refine Ev.step (fun k => ?_) h4
    simp only [colophonref02_bits.l1]
    rw [if_pos (by omega), e1]
    simp [dbl]
theorem bits_l0 (s : ByteArray) (hs : s.size ≤ 40) (hd : s.data.toList.all isDig = true) : ∀ (d j : Nat), s.size - j = d → j ≤ s.size →
    Ev (fun k => colophonref02_bits.l0 k s (castL ((digs s).take j)) (j : Int)) (((drounds 16 (digs s, 0)).2 : Nat), castL (drounds 16 (digs s, 0)).1) := by
  intro d
  induction d with
  | zero =>
    intro j h1 h2
    have h3 := bits_l1 s hs hd 16 0 rfl (by omega)
    rw [List.take_of_length_le (by rw [digs_length]; omega)]
    refine Ev.step (fun k => ?_) h3
    simp only [colophonref02_bits.l0]
    rw [if_neg (by omega), drounds_zero]
    rfl
  | succ d ih =>
    intro j h1 h2
    have h3 := ih (j + 1) (by omega) (by omega)
    have hlt : j < s.data.toList.length := by rw [data_length]; omega
    have hb : bt s (j : Int) = ((s.data.toList[j]'hlt).toNat : Int) := by
      unfold bt; rw [dif_pos (by rw [data_length] at hlt; simpa using hlt)]; rfl
    have hc := List.all_eq_true.1 hd _ (List.getElem_mem hlt)
    have et : (digs s).take (j + 1) = (digs s).take j ++ [(s.data.toList[j]'hlt).toNat - 48] := by
      rw [List.take_succ_eq_append_getElem (by rw [digs_length]; omega)]
      simp [digs]
    have hlen : ((digs s).take j).length ≤ 40 := Nat.le_trans (List.length_take_le _ _) (by omega)
    rw [et, castL_append] at h3
    generalize (s.data.toList[j]'hlt) = c at *
    unfold isDig at hc; simp at hc
    refine Ev.step (fun k => ?_) h3
    have e1 := w_succ j (by omega)
    have e2 : ((c.toNat : Int) - 48) % 256 = ((c.toNat - 48 : Nat) : Int) := by omega
    simp only [colophonref02_bits.l0]
    rw [if_pos (by omega), if_pos (by omega), castL_length, if_pos (by omega), hb, e1, e2]
    rfl
theorem bits_ev (s : ByteArray) (hs : s.size ≤ 40) (hd : s.data.toList.all isDig = true) : Ev (fun k => colophonref02_bits.f k s) (((drounds 16 (digs s, 0)).2 : Nat), castL (drounds 16 (digs s, 0)).1) :=
  bits_l0 s hs hd s.size 0 (by omega) (by omega)

end Go.Proofs.YtekifiblehmafaaDoor.X
