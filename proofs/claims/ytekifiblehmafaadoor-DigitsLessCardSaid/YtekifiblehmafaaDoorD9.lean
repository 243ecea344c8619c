/- The document's reading of decimals is the program's, for every text: the whole part's loop, and the two joined. -/
import Derived.Test.YtekifiblehmafaaDoorD8
namespace Go.Proofs.YtekifiblehmafaaDoor.X
open Go.RowKit Go.Proofs.YtekifiblehmafaaDoorW.PrintWords
set_option linter.unusedVariables false
set_option linter.unusedSimpArgs false

def decFrom (acc : Nat) (l : List UInt8) : Nat := l.foldl (fun n c => 10 * n + (c.toNat - 48)) acc
theorem decFrom_cons (acc : Nat) (c : UInt8) (l : List UInt8) : decFrom acc (c :: l) = decFrom (10 * acc + (c.toNat - 48)) l := by
  unfold decFrom; rw [List.foldl_cons]
theorem decFrom_ge : ∀ (l : List UInt8) (acc : Nat), acc ≤ decFrom acc l
  | [], acc => Nat.le_refl _
  | c :: l, acc => Nat.le_trans (by omega) (decFrom_ge l (10 * acc + (c.toNat - 48)))
theorem decFrom_pow : ∀ (l : List UInt8) (acc : Nat), acc * 10 ^ l.length ≤ decFrom acc l
  | [], acc => by simp [decFrom]
  | c :: l, acc => by
    have h := decFrom_pow l (10 * acc + (c.toNat - 48))
    rw [decFrom_cons, List.length_cons, Nat.pow_succ]
    refine Nat.le_trans ?_ h
    have e : acc * (10 ^ l.length * 10) = (10 * acc) * 10 ^ l.length := by
      rw [Nat.mul_comm (10 ^ l.length) 10, ← Nat.mul_assoc, Nat.mul_comm acc 10]
    rw [e]
    exact Nat.mul_le_mul_right _ (by omega)
theorem decVal_bare : ∀ l : List UInt8, decVal (Lib.trimLeftB l 48) = decVal l
  | [] => rfl
  | c :: l => by
    unfold Lib.trimLeftB
    rw [List.dropWhile_cons]
    by_cases hc : c = 48
    · subst hc
      rw [if_pos (by simp)]
      have := decVal_bare l
      unfold Lib.trimLeftB at this
      rw [this]; rfl
    · rw [if_neg (by simpa using hc)]
theorem bare_head : ∀ (l : List UInt8) (c : UInt8) (m : List UInt8), Lib.trimLeftB l 48 = c :: m → c ≠ 48
  | [], c, m, h => by simp [Lib.trimLeftB] at h
  | a :: l, c, m, h => by
    unfold Lib.trimLeftB at h
    rw [List.dropWhile_cons] at h
    by_cases ha : a = 48
    · rw [if_pos (by simpa using ha)] at h
      exact bare_head l c m h
    · rw [if_neg (by simpa using ha)] at h
      rw [← (List.cons.inj h).1]; exact ha
theorem bare_big (l : List UInt8) (h : l.all isDig = true) (hb : (Lib.trimLeftB l 48).length > 8) : 100000000 ≤ decVal l := by
  rw [← decVal_bare]
  have hsub : ∀ x ∈ Lib.trimLeftB l 48, isDig x = true := fun x hx => List.all_eq_true.1 h x ((List.dropWhile_sublist _).subset hx)
  have hhd := bare_head l
  generalize Lib.trimLeftB l 48 = m at hb hsub hhd ⊢
  cases m with
  | nil => simp at hb
  | cons c m =>
    have hc : c ≠ 48 := hhd c m rfl
    have hcd : isDig c = true := hsub c List.mem_cons_self
    unfold isDig at hcd; simp at hcd
    have h48 : c.toNat ≠ 48 := fun e => hc (UInt8.toNat_inj.1 (by rw [e]; rfl))
    have h1 : decVal (c :: m) = decFrom (10 * 0 + (c.toNat - 48)) m := by rw [← decFrom_cons]; rfl
    have h2 := decFrom_pow m (10 * 0 + (c.toNat - 48))
    have h3 : 10 ^ 8 ≤ 10 ^ m.length := Nat.pow_le_pow_right (by omega) (by simp at hb; omega)
    rw [h1]
    refine Nat.le_trans h3 (Nat.le_trans ?_ h2)
    exact Nat.le_mul_of_pos_left _ (by omega)

theorem w_acc (acc d : Nat) (h : acc ≤ 1073741824) (hd : 48 ≤ d ∧ d ≤ 57) : wrap64 ((wrap64 ((acc : Int) * 10)) + (((d : Int) - 48) % 256)) = ((10 * acc + (d - 48) : Nat) : Int) := by unfold wrap64; omega
theorem near_loop (s : ByteArray) (hs : s.size ≤ 40) (e b : Nat) (he : e ≤ s.size) (T : Nat → Int × Int) (hT : ∀ v : Nat, v ≤ 1073741824 → Ev (fun k => nearT k s (b : Int) (v : Int)) (T v)) :
    ∀ (d i acc : Nat), e - i = d → i ≤ e → acc ≤ 1073741824 → (((s.data.toList.drop i).take (e - i)).all isDig = true) →
    Ev (fun k => colophonref02_Near.l0 k s (e : Int) (b : Int) (acc : Int) (i : Int)) (if decFrom acc ((s.data.toList.drop i).take (e - i)) > 1073741824 then (0, 3) else T (decFrom acc ((s.data.toList.drop i).take (e - i)))) := by
  intro d
  induction d with
  | zero =>
    intro i acc hd hi ha hdig
    rw [hd, List.take_zero]
    have h1 : decFrom acc [] = acc := rfl
    rw [h1, if_neg (by omega)]
    exact Ev.step (fun k => near_l0_end k s _ _ _ _ (by omega)) (hT acc ha)
  | succ d ih =>
    intro i acc hd hi ha hdig
    have hlt : i < s.data.toList.length := by rw [data_length]; omega
    have hb := bt_get s i hlt
    have e1 : (s.data.toList.drop i).take (e - i) = (s.data.toList[i]'hlt) :: (s.data.toList.drop (i + 1)).take (e - (i + 1)) := by
      rw [List.drop_eq_getElem_cons hlt, show e - i = (e - (i + 1)) + 1 from by omega, List.take_succ_cons]
    have c1 : (i : Int) < (e : Int) := by omega
    have c2 : 0 ≤ (i : Int) := by omega
    have c3 : (i : Int) < (s.size : Int) := by rw [data_length] at hlt; omega
    have w := w_succ i (by rw [data_length] at hlt; omega)
    have ih' := ih (i + 1)
    rw [e1] at hdig ⊢
    generalize (s.data.toList[i]'hlt) = c at *
    generalize (s.data.toList.drop (i + 1)).take (e - (i + 1)) = R at *
    rw [List.all_cons, Bool.and_eq_true] at hdig
    have hc : 48 ≤ c.toNat ∧ c.toNat ≤ 57 := by have := hdig.1; unfold isDig at this; simpa using this
    have wa := w_acc acc c.toNat ha hc
    rw [decFrom_cons]
    have hge := decFrom_ge R (10 * acc + (c.toNat - 48))
    by_cases hbig : 10 * acc + (c.toNat - 48) > 1073741824
    · rw [if_pos (by omega)]
      refine Ev.step (f := fun _ => some (0, 3)) (fun k => ?_) (Ev.now _)
      simp only [colophonref02_Near.l0]
      rw [if_pos c1, if_pos c2, if_pos c3, hb, wa]
      exact if_pos (Int.ofNat_lt.2 hbig)
    · have h2 := ih' (10 * acc + (c.toNat - 48)) (by omega) (by omega) (by omega) hdig.2
      refine Ev.step (fun k => ?_) h2
      simp only [colophonref02_Near.l0]
      rw [if_pos c1, if_pos c2, if_pos c3, hb, wa, w]
      exact if_neg (fun h => hbig (Int.ofNat_lt.1 h))

theorem whole_take (t : ByteArray) : (wholeOf t).data.toList = t.data.toList.take (wholeOf t).size := by
  rcases split_at t.data.toList with hn | ⟨A, B, e, hA⟩
  · have hc := cut_none _ hn
    rw [← data_length, wholeOf_data, hc, List.take_of_length_le (Nat.le_refl _)]
  · have hc := cut_some A B hA
    rw [← e] at hc
    rw [← data_length, wholeOf_data, hc, e]
    simp
theorem part_drop (t : ByteArray) : (partOf t).data.toList = t.data.toList.drop (if pointed t then (wholeOf t).size + 1 else (wholeOf t).size) := by
  rcases split_at t.data.toList with hn | ⟨A, B, e, hA⟩
  · have hc := cut_none _ hn
    have hp : pointed t = false := by unfold pointed; rw [hc]
    rw [hp, ← data_length, wholeOf_data, partOf_data, hc, if_neg (by decide), List.drop_of_length_le (Nat.le_refl _)]
  · have hc := cut_some A B hA
    rw [← e] at hc
    have hp : pointed t = true := by unfold pointed; rw [hc]
    rw [hp, ← data_length, wholeOf_data, partOf_data, hc, if_pos rfl, e, show A ++ 46 :: B = (A ++ [46]) ++ B from by simp, List.drop_left' (by simp)]
theorem extract_data (s : ByteArray) (b : Nat) : (s.extract b s.size).data.toList = s.data.toList.drop b := by
  have e : (s.extract b s.size).data = s.data.extract b s.size := by simp
  rw [e, Array.toList_extract, List.extract_eq_take_drop, List.take_of_length_le (by rw [List.length_drop, data_length]; omega)]
def atOf (s : ByteArray) : Nat := if signed s then 1 else 0
theorem signless_drop (s : ByteArray) : (signless s).data.toList = s.data.toList.drop (atOf s) := by
  unfold atOf
  cases h : signed s with
  | true => exact signless_yes s h
  | false => exact signless_no s h
theorem near_big (below : Bool) (v : Nat) (m : Int) (r : Int) (hv : 100000000 ≤ v) (hm : 0 ≤ m) : nearEnd below (lenR below ((v : Int) * 65536 + m) r) = (0, 3) := by
  apply near_out
  unfold lenR
  split <;> omega
theorem near_ev (s : ByteArray) : Ev (fun k => colophonref02_Near.f k s) (nearOut s) := by
  by_cases h40 : s.size > 40
  · have e : nearOut s = (0, 2) := by unfold nearOut; rw [if_pos h40]
    rw [e]
    refine Ev.congr (f := fun _ => some (0, 2)) (fun k => ?_) (Ev.now _)
    unfold colophonref02_Near.f; rw [if_pos (by omega)]
  · have hs : s.size ≤ 40 := by omega
    have hform := form_ev s hs
    have hstep : ∀ k, colophonref02_Near.f k s = (colophonref02_Form.f k s).bind fun bt141 => if bt141.2.2.2 = true then colophonref02_Near.l0 k s bt141.2.1 bt141.2.2.1 0 bt141.1 else some (0, 20) := fun k => by
      unfold colophonref02_Near.f; rw [if_neg (by omega)]
    refine Ev.congr hstep (Ev.bind hform ?_)
    by_cases hg : goodT (signless s)
    · rw [formT_good _ hg]
      have hw : allDig (wholeOf (signless s)) = true := by
        cases h1 : allDig (wholeOf (signless s))
        · exact absurd (.inl h1) hg
        · rfl
      obtain ⟨w1, w2⟩ := (allDig_iff _).1 hw
      have hlen : (signless s).data.toList.length = s.size - atOf s := by rw [signless_drop, List.length_drop, data_length]
      have hwl : (wholeOf (signless s)).size ≤ (signless s).data.toList.length := by
        rw [← data_length, whole_take]; exact List.length_take_le' _ _
      have hw0 : (wholeOf (signless s)).size ≠ 0 := by rw [← data_length]; rwa [Ne, List.length_eq_zero_iff]
      have hat : atOf s ≤ 1 := by unfold atOf; split <;> omega
      have hpd : (partOf (signless s)).data.toList.all isDig = true := by
        cases hp : pointed (signless s) with
        | false => rw [partOf_none _ (by rw [hp])]; rfl
        | true =>
          cases h1 : allDig (partOf (signless s))
          · exact absurd (.inr ⟨hp, h1⟩) hg
          · exact allDig_all _ h1
      have hpart := part_drop (signless s)
      have hb : atOf s + (if pointed (signless s) then (wholeOf (signless s)).size + 1 else (wholeOf (signless s)).size) ≤ s.size := by
        rcases split_at (signless s).data.toList with hn | ⟨A, B, e, hA⟩
        · have hp : pointed (signless s) = false := by unfold pointed; rw [cut_none _ hn]
          rw [hp, if_neg (by decide)]; omega
        · have hc := cut_some A B hA
          rw [← e] at hc
          have hsz : (wholeOf (signless s)).size = A.length := by unfold wholeOf; rw [hc]; rfl
          have hl2 : (signless s).data.toList.length = A.length + 1 + B.length := by rw [e]; simp; omega
          rw [hsz]; split <;> omega
      obtain ⟨b, hbdef⟩ : ∃ b, b = atOf s + (if pointed (signless s) then (wholeOf (signless s)).size + 1 else (wholeOf (signless s)).size) := ⟨_, rfl⟩
      have hext : s.extract b s.size = partOf (signless s) := Go.WideShapes.bytes_inj (by
        rw [extract_data, hpart, signless_drop, List.drop_drop, hbdef])
      rw [← hbdef] at hb
      have htail := fun (v : Nat) (hv : v ≤ 1073741824) => tail_ev s hs (by omega) b v hb hv (by rw [hext]; exact hpd)
      rw [hext] at htail
      have hsl : (s.data.toList.drop (atOf s)).take (atOf s + (wholeOf (signless s)).size - atOf s) = (wholeOf (signless s)).data.toList := by
        rw [Nat.add_sub_cancel_left, ← signless_drop, ← whole_take]
      have hloop := near_loop s hs (atOf s + (wholeOf (signless s)).size) b (by omega) _ htail ((wholeOf (signless s)).size) (atOf s) 0 (by omega) (by omega) (by omega) (by rw [hsl]; exact w2)
      rw [hsl] at hloop
      have hv : decFrom 0 (wholeOf (signless s)).data.toList = decVal (wholeOf (signless s)).data.toList := rfl
      rw [hv] at hloop
      have hout : nearOut s = if decVal (wholeOf (signless s)).data.toList > 1073741824 then (0, 3) else nearEnd (signed s) (lenR (signed s) (((decVal (wholeOf (signless s)).data.toList : Nat) : Int) * 65536 + (dblOut (partOf (signless s))).1) (dblOut (partOf (signless s))).2) := by
        unfold nearOut
        rw [if_neg h40, if_neg hg]
        have hmr := dblOut_bound _ hpd
        by_cases h8 : (bare (wholeOf (signless s))).size > 8
        · rw [if_pos h8]
          have h9 := bare_big _ w2 h8
          rw [near_big _ _ _ _ h9 hmr.1]
          split <;> rfl
        · rw [if_neg h8]
          have hbd := bare_digits _ hw
          have h9 := decVal_bound (bare (wholeOf (signless s))).data.toList (fun c hc => by
            obtain ⟨j, hj, rfl⟩ := List.getElem_of_mem hc
            exact hbd j hj)
          have h8' : (bare (wholeOf (signless s))).data.toList.length ≤ 8 := by rw [data_length]; omega
          have h12 : 10 ^ (bare (wholeOf (signless s))).data.toList.length ≤ 10 ^ 8 := Nat.pow_le_pow_right (by omega) h8'
          have h10 : decVal (bare (wholeOf (signless s))).data.toList < 100000000 := Nat.lt_of_lt_of_le h9 h12
          have h11 : decVal (bare (wholeOf (signless s))).data.toList = decVal (wholeOf (signless s)).data.toList := decVal_bare _
          rw [len_at _ _ _ _ _ _ h11.symm rfl rfl, if_neg (by omega)]
      rw [hout]
      refine Ev.congr (fun k => ?_) hloop
      rw [hbdef]
      show (if true = true then _ else _) = _
      rw [if_pos rfl]
      congr 1
    · rw [formT_bad _ hg]
      have e : nearOut s = (0, 20) := by unfold nearOut; rw [if_neg h40, if_pos (Classical.not_not.1 hg)]
      rw [e]
      refine Ev.congr (f := fun _ => some (0, 20)) (fun k => ?_) (Ev.now _)
      rfl

end Go.Proofs.YtekifiblehmafaaDoor.X
