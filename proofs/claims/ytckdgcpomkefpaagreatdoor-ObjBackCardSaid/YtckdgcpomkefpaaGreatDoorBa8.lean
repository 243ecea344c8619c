/- Part 8 of a proof: what it needs of the program's functions as plain Lean functions, with the proof that the machine's calls come to them, and of plain laws; put together out of smaller texts. No conditions besides those that each statement names. -/
import Derived.Test.YtckdgcpomkefpaaGreatDoorBa5
import Derived.Test.YtckdgcpomkefpaaGreatDoorBa6
import Derived.Test.YtckdgcpomkefpaaGreatDoorBa7
section
set_option linter.unusedVariables false
set_option linter.unusedSimpArgs false
set_option maxRecDepth 100000
namespace Go.Proofs.YtckdgcpomkefpaaGreatDoor.En
open Go
def rest (s : ByteArray) (a : Nat) : List UInt8 := s.data.toList.drop a
section
variable {s : ByteArray} {a : Nat} {c : UInt8} {r l : List UInt8}
theorem rest_lt (h : rest s a = c :: r) : a < s.data.toList.length := by
  by_cases ha : a < s.data.toList.length
  · exact ha
  · unfold rest at h
    rw [List.drop_eq_nil_of_le (by omega)] at h
    cases h
theorem rest_size (h : rest s a = c :: r) : a < s.size := rest_lt h
theorem rest_bt (h : rest s a = c :: r) : bt s (a : Int) = (c.toNat : Int) := by
  have hlt := rest_lt h
  unfold rest at h
  rw [List.drop_eq_getElem_cons hlt] at h
  injection h with h1 h2
  rw [bt_nat s a hlt, h1]
theorem rest_tl (h : rest s a = c :: r) : rest s (a + 1) = r := by
  have hlt := rest_lt h
  unfold rest at h ⊢
  rw [List.drop_eq_getElem_cons hlt] at h
  injection h with h1 h2
theorem rest_app (h : rest s a = l ++ r) : rest s (a + l.length) = r := by
  unfold rest at h ⊢
  rw [← List.drop_drop, h, List.drop_left]
theorem rest_length (s : ByteArray) (a : Nat) : (rest s a).length = s.size - a := by
  unfold rest
  rw [List.length_drop]
  rfl
theorem rest_nil (h : rest s a = []) : s.size ≤ a := by
  have := rest_length s a
  rw [h, List.length_nil] at this
  omega
theorem isB_rest (h : rest s a = c :: r) (n : Int) : isB s (a : Int) n = ((c.toNat : Int) == n) := by
  have := rest_size h
  unfold isB
  rw [decide_eq_true (by omega), rest_bt h, Bool.true_and]
theorem sub_rest (h : rest s a = l ++ r) : sub' s (a : Int) ((a + l.length : Nat) : Int) = bs l := ba_inj (by
  show (s.extract a (a + l.length)).data.toList = l
  have e : (s.extract a (a + l.length)).data = s.data.extract a (a + l.length) := by simp
  unfold rest at h
  rw [e, Array.toList_extract, List.extract_eq_take_drop, h, Nat.add_sub_cancel_left, List.take_left])
theorem skA_rest (f : Int → Bool) (s : ByteArray) : ∀ (l : List UInt8) (a : Nat) (r : List UInt8), rest s a = l ++ r → (∀ c ∈ l, f (c.toNat : Int) = true) → (∀ c r', r = c :: r' → f (c.toNat : Int) = false) → skA f s (a : Int) = ((a + l.length : Nat) : Int)
  | [], a, r, h, _, hr => by
    have h : rest s a = r := h
    rw [skA_eq]
    cases r with
    | nil =>
      have := rest_nil h
      rw [decide_eq_false (by omega)]
      rfl
    | cons c r' =>
      rw [rest_bt h, hr c r' rfl, Bool.and_false]
      rfl
  | c :: l, a, r, h, hl, hr => by
    have h : rest s a = c :: (l ++ r) := h
    have hlt := rest_size h
    rw [skA_eq, decide_eq_true (by omega), rest_bt h, hl c (by simp), Bool.true_and, cond_true]
    have := skA_rest f s l (a + 1) r (rest_tl h) (fun x hx => hl x (by simp [hx])) hr
    rw [show ((a : Int) + 1) = ((a + 1 : Nat) : Int) by omega, this, List.length_cons]
    congr 1
    omega
end
def blkU (c : UInt8) : Bool := blkB (c.toNat : Int)
def wdU (c : UInt8) : Bool := wordB (c.toNat : Int)
def skipB (r : List UInt8) : List UInt8 := r.dropWhile blkU
def wd1 (r : List UInt8) : List UInt8 := (skipB r).takeWhile wdU
def wdR (r : List UInt8) : List UInt8 := (skipB r).dropWhile wdU
theorem dropWhile_head {α : Type} (p : α → Bool) : ∀ (l : List α) (c : α) (r : List α), l.dropWhile p = c :: r → p c = false
  | [], c, r, h => by cases h
  | x :: l, c, r, h => by
    rw [List.dropWhile_cons] at h
    by_cases hp : p x = true
    · rw [if_pos hp] at h
      exact dropWhile_head p l c r h
    · rw [if_neg hp] at h
      injection h with h1 h2
      rw [← h1]
      simpa using hp
theorem takeWhile_all {α : Type} (p : α → Bool) : ∀ (l : List α), ∀ c ∈ l.takeWhile p, p c = true
  | [], c, h => by cases h
  | x :: l, c, h => by
    rw [List.takeWhile_cons] at h
    by_cases hp : p x = true
    · rw [if_pos hp] at h
      rcases List.mem_cons.1 h with rfl | h
      · exact hp
      · exact takeWhile_all p l c h
    · rw [if_neg hp] at h
      cases h
theorem bl_at {s : ByteArray} {a : Nat} {r : List UInt8} (h : rest s a = r) : ∃ b : Nat, a ≤ b ∧ blA s (a : Int) = (b : Int) ∧ rest s b = skipB r := by
  have e : r.takeWhile blkU ++ r.dropWhile blkU = r := List.takeWhile_append_dropWhile
  rw [← e] at h
  refine ⟨a + (r.takeWhile blkU).length, by omega, ?_, rest_app h⟩
  exact skA_rest blkB s _ a _ h (takeWhile_all blkU r) (fun c r' hr => dropWhile_head blkU r c r' hr)
theorem wd_at {s : ByteArray} {a : Nat} {r : List UInt8} (h : rest s a = r) : ∃ b : Nat, a ≤ b ∧ wdA s (a : Int) = (b : Int) ∧ sub' s (a : Int) (b : Int) = bs (r.takeWhile wdU) ∧ rest s b = r.dropWhile wdU := by
  have e : r.takeWhile wdU ++ r.dropWhile wdU = r := List.takeWhile_append_dropWhile
  rw [← e] at h
  refine ⟨a + (r.takeWhile wdU).length, by omega, ?_, sub_rest h, rest_app h⟩
  exact skA_rest wordB s _ a _ h (takeWhile_all wdU r) (fun c r' hr => dropWhile_head wdU r c r' hr)
def endW (r : List UInt8) : Prop := ∀ c r', r = c :: r' → wdU c = false
def noR (r : List UInt8) : Prop := wd1 r ≠ [82]
def noRef (r : List UInt8) : Prop := wd1 r = [48] → noR (wdR r)
def safe (r : List UInt8) : Prop := endW r ∧ noR r ∧ noRef r
theorem bs_toList (l : List UInt8) : (bs l).toList = l := by rw [Lib.toList_data]; rfl
theorem rfB_no {s : ByteArray} {a : Nat} {r : List UInt8} (h : rest s a = r) (hn : noRef r) : rfB s (a : Int) = false := by
  obtain ⟨b, hb, e1, h1⟩ := bl_at h
  obtain ⟨c, hc, e2, e3, h2⟩ := wd_at h1
  obtain ⟨d, hd, e4, h3⟩ := bl_at h2
  obtain ⟨e, he, e5, e6, h4⟩ := wd_at h3
  unfold rfB rf3 rf2 rf1
  rw [e1, e2, e4, e5, e3, e6, bs_toList, bs_toList]
  by_cases h0 : (skipB r).takeWhile wdU = [48]
  · have h5 : (skipB ((skipB r).dropWhile wdU)).takeWhile wdU ≠ [82] := hn h0
    have : (((skipB ((skipB r).dropWhile wdU)).takeWhile wdU) == rT.toList) = false := by
      rw [beq_eq_false_iff_ne]
      have e : rT.toList = [82] := by rw [Lib.toList_data]; rfl
      rw [e]
      exact h5
    rw [this]
    simp
  · have : ((skipB r).takeWhile wdU == zeroT.toList) = false := by
      rw [beq_eq_false_iff_ne]
      have e : zeroT.toList = [48] := by rw [Lib.toList_data]; rfl
      rw [e]
      exact h0
    rw [this]
    simp
theorem tw_app {α : Type} (p : α → Bool) : ∀ (l r : List α), (∀ c ∈ l, p c = true) → (∀ c r', r = c :: r' → p c = false) → (l ++ r).takeWhile p = l ∧ (l ++ r).dropWhile p = r
  | [], r, _, hr => by
    cases r with
    | nil => exact ⟨rfl, rfl⟩
    | cons c r' =>
      have := hr c r' rfl
      exact ⟨by rw [List.nil_append, List.takeWhile_cons, if_neg (by rw [this]; decide)], by rw [List.nil_append, List.dropWhile_cons, if_neg (by rw [this]; decide)]⟩
  | c :: l, r, hl, hr => by
    have hc := hl c (by simp)
    obtain ⟨h1, h2⟩ := tw_app p l r (fun x hx => hl x (by simp [hx])) hr
    exact ⟨by rw [List.cons_append, List.takeWhile_cons, if_pos hc, h1], by rw [List.cons_append, List.dropWhile_cons, if_pos hc, h2]⟩
theorem byte_tab (p : UInt8 → Bool) (h : (List.range 256).all (fun n => p (UInt8.ofNat n)) = true) (c : UInt8) : p c = true := by
  rw [List.all_eq_true] at h
  have := h c.toNat (List.mem_range.2 c.toNat_lt)
  rwa [UInt8.ofNat_toNat] at this
theorem wd_blk (c : UInt8) : wdU c = true → blkU c = false := fun h => by
  unfold wdU wordB at h
  rw [Bool.and_eq_true, Bool.not_eq_true'] at h
  exact h.1
theorem skip_word {c : UInt8} {r : List UInt8} (h : blkU c = false) : skipB (c :: r) = c :: r := by
  unfold skipB
  rw [List.dropWhile_cons, if_neg (by rw [h]; decide)]
theorem skip_blank {c : UInt8} {r : List UInt8} (h : blkU c = true) : skipB (c :: r) = skipB r := by
  unfold skipB
  rw [List.dropWhile_cons, if_pos h]
theorem noR_word {w r : List UInt8} (hw : ∀ c ∈ w, wdU c = true) (h0 : w ≠ []) (h : w ≠ [82]) (hr : endW r) : noR (w ++ r) := by
  cases w with
  | nil => exact (h0 rfl).elim
  | cons c w =>
    have hc := wd_blk c (hw c (by simp))
    unfold noR wd1
    rw [List.cons_append, skip_word hc, ← List.cons_append, (tw_app wdU (c :: w) r hw hr).1]
    exact h
theorem noRef_word {w r : List UInt8} (hw : ∀ c ∈ w, wdU c = true) (h0 : w ≠ []) (hr : safe r) : noRef (w ++ r) := by
  cases w with
  | nil => exact (h0 rfl).elim
  | cons c w =>
    have hc := wd_blk c (hw c (by simp))
    intro _
    unfold wdR
    rw [List.cons_append, skip_word hc, ← List.cons_append, (tw_app wdU (c :: w) r hw hr.1).2]
    exact hr.2.1
theorem delim_no {c : UInt8} {r : List UInt8} (hb : blkU c = false) (hd : wdU c = false) : noR (c :: r) ∧ noRef (c :: r) := by
  have e : wd1 (c :: r) = [] := by
    unfold wd1
    rw [skip_word hb, List.takeWhile_cons, if_neg (by rw [hd]; decide)]
  refine ⟨fun h => ?_, fun h => ?_⟩
  · rw [e] at h; cases h
  · rw [e] at h; cases h
theorem safe_delim {c : UInt8} {r : List UInt8} (hb : blkU c = false) (hd : wdU c = false) : safe (c :: r) :=
  ⟨fun x r' h => by injection h with h1 _; rw [← h1]; exact hd, (delim_no hb hd).1, (delim_no hb hd).2⟩
theorem safe_nil : safe [] := ⟨fun c r' h => (by cases h), (fun h => by cases h), fun h => (by cases h)⟩
theorem blk_wd {c : UInt8} (h : blkU c = true) : wdU c = false := by
  cases hw : wdU c
  · rfl
  · rw [wd_blk c hw] at h; cases h
theorem safe_blank {c : UInt8} {r : List UInt8} (h : blkU c = true) (h1 : noR r) (h2 : noRef r) : safe (c :: r) := by
  refine ⟨fun x r' e => by injection e with e1 _; rw [← e1]; exact blk_wd h, fun e => h1 ?_, fun e => ?_⟩
  · unfold wd1 at e ⊢
    rwa [skip_blank h] at e
  · have := h2 (by unfold wd1 at e ⊢; rwa [skip_blank h] at e)
    unfold wdR at this ⊢
    rwa [skip_blank h]
end Go.Proofs.YtckdgcpomkefpaaGreatDoor.En
end
section
set_option linter.unusedVariables false
set_option linter.unusedSimpArgs false
set_option maxRecDepth 100000
namespace Go.Proofs.YtckdgcpomkefpaaGreatDoor.En
open Go Dg
attribute [local irreducible] Dg.drounds
theorem dbl_val : ∀ l : List Nat, val (dbl l).1 + 10 ^ l.length * (dbl l).2 = 2 * val l
  | [] => rfl
  | a :: l => by
    have ih := dbl_val l
    rw [dbl_cons]
    simp only
    rw [val_cons, val_cons, dbl_length, List.length_cons, Nat.pow_succ]
    generalize (dbl l).2 = c at *
    generalize val (dbl l).1 = v at *
    generalize val l = y at *
    generalize 10 ^ l.length = P at *
    have e := Nat.div_add_mod (2 * a + c) 10
    generalize (2 * a + c) / 10 = q at *
    generalize (2 * a + c) % 10 = r at *
    have h1 : r * P + P * 10 * q = (2 * a + c) * P := by
      rw [← e, Nat.add_mul, Nat.mul_comm P 10, Nat.mul_assoc, Nat.mul_assoc, Nat.mul_comm P q]
      omega
    have h2 : (2 * a + c) * P = 2 * (a * P) + P * c := by rw [Nat.add_mul, Nat.mul_assoc, Nat.mul_comm c P]
    omega
theorem drounds_val (l : List Nat) : ∀ k, val (drounds k (l, 0)).1 + 10 ^ l.length * (drounds k (l, 0)).2 = 2 ^ k * val l
  | 0 => by simp [drounds_zero]
  | k + 1 => by
    have ih := drounds_val l k
    have hl := drounds_length l 0 k
    have h1 := dbl_val (drounds k (l, 0)).1
    rw [hl] at h1
    rw [drounds_succ]
    simp only
    generalize (drounds k (l, 0)).1 = D at *
    generalize (drounds k (l, 0)).2 = n at *
    rw [Nat.mul_add, Nat.pow_succ, Nat.mul_comm (2 ^ k) 2, Nat.mul_assoc, ← ih]
    generalize 10 ^ l.length = P at *
    have h2 : P * (2 * n) = 2 * (P * n) := by rw [Nat.mul_left_comm]
    omega
theorem fracD_val : ∀ k r, remk k r = 0 → val (fracD k r) * 65536 = r * 10 ^ (fracD k r).length
  | 0, r, h => by
    rw [remk_zero] at h
    subst h
    rw [fracD_zero]; rfl
  | k + 1, r, h => by
    rw [remk_succ] at h
    have ih := fracD_val k _ h
    rw [fracD_succ]
    by_cases h0 : r = 0
    · rw [if_pos h0]; subst h0; rfl
    · rw [if_neg h0, val_cons, List.length_cons, Nat.add_mul, ih, Nat.pow_succ]
      generalize 10 ^ (fracD k (r * 10 % 65536)).length = P
      have e := Nat.div_add_mod (r * 10) 65536
      generalize r * 10 / 65536 = q at *
      generalize r * 10 % 65536 = s at *
      have h1 : r * (P * 10) = r * 10 * P := by rw [Nat.mul_comm P 10, Nat.mul_assoc]
      rw [h1, ← e, Nat.add_mul, Nat.mul_assoc 65536, Nat.mul_comm 65536]
theorem val_zero_half (D : List Nat) (h : val D = 0) : halfOut D = -1 := by
  cases D with
  | nil => rfl
  | cons d l =>
    rw [val_cons] at h
    have h1 : d * 10 ^ l.length = 0 := by omega
    have h2 : d = 0 := by
      rcases Nat.mul_eq_zero.1 h1 with h3 | h3
      · exact h3
      · exact absurd h3 (Nat.ne_of_gt (Nat.pow_pos (by omega)))
    rw [halfOut_cons, if_pos (by omega)]
theorem exact_key (P v n r : Nat) (hP : 0 < P) (hv : v < P) (h : v + P * n = r * P) : n = r ∧ v = 0 := by
  have h1 : (v + P * n) / P = n := by rw [Nat.add_mul_div_left _ _ hP, Nat.div_eq_of_lt hv, Nat.zero_add]
  have h2 : (r * P) / P = r := Nat.mul_div_cancel _ hP
  have h3 : n = r := by rw [← h1, h, h2]
  subst h3
  rw [Nat.mul_comm n P] at h
  exact ⟨rfl, by omega⟩
theorem isDig_asU (l : List Nat) (h : ∀ d ∈ l, d < 10) : (asU l).all isDig = true := by
  rw [List.all_eq_true]
  intro c hc
  obtain ⟨d, hd, rfl⟩ := List.mem_map.1 hc
  have := h d hd
  unfold isDig
  rw [UInt8.toNat_ofNat_of_lt' (by show 48 + d < 256; omega)]
  simp; omega
theorem digs_asU (l : List Nat) (h : ∀ d ∈ l, d < 10) : digs (Dg.bs (asU l)) = l := by
  show ((asU l).map fun c => c.toNat - 48) = l
  unfold asU
  rw [List.map_map]
  refine (List.map_congr_left fun d hd => ?_).trans (List.map_id l)
  have := h d hd
  show (UInt8.ofNat (48 + d)).toNat - 48 = d
  rw [UInt8.toNat_ofNat_of_lt' (by show 48 + d < 256; omega)]
  omega
theorem decVal_asU (l : List Nat) (h : ∀ d ∈ l, d < 10) : decVal (asU l) = val l := by
  have e : ∀ (l : List Nat) (n : Nat), (∀ d ∈ l, d < 10) → (asU l).foldl (fun n c => 10 * n + (c.toNat - 48)) n = l.foldl (fun n d => 10 * n + d) n := by
    intro l
    induction l with
    | nil => intro n _; rfl
    | cons a l ih =>
      intro n hl
      have ha := hl a List.mem_cons_self
      show (asU l).foldl _ (10 * n + ((UInt8.ofNat (48 + a)).toNat - 48)) = l.foldl _ (10 * n + a)
      rw [UInt8.toNat_ofNat_of_lt' (by show 48 + a < 256; omega), ih _ (fun d hd => hl d (List.mem_cons_of_mem _ hd)), show 48 + a - 48 = a from by omega]
  exact e l 0 h
theorem dblOut_exact (r : Nat) (hr : r < 65536) : dblOut (Dg.bs (asU (fracD 16 r))) = ((r : Int), -1) := by
  have hd := fracD_digits 16 r hr
  rw [dblOut_half _ (isDig_asU _ hd), digs_asU _ hd]
  have h1 := drounds_val (fracD 16 r) 16
  have h2 := fracD_val 16 r (rem16 r hr).1
  have h3 := val_lt _ (drounds_digits (fracD 16 r) 0 hd 16)
  rw [drounds_length] at h3
  have h4 : 2 ^ 16 * val (fracD 16 r) = val (fracD 16 r) * 65536 := by rw [Nat.mul_comm]
  rw [h4, h2] at h1
  obtain ⟨e1, e2⟩ := exact_key _ _ _ _ (Nat.pow_pos (by omega)) h3 h1
  rw [e1, val_zero_half _ e2]
theorem no_dot (l : List UInt8) (h : l.all isDig = true) : (46 : UInt8) ∉ l := fun hm => by
  have := List.all_eq_true.1 h _ hm
  rw [isDig46] at this
  cases this
theorem trimL_len (l : List UInt8) : (Lib.trimLeftB l 48).length ≤ l.length := (List.dropWhile_sublist _).length_le
theorem body_near (u : Nat) (hu : u ≤ 1099511627776) (t : ByteArray) (ht : t.data.toList = textBody u) :
    allDig (wholeOf t) = true ∧ (pointed t = true → allDig (partOf t) = true) ∧ (Dg.bare (wholeOf t)).size ≤ 8 ∧ (∀ b, lenOf b (Dg.bare (wholeOf t)) (partOf t) = u) ∧ t.size ≤ 25 := by
  have hq := natDigits_digits (u / 65536)
  have hr : u % 65536 < 65536 := Nat.mod_lt _ (by omega)
  have hf := fracD_digits 16 _ hr
  have hlq := natDigits_length 7 (u / 65536) (by omega)
  have hlp := natDigits_pos (u / 65536)
  have hlf := fracD_length 16 (u % 65536)
  have hdq := isDig_asU _ hq
  have hdf := isDig_asU _ hf
  have hvq := val_natDigits (u / 65536)
  have hcut : Lib.cut t.data.toList [46] = (asU (natDigits (u / 65536)), asU (fracD 16 (u % 65536)), decide (u % 65536 ≠ 0)) := by
    rw [ht]
    unfold textBody
    by_cases h0 : u % 65536 = 0
    · rw [if_pos h0, List.append_nil, cut_none _ (no_dot _ hdq), h0, fracD_zero]; rfl
    · rw [if_neg h0, cut_some _ _ (no_dot _ hdq)]; simp [h0]
  have hw : wholeOf t = Dg.bs (asU (natDigits (u / 65536))) := by unfold wholeOf; rw [hcut]
  have hp : partOf t = Dg.bs (asU (fracD 16 (u % 65536))) := by unfold partOf; rw [hcut]
  have hpt : pointed t = decide (u % 65536 ≠ 0) := by unfold pointed; rw [hcut]
  have hsz : t.size ≤ 25 := by
    rw [← data_length, ht]
    unfold textBody
    rw [List.length_append, asU_length]
    split <;> simp [asU_length] <;> omega
  rw [hw, hp, hpt]
  refine ⟨?_, ?_, ?_, ?_, hsz⟩
  · rw [allDig_iff]
    refine ⟨?_, hdq⟩
    intro h
    have : (asU (natDigits (u / 65536))).length = 0 := by
      show (Dg.bs (asU (natDigits (u / 65536)))).data.toList.length = 0
      rw [h]; rfl
    rw [asU_length] at this; omega
  · intro h
    rw [allDig_iff]
    refine ⟨?_, hdf⟩
    intro h2
    have h3 : (asU (fracD 16 (u % 65536))).length = 0 := by
      show (Dg.bs (asU (fracD 16 (u % 65536)))).data.toList.length = 0
      rw [h2]; rfl
    rw [asU_length] at h3
    exact fracD_end 16 _ hr (rem16 _ hr).1 (of_decide_eq_true h) (List.length_eq_zero_iff.1 h3)
  · have := trimL_len (asU (natDigits (u / 65536)))
    rw [asU_length] at this
    show (Lib.trimLeftB (asU (natDigits (u / 65536))) 48).length ≤ 8
    omega
  · intro b
    have h11 : decVal (Dg.bare (Dg.bs (asU (natDigits (u / 65536))))).data.toList = u / 65536 := by
      refine (decVal_bare (asU (natDigits (u / 65536)))).trans ?_
      rw [decVal_asU _ hq, hvq]
    rw [len_at _ _ _ _ _ _ h11.symm rfl rfl, dblOut_exact _ hr]
    simp only
    rw [len_low]
    omega
theorem near_back (x : Int) (h1 : -1099511627776 ≤ x) (h2 : x ≤ 1099511627776) : nearOut (fixT x) = (x, 0) ∧ (fixT x).size ≤ 26 := by
  unfold fixT
  have hb := body_near x.natAbs (by omega)
  have key : ∀ s : ByteArray, signed s = decide (x < 0) → (signless s).data.toList = textBody x.natAbs → s.size ≤ (signless s).size + 1 → nearOut s = (x, 0) ∧ s.size ≤ 26 := by
    intro s hs ht hz
    obtain ⟨b1, b2, b3, b4, b5⟩ := hb _ ht
    refine ⟨?_, by omega⟩
    unfold nearOut
    rw [if_neg (by omega), if_neg, if_neg (by omega), b4, hs]
    · unfold nearEnd
      rw [if_pos (by omega)]
      by_cases h3 : x < 0
      · simp [h3]; omega
      · simp [h3]; omega
    · rintro (h | ⟨h, h'⟩)
      · rw [b1] at h; cases h
      · rw [b2 h] at h'; cases h'
  by_cases h3 : x < 0
  · rw [if_pos h3]
    have hs : signed (En.bs ([45] ++ textBody x.natAbs)) = true := rfl
    have ht := signless_yes (En.bs ([45] ++ textBody x.natAbs)) hs
    have ht' : (signless (En.bs ([45] ++ textBody x.natAbs))).data.toList = textBody x.natAbs := ht
    refine key _ (by rw [hs]; simp [h3]) ht' ?_
    rw [← data_length, ← data_length, ht']
    show ([45] ++ textBody x.natAbs).length ≤ _
    simp
  · rw [if_neg h3]
    have hs : signed (En.bs ([] ++ textBody x.natAbs)) = false := by
      obtain ⟨a, l, e, ha⟩ : ∃ a l, natDigits (x.natAbs / 65536) = a :: l ∧ a < 10 := by
        have hp := natDigits_pos (x.natAbs / 65536)
        have hd := natDigits_digits (x.natAbs / 65536)
        cases hn : natDigits (x.natAbs / 65536) with
        | nil => rw [hn] at hp; simp at hp
        | cons a l => exact ⟨a, l, rfl, hd a (by rw [hn]; exact List.mem_cons_self)⟩
      show Lib.hasPrefix (textBody x.natAbs) [45] = false
      unfold textBody
      rw [e]
      have hne : UInt8.ofNat (48 + a) ≠ 45 := by
        intro h
        have := congrArg UInt8.toNat h
        rw [UInt8.toNat_ofNat_of_lt' (by show 48 + a < 256; omega)] at this
        have h45 : (45 : UInt8).toNat = 45 := rfl
        omega
      have hb : ((45 : UInt8) == UInt8.ofNat (48 + a)) = false := by rw [beq_eq_false_iff_ne]; exact Ne.symm hne
      show (((45 : UInt8) == UInt8.ofNat (48 + a)) && _) = false
      rw [hb, Bool.false_and]
    have ht := signless_no (En.bs ([] ++ textBody x.natAbs)) hs
    have ht' : (signless (En.bs ([] ++ textBody x.natAbs))).data.toList = textBody x.natAbs := ht
    refine key _ (by rw [hs]; simp [h3]) ht' ?_
    rw [← data_length, ← data_length, ht']
    show ([] ++ textBody x.natAbs).length ≤ _
    simp
end Go.Proofs.YtckdgcpomkefpaaGreatDoor.En
end
section
set_option linter.unusedVariables false
set_option linter.unusedSimpArgs false
set_option maxRecDepth 100000
namespace Go.Proofs.YtckdgcpomkefpaaGreatDoor.En
open Go
def lit (l : List UInt8) : List Dat := l.map fun b => .int b.toNat
def nullT : ByteArray := ⟨#[110, 117, 108, 108]⟩
def boolT (b : Bool) : ByteArray := bif b then ⟨#[116, 114, 117, 101]⟩ else ⟨#[102, 97, 108, 115, 101]⟩
def refT : ByteArray := ⟨#[32, 48, 32, 82]⟩
def sepT (f : Dat → List Dat) : Bool → List Dat → List Dat
  | _, [] => []
  | first, d :: r => ((bif first then [] else [Dat.int 32]) ++ f d) ++ sepT f false r
def dicT (f : Dat → List Dat) : Bool → List Dat → List Dat → List Dat
  | first, key :: ks, d :: r => ((((bif first then [] else [Dat.int 32]) ++ nameT (key.at 0).toS) ++ [Dat.int 32]) ++ f d) ++ dicT f false ks r
  | _, _, _ => []
def txtK (f : Dat → List Dat) (k1 n1 : Int) (b1 : Bool) (s1 : ByteArray) (ks1 l1 : List Dat) : List Dat :=
  bif k1 == 0 then bytesTo nullT else bif k1 == 1 then bytesTo (boolT b1) else bif k1 == 2 then bytesTo (itS n1) else bif k1 == 3 then bytesTo (fixT n1) else
  bif k1 == 4 then nameT s1 else bif k1 == 5 then txtT s1 else bif k1 == 6 then (Dat.int 91 :: sepT f true l1) ++ [Dat.int 93] else
  bif k1 == 7 then ((bytesTo ⟨#[60, 60]⟩) ++ dicT f true ks1 l1) ++ bytesTo ⟨#[62, 62]⟩ else bif k1 == 8 then bytesTo (itS n1 ++ refT) else []
def txtO : Nat → Dat → List Dat
  | 0, _ => []
  | k + 1, d => txtK (txtO k) (d.at 0).toI (d.at 2).toI (d.at 1).toB (d.at 3).toS (d.at 4).toL (d.at 5).toL
theorem txtO_nrm (k : Nat) (d : Dat) : txtO k (nrm d) = txtO k d := by cases k <;> rfl
def arrW (f : Dat → List Dat → List Dat) : Bool → List Dat → List Dat → List Dat
  | _, [], l => l
  | first, d :: r, l => arrW f false r (f d (bif first then l else l ++ [Dat.int 32]))
def dicW (f : Dat → List Dat → List Dat) : Bool → List Dat → List Dat → List Dat → List Dat
  | first, key :: ks, d :: r, l => dicW f false ks r (f d (((bif first then l else l ++ [Dat.int 32]) ++ nameT (key.at 0).toS) ++ [Dat.int 32]))
  | _, _, _, l => l
def wrK (f : Dat → List Dat → List Dat) (k1 n1 : Int) (b1 : Bool) (s1 : ByteArray) (ks1 l1 : List Dat) (l : List Dat) : List Dat :=
  bif k1 == 0 then l ++ bytesTo nullT else bif k1 == 1 then l ++ bytesTo (boolT b1) else bif k1 == 2 then l ++ bytesTo (itS n1) else bif k1 == 3 then l ++ bytesTo (fixT n1) else
  bif k1 == 4 then l ++ nameT s1 else bif k1 == 5 then l ++ txtT s1 else bif k1 == 6 then arrW f true l1 (l ++ [Dat.int 91]) ++ [Dat.int 93] else
  bif k1 == 7 then dicW f true ks1 l1 (l ++ bytesTo ⟨#[60, 60]⟩) ++ bytesTo ⟨#[62, 62]⟩ else bif k1 == 8 then l ++ bytesTo (itS n1 ++ refT) else l
def wrO : Nat → Dat → List Dat → List Dat
  | 0, _, l => l
  | k + 1, d, l => bif decide ((l.length : Int) > 1048576) then l else wrK (wrO k) (d.at 0).toI (d.at 2).toI (d.at 1).toB (d.at 3).toS (d.at 4).toL (d.at 5).toL l
theorem wrO_nrm (k : Nat) (d : Dat) (l : List Dat) : wrO k (nrm d) l = wrO k d l := by cases k <;> rfl
def fitW : Nat → Dat → Prop
  | 0, _ => False
  | k + 1, d => flatD d = true ∧ (d.at 5).toL.length ≤ 1000000 ∧ ∀ e ∈ (d.at 5).toL, fitW k e
def okWr (k : Nat) (d : Dat) (l : List Dat) : Prop := fitW k d ∧ l.length + (txtO k d).length ≤ 400000000000
noncomputable def writeE (k : Nat) : List AV → Bx → Option (Bool × Out)
  | [.box 0 0, .agg [.v (.int .i64 k1), .v (.bool b1), .v (.int .i64 n1), .v (.string s1), .row none 9 ks1, .row none 43 l1]], [some [.self T, .row (some m) E l], none] =>
    bif isBu T m E then some (decP (okWr k (mkO k1 n1 b1 s1 ks1 l1) l), .ret (.tup []) [some (bu (wrO k (mkO k1 n1 b1 s1 ks1 l1) l)), none]) else none
  | _, _ => none
noncomputable def wrC0 : CallF := addF 71 wbE (addF 66 wsE (addF 46 blE (addF 67 fbE (addF 58 itoaE (addF 68 fixE (addF 69 nameE (addF 70 txtE fun _ _ _ => none)))))))
noncomputable def wrC (k : Nat) : CallF := addF 45 (writeE k) wrC0
noncomputable def wrL1 (call : CallF) (m r : Nat) (l l1 : List Dat) (i : Int) := loopF PR TK call m 45 [some (bu l), none] [true, true, true, true, true, true, true, true, true, true, true, true, true, true, true, true, false, true, false, true] r (sp 117 [(0, .box 0 0), (61, .row none 43 l1), (62, I l1.length), (63, I i)] [(0, bu l)])
noncomputable def wrL2 (call : CallF) (m r : Nat) (l : List Dat) (k1 n1 : Int) (b1 : Bool) (s1 : ByteArray) (ks1 l1 : List Dat) (i : Int) := loopF PR TK call m 45 [some (bu l), none] [true, true, true, true, true, true, true, true, true, true, true, true, true, true, true, true, true, true, false, true, false, true] r (sp 117 [(0, .box 0 0), (3, .box 3 0), (83, .row none 43 l1), (84, I l1.length), (85, I i)] [(0, bu l), (3, obA k1 n1 b1 s1 ks1 l1)])
def wsK (l : List Dat) (s : ByteArray) (k : List Dat → Option Out) : Option Out := bif Nat.ble (l.length + s.size) fitsN then k (l ++ bytesTo s) else none
def wbK (l : List Dat) (c : Int) (k : List Dat → Option Out) : Option Out := bif Nat.ble (l.length + 1) fitsN then k (l ++ [Dat.int c]) else none
section
variable (k m r : Nat) (k1 n1 : Int) (b1 : Bool) (s1 : ByteArray) (ks1 l1 l : List Dat) (i : Int)
theorem write_0 : evFn PR TK (wrC k) m 45 [.box 0 0, .agg (obA k1 n1 b1 s1 ks1 l1)] [some (bu l), none] =
  bif decide ((l.length : Int) > 1048576) then tR0 l else
  bif k1 == 0 then wsK l nullT tR0 else bif k1 == 1 then wsK l (boolT b1) tR0 else bif k1 == 2 then (bif itOk n1 then wsK l (itS n1) tR0 else none) else
  bif k1 == 3 then (bif inB n1 then wsK l (fixT n1) tR0 else none) else bif k1 == 4 then (bif nmOk s1 l.length then tR0 (l ++ nameT s1) else none) else
  bif k1 == 5 then (bif nmOk s1 l.length then tR0 (l ++ txtT s1) else none) else bif k1 == 6 then wbK l 91 (fun l' => wrL1 (wrC k) m m l' l1 0) else
  bif k1 == 7 then wsK l ⟨#[60, 60]⟩ (fun l' => wrL2 (wrC k) m m l' k1 n1 b1 s1 ks1 l1 0) else bif k1 == 8 then (bif itOk n1 then glueO (itS n1) refT (fun s => wsK l s tR0) else none) else tR0 l := by kernel_rfl
theorem write_1 : wrL1 (wrC k) m (r + 1) l l1 i = bif decide (i < l1.length) then (idx l1 i).bind fun d =>
      bif decide (i > 0) then wbK l 32 (fun l' => bif decP (okWr k (nrm d) l') then wrL1 (wrC k) m r (wrO k (nrm d) l') l1 (W (i + 1)) else none) else (bif decP (okWr k (nrm d) l) then wrL1 (wrC k) m r (wrO k (nrm d) l) l1 (W (i + 1)) else none)
    else wbK l 93 tR0 := by kernel_rfl
noncomputable def wr2K (l : List Dat) (d : Dat) : Option Out := (idx ks1 i).bind fun e => bif nmOk (e.at 0).toS l.length then wbK (l ++ nameT (e.at 0).toS) 32 (fun l' => bif decP (okWr k (nrm d) l') then wrL2 (wrC k) m r (wrO k (nrm d) l') k1 n1 b1 s1 ks1 l1 (W (i + 1)) else none) else none
theorem write_2 : wrL2 (wrC k) m (r + 1) l k1 n1 b1 s1 ks1 l1 i = bif decide (i < l1.length) then (idx l1 i).bind fun d =>
      bif decide (i > 0) then wbK l 32 (fun l' => wr2K k m r k1 n1 b1 s1 ks1 l1 i l' d) else wr2K k m r k1 n1 b1 s1 ks1 l1 i l d
    else wsK l ⟨#[62, 62]⟩ tR0 := by kernel_rfl
end
end Go.Proofs.YtckdgcpomkefpaaGreatDoor.En
end
section
set_option linter.unusedVariables false
set_option linter.unusedSimpArgs false
set_option maxRecDepth 100000
namespace Go.Proofs.YtckdgcpomkefpaaGreatDoor.En
open Go
theorem bytesTo_len (s : ByteArray) : (bytesTo s).length = s.size := by
  unfold bytesTo
  rw [List.length_map]
  exact Array.length_toList
theorem kinds9 {k1 n1 : Int} {s1 : ByteArray} {ks1 l1 : List Dat} (h : kindB k1 n1 s1 ks1 l1 = true) : k1 = 0 ∨ k1 = 1 ∨ k1 = 2 ∨ k1 = 3 ∨ k1 = 4 ∨ k1 = 5 ∨ k1 = 6 ∨ k1 = 7 ∨ k1 = 8 := by
  by_cases h2 : k1 = 2; · simp [h2]
  by_cases h3 : k1 = 3; · simp [h3]
  by_cases h4 : k1 = 4; · simp [h4]
  by_cases h5 : k1 = 5; · simp [h5]
  by_cases h7 : k1 = 7; · simp [h7]
  by_cases h8 : k1 = 8; · simp [h8]
  unfold kindB at h
  rw [beq_false_of_ne h2, beq_false_of_ne h3, beq_false_of_ne h4, beq_false_of_ne h5, beq_false_of_ne h7, beq_false_of_ne h8] at h
  simp only [cond_false, Bool.or_eq_true, beq_iff_eq] at h
  omega
theorem kindB_of {k1 n1 : Int} {b1 : Bool} {s1 : ByteArray} {ks1 l1 : List Dat} (h : flatB k1 n1 b1 s1 ks1 l1 = true) : kindB k1 n1 s1 ks1 l1 = true := by
  unfold flatB at h
  rw [Bool.and_eq_true] at h
  exact h.2
theorem named_size {s : ByteArray} (h : namedB s = true) : s.size ≤ 127 := by
  unfold namedB at h
  rw [Bool.and_eq_true, Bool.and_eq_true, decide_eq_true_eq, decide_eq_true_eq] at h
  exact h.2.1
theorem keysR_named : ∀ (pre ks : List Dat), keysR pre ks = true → ∀ d ∈ ks, (d.at 0).toS.size ≤ 127
  | pre, [], h, d, hd => by cases hd
  | pre, e :: r, h, d, hd => by
    unfold keysR at h
    rw [Bool.and_eq_true, Bool.and_eq_true] at h
    rcases List.mem_cons.1 hd with rfl | hd
    · exact named_size h.1
    · exact keysR_named _ r h.2.2 d hd
theorem kb7 {n1 : Int} {s1 : ByteArray} {ks1 l1 : List Dat} (h : kindB 7 n1 s1 ks1 l1 = true) : ks1.length = l1.length ∧ ∀ d ∈ ks1, (d.at 0).toS.size ≤ 127 := by
  have h' : (bif ((ks1.length : Int) != l1.length) then false else keysR [] ks1) = true := h
  cases hc : ((ks1.length : Int) != l1.length)
  · rw [hc, cond_false] at h'
    have hc' : (ks1.length : Int) = (l1.length : Int) := by simpa using hc
    exact ⟨by omega, keysR_named _ _ h'⟩
  · rw [hc] at h'; cases h'
theorem wsK_eq {l : List Dat} {s : ByteArray} (k : List Dat → Option Out) (h : l.length + s.size ≤ 1000000000000) : wsK l s k = k (l ++ bytesTo s) := by
  unfold wsK
  rw [fits_le (by omega)]; rfl
theorem wbK_eq {l : List Dat} {c : Int} (k : List Dat → Option Out) (h : l.length + 1 ≤ 1000000000000) : wbK l c k = k (l ++ [Dat.int c]) := by
  unfold wbK
  rw [fits_le (by omega)]; rfl
theorem itOk_in {n : Int} (h : inB n = true) : itOk n = true := by
  have := inB_of h
  unfold itOk
  rw [decide_eq_true (by omega), decide_eq_true (by omega)]; rfl
theorem nmOk_of {s : ByteArray} {n : Nat} (h1 : s.size ≤ 100000000000) (h2 : n ≤ 500000000000) : nmOk s n = true := by
  unfold nmOk
  rw [Nat.ble_eq_true_of_le h1, Nat.ble_eq_true_of_le h2]; rfl
def asFar (x y : List Dat) : Prop := x.length ≤ y.length ∧ (y.length ≤ 1048576 → x = y) ∧ (1048576 < y.length → 1048576 < x.length)
theorem asFar.refl (x : List Dat) : asFar x x := ⟨Nat.le_refl _, fun _ => rfl, fun h => h⟩
theorem asFar.app {x y : List Dat} (h : asFar x y) (a : List Dat) : asFar (x ++ a) (y ++ a) := by
  obtain ⟨h1, h2, h3⟩ := h
  refine ⟨by simp; omega, fun h => ?_, fun h => ?_⟩
  · rw [List.length_append] at h
    rw [h2 (by omega)]
  · rw [List.length_append] at h ⊢
    by_cases hy : y.length ≤ 1048576
    · rw [h2 hy]; omega
    · have := h3 (by omega); omega
theorem arrW_far {f : Dat → List Dat → List Dat} {t : Dat → List Dat} (hf : ∀ d x y, asFar x y → asFar (f d x) (y ++ t d)) : ∀ (l : List Dat) (first : Bool) (x y : List Dat), asFar x y → asFar (arrW f first l x) (y ++ sepT t first l)
  | [], first, x, y, h => by unfold arrW sepT; rw [List.append_nil]; exact h
  | d :: r, first, x, y, h => by
    unfold arrW sepT
    have h1 : asFar (bif first then x else x ++ [Dat.int 32]) (y ++ bif first then [] else [Dat.int 32]) := by
      cases first
      · exact h.app _
      · rw [cond_true, cond_true, List.append_nil]; exact h
    have := arrW_far hf r false _ _ (hf d _ _ h1)
    rw [List.append_assoc, ← List.append_assoc] at this
    rw [List.append_assoc] at this ⊢
    simpa [List.append_assoc] using this
theorem dicW_far {f : Dat → List Dat → List Dat} {t : Dat → List Dat} (hf : ∀ d x y, asFar x y → asFar (f d x) (y ++ t d)) : ∀ (ks l : List Dat) (first : Bool) (x y : List Dat), asFar x y → asFar (dicW f first ks l x) (y ++ dicT t first ks l)
  | [], l, first, x, y, h => by unfold dicW dicT; rw [List.append_nil]; exact h
  | key :: ks, [], first, x, y, h => by unfold dicW dicT; rw [List.append_nil]; exact h
  | key :: ks, d :: r, first, x, y, h => by
    unfold dicW dicT
    have h1 : asFar (bif first then x else x ++ [Dat.int 32]) (y ++ bif first then [] else [Dat.int 32]) := by
      cases first
      · exact h.app _
      · rw [cond_true, cond_true, List.append_nil]; exact h
    have := dicW_far hf ks r false _ _ (hf d _ _ ((h1.app (nameT (key.at 0).toS)).app [Dat.int 32]))
    simpa [List.append_assoc] using this
theorem wrO_far : ∀ (k : Nat) (d : Dat) (x y : List Dat), asFar x y → asFar (wrO k d x) (y ++ txtO k d)
  | 0, d, x, y, h => by unfold wrO txtO; rw [List.append_nil]; exact h
  | k + 1, d, x, y, h => by
    unfold wrO txtO
    by_cases hx : 1048576 < x.length
    · rw [decide_eq_true (show (x.length : Int) > 1048576 by omega), cond_true]
      have := h.1
      refine ⟨by simp; omega, fun h' => ?_, fun _ => hx⟩
      rw [List.length_append] at h'
      omega
    · rw [decide_eq_false (show ¬ (x.length : Int) > 1048576 by omega), cond_false]
      unfold wrK txtK
      cases (d.at 0).toI == 0
      · cases (d.at 0).toI == 1
        · cases (d.at 0).toI == 2
          · cases (d.at 0).toI == 3
            · cases (d.at 0).toI == 4
              · cases (d.at 0).toI == 5
                · cases (d.at 0).toI == 6
                  · cases (d.at 0).toI == 7
                    · cases (d.at 0).toI == 8
                      · simp only [cond_false, List.append_nil]; exact h
                      · simp only [cond_false, cond_true]; exact h.app _
                    · simp only [cond_false, cond_true]
                      have := (dicW_far (wrO_far k) (d.at 4).toL (d.at 5).toL true _ _ (h.app (bytesTo ⟨#[60, 60]⟩))).app (bytesTo ⟨#[62, 62]⟩)
                      rw [List.append_assoc y, List.append_assoc y] at this
                      exact this
                  · simp only [cond_false, cond_true]
                    have := (arrW_far (wrO_far k) (d.at 5).toL true _ _ (h.app [Dat.int 91])).app [Dat.int 93]
                    rw [List.append_assoc y, List.append_assoc y] at this
                    exact this
                · simp only [cond_false, cond_true]; exact h.app _
              · simp only [cond_false, cond_true]; exact h.app _
            · simp only [cond_false, cond_true]; exact h.app _
          · simp only [cond_false, cond_true]; exact h.app _
        · simp only [cond_false, cond_true]; exact h.app _
      · simp only [cond_true]; exact h.app _
theorem wrO_len (k : Nat) (d : Dat) (x : List Dat) : (wrO k d x).length ≤ x.length + (txtO k d).length := by
  have := (wrO_far k d x x (asFar.refl x)).1
  rwa [List.length_append] at this
theorem gt0 (i : Nat) : decide ((i : Int) > 0) = !(i == 0) := by
  cases i with
  | zero => rfl
  | succ i => rw [decide_eq_true (by omega)]; rfl
theorem write_loop1 {k m : Nat} {l1 : List Dat} (hl : l1.length ≤ 1000000) (hk : ∀ d ∈ l1, fitW k d) :
    ∀ (q i r : Nat) (l : List Dat), i + q = l1.length → q < r → l.length + (sepT (txtO k) (i == 0) (l1.drop i)).length ≤ 400000000000 → wrL1 (wrC k) m r l l1 (i : Int) = tR0 (arrW (wrO k) (i == 0) (l1.drop i) l ++ [Dat.int 93]) := by
  intro q
  induction q with
  | zero =>
    intro i r l hi hr hf
    cases r with
    | zero => omega
    | succ r =>
      rw [write_1, show decide ((i : Int) < l1.length) = false from decide_eq_false (by omega), cond_false, List.drop_eq_nil_of_le (by omega), wbK_eq _ (by omega)]
      rfl
  | succ q ih =>
    intro i r l hi hr hf
    cases r with
    | zero => omega
    | succ r =>
      have hlt : i < l1.length := by omega
      rw [List.drop_eq_getElem_cons hlt] at hf
      unfold sepT at hf
      rw [List.length_append, List.length_append] at hf
      rw [write_1, show decide ((i : Int) < l1.length) = true from decide_eq_true (by omega), cond_true, idx_at hlt, Option.bind_some, gt0, W_in (n := (i : Int) + 1) (by omega), List.drop_eq_getElem_cons hlt, wrO_nrm, ]
      unfold arrW
      have ih' := fun l => ih (i + 1) r l (by omega) (by omega)
      rw [show ((i + 1 == 0) = false) from rfl, nat_succ_cast] at ih'
      have hw := fun l => wrO_len k l1[i] l
      have hfit := hk _ (List.getElem_mem hlt)
      have step : ∀ l' : List Dat, l'.length ≤ l.length + (bif i == 0 then ([] : List Dat) else [Dat.int 32]).length → (bif decP (okWr k (nrm l1[i]) l') then wrL1 (wrC k) m r (wrO k l1[i] l') l1 ((i : Int) + 1) else none) = tR0 (arrW (wrO k) false (l1.drop (i + 1)) (wrO k l1[i] l') ++ [Dat.int 93]) := fun l' hl' => by
        have hok : okWr k (nrm l1[i]) l' := by
          refine ⟨?_, by rw [txtO_nrm]; omega⟩
          cases k with
          | zero => exact hfit
          | succ k => exact hfit
        rw [decP_eq hok, cond_true]
        refine ih' _ ?_
        have := hw l'
        omega
      cases hi0 : (i == 0)
      · rw [hi0] at step hf
        rw [Bool.not_false, cond_true, cond_false, wbK_eq _ (by omega)]
        simp only [wrO_nrm]
        exact step _ (by simp)
      · rw [hi0] at step
        rw [Bool.not_true, cond_false, cond_true]
        exact step _ (by simp)
theorem write_loop2 {k m : Nat} {k1 n1 : Int} {b1 : Bool} {s1 : ByteArray} {ks1 l1 : List Dat} (hl : l1.length ≤ 1000000) (hk : ∀ d ∈ l1, fitW k d) (hks : ks1.length = l1.length) (hkz : ∀ d ∈ ks1, (d.at 0).toS.size ≤ 127) :
    ∀ (q i r : Nat) (l : List Dat), i + q = l1.length → q < r → l.length + (dicT (txtO k) (i == 0) (ks1.drop i) (l1.drop i)).length ≤ 400000000000 → wrL2 (wrC k) m r l k1 n1 b1 s1 ks1 l1 (i : Int) = tR0 (dicW (wrO k) (i == 0) (ks1.drop i) (l1.drop i) l ++ bytesTo ⟨#[62, 62]⟩) := by
  intro q
  induction q with
  | zero =>
    intro i r l hi hr hf
    cases r with
    | zero => omega
    | succ r =>
      rw [write_2, show decide ((i : Int) < l1.length) = false from decide_eq_false (by omega), cond_false, show ks1.drop i = [] from List.drop_eq_nil_of_le (by omega), show l1.drop i = [] from List.drop_eq_nil_of_le (by omega), wsK_eq _ (by show _ + 2 ≤ _; omega)]
      rfl
  | succ q ih =>
    intro i r l hi hr hf
    cases r with
    | zero => omega
    | succ r =>
      have hlt : i < l1.length := by omega
      have hlk : i < ks1.length := by omega
      rw [List.drop_eq_getElem_cons hlt, List.drop_eq_getElem_cons hlk] at hf
      unfold dicT at hf
      rw [List.length_append, List.length_append, List.length_append, List.length_append, List.length_singleton] at hf
      rw [write_2, show decide ((i : Int) < l1.length) = true from decide_eq_true (by omega), cond_true, idx_at hlt, Option.bind_some, gt0, List.drop_eq_getElem_cons hlt, List.drop_eq_getElem_cons hlk]
      unfold dicW
      have ih' := fun l => ih (i + 1) r l (by omega) (by omega)
      rw [show ((i + 1 == 0) = false) from rfl, nat_succ_cast] at ih'
      have hw := fun l => wrO_len k l1[i] l
      have hfit := hk _ (List.getElem_mem hlt)
      have hkey := hkz _ (List.getElem_mem hlk)
      have step : ∀ l' : List Dat, l'.length ≤ l.length + (bif i == 0 then ([] : List Dat) else [Dat.int 32]).length → wr2K k m r k1 n1 b1 s1 ks1 l1 (i : Int) l' l1[i] = tR0 (dicW (wrO k) false (ks1.drop (i + 1)) (l1.drop (i + 1)) (wrO k l1[i] ((l' ++ nameT (ks1[i].at 0).toS) ++ [Dat.int 32])) ++ bytesTo ⟨#[62, 62]⟩) := fun l' hl' => by
        unfold wr2K
        have hok : okWr k (nrm l1[i]) ((l' ++ nameT (ks1[i].at 0).toS) ++ [Dat.int 32]) := by
          refine ⟨?_, by rw [txtO_nrm, List.length_append, List.length_append, List.length_singleton]; omega⟩
          cases k with
          | zero => exact hfit
          | succ k => exact hfit
        rw [idx_at hlk, Option.bind_some, nmOk_of (by omega) (by omega), cond_true, wbK_eq _ (by rw [List.length_append]; omega), decP_eq hok, cond_true, wrO_nrm, W_in (n := (i : Int) + 1) (by omega)]
        refine ih' _ ?_
        have := hw ((l' ++ nameT (ks1[i].at 0).toS) ++ [Dat.int 32])
        rw [List.length_append, List.length_append, List.length_singleton] at this
        omega
      cases hi0 : (i == 0)
      · rw [hi0] at step hf
        rw [Bool.not_false, cond_true, cond_false, wbK_eq _ (by omega)]
        exact step _ (by simp)
      · rw [hi0] at step
        rw [Bool.not_true, cond_false, cond_true]
        exact step _ (by simp)
theorem write_run {k m : Nat} {k1 n1 : Int} {b1 : Bool} {s1 : ByteArray} {ks1 l1 l : List Dat} (h : okWr (k + 1) (mkO k1 n1 b1 s1 ks1 l1) l) (hm : 1000000 < m) :
    evFn PR TK (wrC k) m 45 [.box 0 0, .agg (obA k1 n1 b1 s1 ks1 l1)] [some (bu l), none] = tR0 (wrO (k + 1) (mkO k1 n1 b1 s1 ks1 l1) l) := by
  obtain ⟨⟨f1, f2, f3⟩, h2⟩ := h
  have f1 : flatB k1 n1 b1 s1 ks1 l1 = true := f1
  have q2 : l1.length ≤ 1000000 := f2
  have q3 : ∀ d ∈ l1, fitW k d := f3
  have hkb := kindB_of f1
  have h2 : l.length + (txtK (txtO k) k1 n1 b1 s1 ks1 l1).length ≤ 400000000000 := h2
  rw [write_0]
  show _ = tR0 (bif decide ((l.length : Int) > 1048576) then l else wrK (wrO k) k1 n1 b1 s1 ks1 l1 l)
  cases decide ((l.length : Int) > 1048576)
  · rw [cond_false, cond_false]
    rcases kinds9 hkb with rfl | rfl | rfl | rfl | rfl | rfl | rfl | rfl | rfl
    · have h2 : l.length + (bytesTo nullT).length ≤ 400000000000 := h2
      rw [bytesTo_len] at h2
      exact wsK_eq _ (by omega)
    · have h2 : l.length + (bytesTo (boolT b1)).length ≤ 400000000000 := h2
      rw [bytesTo_len] at h2
      exact wsK_eq _ (by omega)
    · have h2 : l.length + (bytesTo (itS n1)).length ≤ 400000000000 := h2
      rw [bytesTo_len] at h2
      have hk : inB n1 = true := hkb
      show (bif itOk n1 then wsK l (itS n1) tR0 else none) = _
      rw [itOk_in hk, cond_true]
      exact wsK_eq _ (by omega)
    · have h2 : l.length + (bytesTo (fixT n1)).length ≤ 400000000000 := h2
      rw [bytesTo_len] at h2
      have hk : (inB n1 && (n1.tmod 65536) != 0) = true := hkb
      rw [Bool.and_eq_true] at hk
      show (bif inB n1 then wsK l (fixT n1) tR0 else none) = _
      rw [hk.1, cond_true]
      exact wsK_eq _ (by omega)
    · have h2 : l.length + (nameT s1).length ≤ 400000000000 := h2
      have hk : namedB s1 = true := hkb
      have := named_size hk
      show (bif nmOk s1 l.length then tR0 (l ++ nameT s1) else none) = _
      rw [nmOk_of (by omega) (by omega)]; rfl
    · have h2 : l.length + (txtT s1).length ≤ 400000000000 := h2
      have hk : decide ((s1.size : Int) ≤ 65536) = true := hkb
      have := of_decide_eq_true hk
      show (bif nmOk s1 l.length then tR0 (l ++ txtT s1) else none) = _
      rw [nmOk_of (by omega) (by omega)]; rfl
    · have h2 : l.length + ((Dat.int 91 :: sepT (txtO k) true l1) ++ [Dat.int 93]).length ≤ 400000000000 := h2
      rw [List.length_append, List.length_cons, List.length_singleton] at h2
      show wbK l 91 (fun l' => wrL1 (wrC k) m m l' l1 0) = _
      have e := write_loop1 (k := k) (m := m) q2 q3 l1.length 0 m (l ++ [Dat.int 91]) (by omega) (by omega) (by rw [List.drop_zero, List.length_append, List.length_singleton]; show _ + (sepT (txtO k) true l1).length ≤ _; omega)
      rw [List.drop_zero, show ((0 : Nat) : Int) = 0 from rfl] at e
      rw [wbK_eq _ (by omega), e]
      rfl
    · have h2 : l.length + (((bytesTo ⟨#[60, 60]⟩) ++ dicT (txtO k) true ks1 l1) ++ bytesTo ⟨#[62, 62]⟩).length ≤ 400000000000 := h2
      rw [List.length_append, List.length_append, bytesTo_len, bytesTo_len] at h2
      have h2 : l.length + (2 + (dicT (txtO k) true ks1 l1).length + 2) ≤ 400000000000 := h2
      obtain ⟨g1, g2⟩ := kb7 hkb
      show wsK l ⟨#[60, 60]⟩ (fun l' => wrL2 (wrC k) m m l' 7 n1 b1 s1 ks1 l1 0) = _
      have e := write_loop2 (k := k) (m := m) (k1 := 7) (n1 := n1) (b1 := b1) (s1 := s1) q2 q3 g1 g2 l1.length 0 m (l ++ bytesTo ⟨#[60, 60]⟩) (by omega) (by omega) (by rw [List.drop_zero, List.drop_zero, List.length_append, bytesTo_len]; show _ + 2 + (dicT (txtO k) true ks1 l1).length ≤ _; omega)
      rw [List.drop_zero, List.drop_zero, show ((0 : Nat) : Int) = 0 from rfl] at e
      rw [wsK_eq _ (by show _ + 2 ≤ _; omega), e]
      rfl
    · have h2 : l.length + (bytesTo (itS n1 ++ refT)).length ≤ 400000000000 := h2
      rw [bytesTo_len] at h2
      have hk : (decide (n1 ≥ 1) && decide (n1 ≤ 4096)) = true := hkb
      rw [Bool.and_eq_true, decide_eq_true_eq, decide_eq_true_eq] at hk
      show (bif itOk n1 then glueO (itS n1) refT (fun s => wsK l s tR0) else none) = _
      have hz : (itS n1).size + refT.size ≤ 400000000000 := by
        rw [ByteArray.size_append] at h2; omega
      rw [show itOk n1 = true by unfold itOk; rw [decide_eq_true (by omega), decide_eq_true (by omega)]; rfl, cond_true, glueO_eq _ (by omega)]
      exact wsK_eq _ (by omega)
  · rfl
theorem wrC0_sound : SoundCall PR wrC0 :=
  wb_sound (ws_sound (bl_sound (fb_sound (itoa_sound (dg_sound (name_sound (text_sound sound_none)))))))
theorem write_sound : ∀ k, SoundCall PR (wrC k) := by
  refine sound_rec (takes := TK) hmixP wrC0_sound _ (fn := (PR.funcs[45]?).getD default) (by kernel_rfl) (by kernel_rfl) writeE (fun xs bs out h => ?_) (fun k xs bs out h => ?_)
  · unfold writeE at h
    split at h
    · obtain ⟨_, h⟩ := bif_some h
      injection h with h
      injection h with h _
      exact (decP_of h).1
    · cases h
  · unfold writeE at h
    split at h
    · obtain ⟨hc, h⟩ := bif_some h
      injection h with h
      injection h with h1 h2
      obtain ⟨rfl, rfl, rfl⟩ := isBu_eq hc
      subst h2
      exact ⟨1000001, write_run (decP_of h1) (by omega)⟩
    · cases h
end Go.Proofs.YtckdgcpomkefpaaGreatDoor.En
end
section
set_option linter.unusedVariables false
set_option linter.unusedSimpArgs false
set_option maxRecDepth 100000
namespace Go.Proofs.YtckdgcpomkefpaaGreatDoor.En
open Go
def isBy (l : List Dat) : Prop := ∀ d ∈ l, ∃ b : UInt8, d = Dat.int b.toNat
theorem isBy.app {a b : List Dat} (ha : isBy a) (hb : isBy b) : isBy (a ++ b) := fun d hd => by
  rcases List.mem_append.1 hd with h | h
  · exact ha d h
  · exact hb d h
theorem isBy.nil : isBy [] := fun d hd => by cases hd
theorem isBy.cons {d : Dat} {l : List Dat} (b : UInt8) (h : d = Dat.int b.toNat) (hl : isBy l) : isBy (d :: l) := fun e he => by
  rcases List.mem_cons.1 he with rfl | he
  · exact ⟨b, h⟩
  · exact hl e he
theorem isBy_to (s : ByteArray) : isBy (bytesTo s) := fun d hd => by
  unfold bytesTo at hd
  obtain ⟨b, _, rfl⟩ := List.mem_map.1 hd
  exact ⟨b, rfl⟩
theorem isBy_flat {f : UInt8 → List Dat} (hf : ∀ b, isBy (f b)) : ∀ l : List UInt8, isBy (l.flatMap f)
  | [] => isBy.nil
  | b :: l => by
    rw [List.flatMap_cons]
    exact (hf b).app (isBy_flat hf l)
theorem isBy_esc (b : UInt8) : isBy (esc b) := by
  unfold esc
  cases plainB b.toNat
  · exact isBy.cons 35 rfl (isBy.cons _ rfl (isBy.cons _ rfl isBy.nil))
  · exact isBy.cons b rfl isBy.nil
theorem isBy_hex2 (b : UInt8) : isBy (hex2 b) := isBy.cons _ rfl (isBy.cons _ rfl isBy.nil)
theorem isBy_escP (b : UInt8) : isBy (escP b) := by
  unfold escP
  cases (((b.toNat : Int) == 40 || (b.toNat : Int) == 41) || (b.toNat : Int) == 92)
  · exact isBy.cons b rfl isBy.nil
  · exact isBy.cons 92 rfl (isBy.cons b rfl isBy.nil)
theorem isBy_name (s : ByteArray) : isBy (nameT s) := isBy.cons 47 rfl (isBy_flat isBy_esc _)
theorem isBy_txt (s : ByteArray) : isBy (txtT s) := by
  unfold txtT
  cases s.data.toList.all shB
  · exact (isBy.cons 60 rfl (isBy_flat isBy_hex2 _)).app (isBy.cons 62 rfl isBy.nil)
  · exact (isBy.cons 40 rfl (isBy_flat isBy_escP _)).app (isBy.cons 41 rfl isBy.nil)
theorem bytesOf_size (l : List Dat) : (bytesOf l).size = l.length := by
  unfold bytesOf
  simp [ByteArray.size]
theorem sepT_cons (f : Dat → List Dat) (first : Bool) (d : Dat) (r : List Dat) : sepT f first (d :: r) = ((bif first then [] else [Dat.int 32]) ++ f d) ++ sepT f false r := rfl
theorem dicT_cons (f : Dat → List Dat) (first : Bool) (key : Dat) (ks : List Dat) (d : Dat) (r : List Dat) : dicT f first (key :: ks) (d :: r) = ((((bif first then [] else [Dat.int 32]) ++ nameT (key.at 0).toS) ++ [Dat.int 32]) ++ f d) ++ dicT f false ks r := rfl
end Go.Proofs.YtckdgcpomkefpaaGreatDoor.En
end
section
set_option linter.unusedVariables false
set_option linter.unusedSimpArgs false
set_option maxRecDepth 100000
namespace Go.Proofs.YtckdgcpomkefpaaGreatDoor.En
open Go
theorem digF_len : ∀ (k u : Nat), (digF k u).length ≤ k
  | 0, u => by simp [digF]
  | k + 1, u => by
    unfold digF
    cases Nat.blt u 10
    · rw [cond_false, List.length_append, List.length_singleton]
      have := digF_len k (u / 10)
      omega
    · simp
theorem digF_pos (k u : Nat) : 0 < (digF (k + 1) u).length := by
  unfold digF
  cases Nat.blt u 10
  · rw [cond_false, List.length_append, List.length_singleton]; omega
  · simp
theorem itS_size (n : Int) : (itS n).size ≤ 21 ∧ 0 < (itS n).size := by
  have e : (itS n).size = (itoaF n).length := by unfold itS; simp [ByteArray.size]
  rw [e]
  unfold itoaF
  cases decide (n < 0)
  · have h1 : (digF 20 n.toNat).length ≤ 20 := digF_len 20 n.toNat
    have h2 : 0 < (digF 20 n.toNat).length := digF_pos 19 n.toNat
    rw [cond_false]
    exact ⟨by omega, h2⟩
  · rw [cond_true, List.length_cons]
    have := digF_len 20 n.natAbs
    omega
theorem fixT_size {x : Int} (h : inB x = true) : (fixT x).size ≤ 30 ∧ 0 < (fixT x).size := by
  obtain ⟨b1, b2⟩ := inB_of h
  unfold fixT
  rw [bs_size, List.length_append]
  unfold textBody
  rw [List.length_append, asU_length]
  have h1 := natDigits_length 7 (x.natAbs / 65536) (by omega)
  have h2 := natDigits_pos (x.natAbs / 65536)
  have h3 : (if x < 0 then ([45] : List UInt8) else []).length ≤ 1 := by split <;> simp
  have h4 : (if x.natAbs % 65536 = 0 then ([] : List UInt8) else 46 :: asU (fracD 16 (x.natAbs % 65536))).length ≤ 17 := by
    split
    · simp
    · rw [List.length_cons, asU_length]
      have := fracD_length 16 (x.natAbs % 65536)
      omega
  omega
theorem flat_len {f : UInt8 → List Dat} {c : Nat} (hf : ∀ b, (f b).length ≤ c) : ∀ l : List UInt8, (l.flatMap f).length ≤ c * l.length
  | [] => by simp
  | b :: l => by
    rw [List.flatMap_cons, List.length_append, List.length_cons]
    have h1 := hf b
    have h2 := flat_len hf l
    rw [Nat.mul_succ]; omega
theorem nameT_len (s : ByteArray) : (nameT s).length ≤ 3 * s.size + 1 ∧ 0 < (nameT s).length := by
  unfold nameT
  have := flat_len esc_len s.data.toList
  have hsz : s.data.toList.length = s.size := Array.length_toList
  rw [hsz] at this
  rw [List.length_cons]; omega
theorem txtT_len (s : ByteArray) : (txtT s).length ≤ 2 * s.size + 2 ∧ 0 < (txtT s).length := by
  have hsz : s.data.toList.length = s.size := Array.length_toList
  unfold txtT
  cases s.data.toList.all shB
  · have := flat_len (c := 2) (fun b => Nat.le_of_eq (hex2_len b)) s.data.toList
    rw [hsz] at this
    rw [cond_false]
    unfold hexT
    rw [List.length_append, List.length_cons, List.length_singleton]; omega
  · have := flat_len escP_len s.data.toList
    rw [hsz] at this
    rw [cond_true]
    unfold parT
    rw [List.length_append, List.length_cons, List.length_singleton]; omega
theorem isBy_sep {f : Dat → List Dat} (hf : ∀ d, isBy (f d)) : ∀ (l : List Dat) (first : Bool), isBy (sepT f first l)
  | [], first => isBy.nil
  | d :: r, first => by
    rw [sepT_cons]
    refine ((?_ : isBy _).app (hf d)).app (isBy_sep hf r false)
    cases first
    · exact isBy.cons 32 rfl isBy.nil
    · exact isBy.nil
theorem isBy_dic {f : Dat → List Dat} (hf : ∀ d, isBy (f d)) : ∀ (ks l : List Dat) (first : Bool), isBy (dicT f first ks l)
  | [], l, first => by unfold dicT; exact isBy.nil
  | key :: ks, [], first => by unfold dicT; exact isBy.nil
  | key :: ks, d :: r, first => by
    rw [dicT_cons]
    refine (((?_ : isBy _).app (isBy_name _)).app (isBy.cons 32 rfl isBy.nil)).app (hf d) |>.app (isBy_dic hf ks r false)
    cases first
    · exact isBy.cons 32 rfl isBy.nil
    · exact isBy.nil
theorem isBy_txtO : ∀ (k : Nat) (d : Dat), isBy (txtO k d)
  | 0, d => isBy.nil
  | k + 1, d => by
    unfold txtO txtK
    cases (d.at 0).toI == 0
    · cases (d.at 0).toI == 1
      · cases (d.at 0).toI == 2
        · cases (d.at 0).toI == 3
          · cases (d.at 0).toI == 4
            · cases (d.at 0).toI == 5
              · cases (d.at 0).toI == 6
                · cases (d.at 0).toI == 7
                  · cases (d.at 0).toI == 8
                    · exact isBy.nil
                    · exact isBy_to _
                  · exact ((isBy_to _).app (isBy_dic (isBy_txtO k) _ _ _)).app (isBy_to _)
                · exact (isBy.cons 91 rfl (isBy_sep (isBy_txtO k) _ _)).app (isBy.cons 93 rfl isBy.nil)
              · exact isBy_txt _
            · exact isBy_name _
          · exact isBy_to _
        · exact isBy_to _
      · exact isBy_to _
    · exact isBy_to _
theorem itemsG_mono {g : Dat → Int → Int} (hg : ∀ d n, 0 ≤ n → 0 ≤ g d n → n + 1 ≤ g d n) : ∀ (l : List Dat) (n : Int), 0 ≤ n → 0 ≤ itemsG g l n → n + l.length ≤ itemsG g l n
  | [], n, h0, h => by unfold itemsG; simp
  | d :: l, n, h0, h => by
    unfold itemsG at h ⊢
    by_cases hd : g d n < 0
    · rw [decide_eq_true hd] at h; simp at h
    · rw [decide_eq_false hd, cond_false] at h ⊢
      have h1 := hg d n h0 (by omega)
      have := itemsG_mono hg l (g d n) (by omega) h
      rw [List.length_cons]; omega
theorem goodO_mono : ∀ (k : Nat) (d : Dat) (nest ahead : Int), 0 ≤ ahead → 0 ≤ goodO k d nest ahead → ahead + 1 ≤ goodO k d nest ahead
  | 0, d, nest, ahead, _, h => by simp [goodO] at h
  | k + 1, d, nest, ahead, h0, h => by
    unfold goodO at h ⊢
    cases hc : decide (ahead + 1 > 65536) || !flatD d
    · rw [hc, cond_false] at h
      rw [cond_false]
      cases hk : (d.at 0).toI == 6 || (d.at 0).toI == 7
      · rw [hk, cond_false] at h
        rw [cond_false]
        have := itemsG_mono (g := fun e n => goodO k e nest n) (fun e n hn he => goodO_mono k e nest n hn he) _ _ (by omega) h
        omega
      · rw [hk, cond_true] at h
        rw [cond_true]
        cases hn : decide (nest + 1 > 32)
        · rw [hn, cond_false] at h
          rw [cond_false]
          have := itemsG_mono (g := fun e n => goodO k e (nest + 1) n) (fun e n hn he => goodO_mono k e (nest + 1) n hn he) _ _ (by omega) h
          omega
        · rw [hn] at h; simp at h
    · rw [hc] at h; simp at h
theorem itemsG_all {g : Dat → Int → Int} (hg : ∀ d n, 0 ≤ n → 0 ≤ g d n → n + 1 ≤ g d n) : ∀ (l : List Dat) (n : Int), 0 ≤ n → 0 ≤ itemsG g l n → ∀ d ∈ l, ∃ n', 0 ≤ n' ∧ 0 ≤ g d n'
  | [], n, h0, h, d, hd => by cases hd
  | e :: l, n, h0, h, d, hd => by
    unfold itemsG at h
    by_cases he : g e n < 0
    · rw [decide_eq_true he] at h; simp at h
    · rw [decide_eq_false he, cond_false] at h
      rcases List.mem_cons.1 hd with rfl | hd
      · exact ⟨n, h0, by omega⟩
      · have := hg e n h0 (by omega)
        exact itemsG_all hg l _ (by omega) h d hd
theorem goodO_fitW : ∀ (k : Nat) (d : Dat) (nest ahead : Int), 0 ≤ ahead → 0 ≤ goodO k d nest ahead → fitW k d
  | 0, d, nest, ahead, _, h => by simp [goodO] at h
  | k + 1, d, nest, ahead, h0, h => by
    have hb := (goodO_bd (k + 1) d nest ahead h0).2
    unfold goodO at h hb
    cases hc : decide (ahead + 1 > 65536) || !flatD d
    · rw [hc, cond_false] at h hb
      rw [Bool.or_eq_false_iff, Bool.not_eq_false'] at hc
      cases hk : (d.at 0).toI == 6 || (d.at 0).toI == 7
      · rw [hk, cond_false] at h hb
        have h1 := itemsG_mono (g := fun e n => goodO k e nest n) (fun e n hn he => goodO_mono k e nest n hn he) _ _ (by omega) h
        refine ⟨hc.2, by omega, fun e he => ?_⟩
        obtain ⟨n', a1, a2⟩ := itemsG_all (g := fun e n => goodO k e nest n) (fun e n hn he => goodO_mono k e nest n hn he) _ _ (by omega) h e he
        exact goodO_fitW k e nest n' a1 a2
      · rw [hk, cond_true] at h hb
        cases hn : decide (nest + 1 > 32)
        · rw [hn, cond_false] at h hb
          have h1 := itemsG_mono (g := fun e n => goodO k e (nest + 1) n) (fun e n hn he => goodO_mono k e (nest + 1) n hn he) _ _ (by omega) h
          refine ⟨hc.2, by omega, fun e he => ?_⟩
          obtain ⟨n', a1, a2⟩ := itemsG_all (g := fun e n => goodO k e (nest + 1) n) (fun e n hn he => goodO_mono k e (nest + 1) n hn he) _ _ (by omega) h e he
          exact goodO_fitW k e (nest + 1) n' a1 a2
        · rw [hn] at h; simp at h
    · rw [hc] at h; simp at h
theorem sepT_len {f : Dat → List Dat} {g : Dat → Int → Int} (hg : ∀ d n, 0 ≤ n → 0 ≤ g d n → n + 1 ≤ g d n) (hf : ∀ d n, 0 ≤ n → 0 ≤ g d n → ((f d).length : Int) + 1000 ≤ (g d n - n) * 200000) :
    ∀ (l : List Dat) (first : Bool) (n : Int), 0 ≤ n → 0 ≤ itemsG g l n → ((sepT f first l).length : Int) ≤ (itemsG g l n - n) * 200000
  | [], first, n, h0, h => by unfold sepT itemsG; simp
  | d :: l, first, n, h0, h => by
    rw [sepT_cons, List.length_append, List.length_append]
    unfold itemsG at h ⊢
    by_cases he : g d n < 0
    · rw [decide_eq_true he] at h; simp at h
    · rw [decide_eq_false he, cond_false] at h ⊢
      have h1 := hg d n h0 (by omega)
      have h2 := hf d n h0 (by omega)
      have h3 := sepT_len hg hf l false (g d n) (by omega) h
      have h4 : (bif first then ([] : List Dat) else [Dat.int 32]).length ≤ 1 := by cases first <;> simp
      omega
theorem dicT_len {f : Dat → List Dat} {g : Dat → Int → Int} (hg : ∀ d n, 0 ≤ n → 0 ≤ g d n → n + 1 ≤ g d n) (hf : ∀ d n, 0 ≤ n → 0 ≤ g d n → ((f d).length : Int) + 1000 ≤ (g d n - n) * 200000) :
    ∀ (ks l : List Dat) (first : Bool) (n : Int), (∀ d ∈ ks, (d.at 0).toS.size ≤ 127) → 0 ≤ n → 0 ≤ itemsG g l n → ((dicT f first ks l).length : Int) ≤ (itemsG g l n - n) * 200000
  | [], l, first, n, hk, h0, h => by
    have := itemsG_mono hg l n h0 h
    unfold dicT
    simp only [List.length_nil]
    omega
  | key :: ks, [], first, n, hk, h0, h => by unfold dicT itemsG; simp
  | key :: ks, d :: l, first, n, hk, h0, h => by
    rw [dicT_cons, List.length_append, List.length_append, List.length_append, List.length_append, List.length_singleton]
    unfold itemsG at h ⊢
    by_cases he : g d n < 0
    · rw [decide_eq_true he] at h; simp at h
    · rw [decide_eq_false he, cond_false] at h ⊢
      have h1 := hg d n h0 (by omega)
      have h2 := hf d n h0 (by omega)
      have h3 := dicT_len hg hf ks l false (g d n) (fun e he => hk e (by simp [he])) (by omega) h
      have h4 : (bif first then ([] : List Dat) else [Dat.int 32]).length ≤ 1 := by cases first <;> simp
      have h5 := (nameT_len (key.at 0).toS).1
      have h6 := hk key (by simp)
      omega
theorem txtO_len : ∀ (k : Nat) (d : Dat) (nest ahead : Int), 0 ≤ ahead → 0 ≤ goodO k d nest ahead → ((txtO k d).length : Int) + 1000 ≤ (goodO k d nest ahead - ahead) * 200000 ∧ 0 < (txtO k d).length
  | 0, d, nest, ahead, _, h => by simp [goodO] at h
  | k + 1, d, nest, ahead, h0, h => by
    have hm2 : (1 : Int) ≤ goodO (k + 1) d nest ahead - ahead := by have := goodO_mono (k + 1) d nest ahead h0 h; omega
    have small : ∀ t : List Dat, t.length ≤ 140000 → 0 < t.length → (t.length : Int) + 1000 ≤ (goodO (k + 1) d nest ahead - ahead) * 200000 ∧ 0 < t.length := fun t ht hp => ⟨by omega, hp⟩
    have h1 : ∀ c : Bool, (0 ≤ bif c then (-1 : Int) else goodO (k + 1) d nest ahead) → c = false := fun c hc => by cases c; rfl; simp at hc
    cases hc : decide (ahead + 1 > 65536) || !flatD d
    · have eg : goodO (k + 1) d nest ahead = bif (d.at 0).toI == 6 || (d.at 0).toI == 7 then (bif decide (nest + 1 > 32) then -1 else itemsG (fun e n => goodO k e (nest + 1) n) (d.at 5).toL (ahead + 1)) else itemsG (fun e n => goodO k e nest n) (d.at 5).toL (ahead + 1) := by
        show (bif decide (ahead + 1 > 65536) || !flatD d then -1 else _) = _
        rw [hc]; rfl
      rw [Bool.or_eq_false_iff, Bool.not_eq_false'] at hc
      have hkb := kindB_of (show flatB (d.at 0).toI (d.at 2).toI (d.at 1).toB (d.at 3).toS (d.at 4).toL (d.at 5).toL = true from hc.2)
      rw [eg] at small h ⊢
      clear hm2 h1 eg hc
      show ((txtK (txtO k) (d.at 0).toI (d.at 2).toI (d.at 1).toB (d.at 3).toS (d.at 4).toL (d.at 5).toL).length : Int) + 1000 ≤ _ ∧ 0 < (txtK (txtO k) (d.at 0).toI (d.at 2).toI (d.at 1).toB (d.at 3).toS (d.at 4).toL (d.at 5).toL).length
      revert small h
      revert hkb
      generalize (d.at 0).toI = k1
      generalize (d.at 2).toI = n1
      generalize (d.at 1).toB = b1
      generalize (d.at 3).toS = s1
      generalize (d.at 4).toL = ks1
      generalize (d.at 5).toL = l1
      intro hkb
      rcases kinds9 hkb with rfl | rfl | rfl | rfl | rfl | rfl | rfl | rfl | rfl
      · intro _ small
        exact small (bytesTo nullT) (by rw [bytesTo_len]; decide) (by rw [bytesTo_len]; decide)
      · intro _ small
        exact small (bytesTo (boolT b1)) (by rw [bytesTo_len]; cases b1 <;> decide) (by rw [bytesTo_len]; cases b1 <;> decide)
      · intro _ small
        have := itS_size n1
        exact small (bytesTo (itS n1)) (by rw [bytesTo_len]; omega) (by rw [bytesTo_len]; omega)
      · intro _ small
        have hk : (inB n1 && (n1.tmod 65536) != 0) = true := hkb
        rw [Bool.and_eq_true] at hk
        have := fixT_size hk.1
        exact small (bytesTo (fixT n1)) (by rw [bytesTo_len]; omega) (by rw [bytesTo_len]; omega)
      · intro _ small
        have hk : namedB s1 = true := hkb
        have h1 := named_size hk
        have := nameT_len s1
        exact small (nameT s1) (by omega) (by omega)
      · intro _ small
        have hk : decide ((s1.size : Int) ≤ 65536) = true := hkb
        have h1 := of_decide_eq_true hk
        have := txtT_len s1
        exact small (txtT s1) (by omega) (by omega)
      · intro h' _
        have h' : 0 ≤ (bif decide (nest + 1 > 32) then -1 else itemsG (fun e n => goodO k e (nest + 1) n) l1 (ahead + 1)) := h'
        show (((Dat.int 91 :: sepT (txtO k) true l1) ++ [Dat.int 93]).length : Int) + 1000 ≤ ((bif decide (nest + 1 > 32) then -1 else itemsG (fun e n => goodO k e (nest + 1) n) l1 (ahead + 1)) - ahead) * 200000 ∧ 0 < ((Dat.int 91 :: sepT (txtO k) true l1) ++ [Dat.int 93]).length
        cases hn : decide (nest + 1 > 32)
        · rw [hn, cond_false] at h'
          rw [cond_false, List.length_append, List.length_cons, List.length_singleton]
          have := sepT_len (f := txtO k) (g := fun e n => goodO k e (nest + 1) n) (fun e n hn he => goodO_mono k e (nest + 1) n hn he) (fun e n hn he => (txtO_len k e (nest + 1) n hn he).1) l1 true (ahead + 1) (by omega) h'
          omega
        · rw [hn] at h'; simp at h'
      · intro h' _
        have h' : 0 ≤ (bif decide (nest + 1 > 32) then -1 else itemsG (fun e n => goodO k e (nest + 1) n) l1 (ahead + 1)) := h'
        show (((bytesTo ⟨#[60, 60]⟩ ++ dicT (txtO k) true ks1 l1) ++ bytesTo ⟨#[62, 62]⟩).length : Int) + 1000 ≤ ((bif decide (nest + 1 > 32) then -1 else itemsG (fun e n => goodO k e (nest + 1) n) l1 (ahead + 1)) - ahead) * 200000 ∧ 0 < ((bytesTo ⟨#[60, 60]⟩ ++ dicT (txtO k) true ks1 l1) ++ bytesTo ⟨#[62, 62]⟩).length
        cases hn : decide (nest + 1 > 32)
        · rw [hn, cond_false] at h'
          rw [cond_false, List.length_append, List.length_append, bytesTo_len, bytesTo_len]
          have := dicT_len (f := txtO k) (g := fun e n => goodO k e (nest + 1) n) (fun e n hn he => goodO_mono k e (nest + 1) n hn he) (fun e n hn he => (txtO_len k e (nest + 1) n hn he).1) ks1 l1 true (ahead + 1) (kb7 hkb).2 (by omega) h'
          have e2 : (⟨#[60, 60]⟩ : ByteArray).size = 2 := rfl
          have e3 : (⟨#[62, 62]⟩ : ByteArray).size = 2 := rfl
          omega
        · rw [hn] at h'; simp at h'
      · intro _ small
        have := itS_size n1
        have e : (bytesTo (itS n1 ++ refT)).length = (itS n1).size + 4 := by rw [bytesTo_len, ByteArray.size_append]; rfl
        exact small (bytesTo (itS n1 ++ refT)) (by omega) (by omega)
    · have : goodO (k + 1) d nest ahead = -1 := by
        show (bif decide (ahead + 1 > 65536) || !flatD d then -1 else _) = _
        rw [hc]; rfl
      omega
theorem okWr_good {d : Dat} (h : goodO 101 d 0 0 > 0) : okWr 101 d [] := by
  refine ⟨goodO_fitW 101 d 0 0 (by omega) (by omega), ?_⟩
  have h1 := (txtO_len 101 d 0 0 (by omega) (by omega)).1
  have h2 := (goodO_bd 101 d 0 0 (by omega)).2
  simp only [List.length_nil]
  omega
end Go.Proofs.YtckdgcpomkefpaaGreatDoor.En
end
section
set_option linter.unusedVariables false
set_option linter.unusedSimpArgs false
set_option maxRecDepth 100000
namespace Go.Proofs.YtckdgcpomkefpaaGreatDoor.En
open Go
def ub (l : List Dat) : List UInt8 := l.map fun d => UInt8.ofNat (d.at 0).toI.toNat
theorem ub_app (a b : List Dat) : ub (a ++ b) = ub a ++ ub b := List.map_append
theorem ub_cons (d : Dat) (l : List Dat) : ub (d :: l) = UInt8.ofNat (d.at 0).toI.toNat :: ub l := rfl
theorem ub_len (l : List Dat) : (ub l).length = l.length := List.length_map _
theorem ub_to (s : ByteArray) : ub (bytesTo s) = s.data.toList := by
  unfold ub bytesTo
  rw [List.map_map]
  refine (List.map_congr_left fun c _ => ?_).trans (List.map_id _)
  exact UInt8.ofNat_toNat
theorem of_ub (l : List Dat) : bytesOf l = bs (ub l) := rfl
def txtU (k : Nat) (d : Dat) : List UInt8 := ub (txtO k d)
theorem isT_bs (l : List UInt8) (t : ByteArray) : isT (bs l) t = decide (l = t.data.toList) := by
  unfold isT
  rw [bs_toList, Lib.toList_data, Bool.eq_iff_iff, beq_iff_eq, decide_eq_true_iff]
def numC (c : UInt8) : Bool := c == 45 || (c == 46 || (Nat.ble 48 c.toNat && Nat.ble c.toNat 57))
theorem num_dig {c : UInt8} (h : digC c) : numC c = true := by
  unfold numC
  rw [Nat.ble_eq_true_of_le h.1, Nat.ble_eq_true_of_le h.2]
  simp
theorem num_wd {c : UInt8} (h : numC c = true) : wdU c = true := by
  have := byte_tab (fun c => !numC c || wdU c) (by decide +kernel) c
  rw [h] at this
  simpa using this
theorem itoa_num (n : Int) : (∀ c ∈ Lib.itoa n, numC c = true) ∧ Lib.itoa n ≠ [] := by
  rcases Int.lt_or_le n 0 with h | h
  · obtain ⟨u, rfl⟩ : ∃ u : Nat, n = -(u : Int) := ⟨n.natAbs, by omega⟩
    rw [Lib.itoa_neg u (by omega)]
    refine ⟨fun c hc => ?_, by simp⟩
    rcases List.mem_cons.1 hc with rfl | hc
    · rfl
    · exact num_dig ((dec_all u).1 c hc)
  · obtain ⟨u, rfl⟩ : ∃ u : Nat, n = (u : Int) := ⟨n.natAbs, by omega⟩
    rw [Lib.itoa_nonneg]
    exact ⟨fun c hc => num_dig ((dec_all u).1 c hc), (dec_all u).2.2.1⟩
theorem body_num (u : Nat) : (∀ c ∈ textBody u, numC c = true) ∧ textBody u ≠ [] := by
  have hq := asU_dig (natDigits_digits (u / 65536))
  have hf := asU_dig (fracD_digits 16 _ (Nat.mod_lt u (by omega : 65536 > 0)))
  unfold textBody
  refine ⟨fun c hc => ?_, fun h => ?_⟩
  · rcases List.mem_append.1 hc with h | h
    · exact num_dig (hq c h)
    · by_cases h0 : u % 65536 = 0
      · rw [if_pos h0] at h; cases h
      · rw [if_neg h0] at h
        rcases List.mem_cons.1 h with rfl | h
        · rfl
        · exact num_dig (hf c h)
  · have h1 := (List.append_eq_nil_iff.1 h).1
    have h2 := natDigits_pos (u / 65536)
    have h3 := asU_length (natDigits (u / 65536))
    rw [h1, List.length_nil] at h3
    omega
theorem fix_num (x : Int) : (∀ c ∈ (fixT x).data.toList, numC c = true) ∧ (fixT x).data.toList ≠ [] := by
  obtain ⟨h1, h2⟩ := body_num x.natAbs
  unfold fixT
  show (∀ c ∈ (if x < 0 then ([45] : List UInt8) else []) ++ textBody x.natAbs, numC c = true) ∧ (if x < 0 then ([45] : List UInt8) else []) ++ textBody x.natAbs ≠ []
  refine ⟨fun c hc => ?_, fun h => h2 (List.append_eq_nil_iff.1 h).2⟩
  rcases List.mem_append.1 hc with h | h
  · by_cases h0 : x < 0
    · rw [if_pos h0, List.mem_singleton] at h
      subst h
      rfl
    · rw [if_neg h0] at h; cases h
  · exact h1 c h
theorem num_none {w : List UInt8} (h : ∀ c ∈ w, numC c = true) : isT (bs w) nulT = false ∧ isT (bs w) trueT = false ∧ isT (bs w) falseT = false := by
  rw [isT_bs, isT_bs, isT_bs]
  refine ⟨decide_eq_false fun e => ?_, decide_eq_false fun e => ?_, decide_eq_false fun e => ?_⟩
  · have := h 110 (by rw [e]; simp [nulT]); cases this
  · have := h 116 (by rw [e]; simp [trueT]); cases this
  · have := h 102 (by rw [e]; simp [falseT]); cases this
theorem num_R {w : List UInt8} (h : ∀ c ∈ w, numC c = true) : w ≠ [82] := fun e => by
  have := h 82 (by rw [e]; simp)
  cases this
theorem atoi_itoa {n : Int} (h0 : -9223372036854775808 ≤ n) (h1 : n ≤ 9223372036854775807) : Lib.atoiAll (Lib.itoa n) = .ok n := by
  rcases Int.lt_or_le n 0 with h | h
  · obtain ⟨u, rfl⟩ : ∃ u : Nat, n = -(u : Int) := ⟨n.natAbs, by omega⟩
    obtain ⟨d1, d2, d3, d4⟩ := dec_all u
    rw [Lib.itoa_neg u (by omega), Lib.atoiAll_minus, mag_val d3 d1 (by rw [d2]; omega), d2]
    unfold Lib.signed
    simp only
    rw [if_neg (by omega)]
  · obtain ⟨u, rfl⟩ : ∃ u : Nat, n = (u : Int) := ⟨n.natAbs, by omega⟩
    obtain ⟨d1, d2, d3, d4⟩ := dec_all u
    have hm := mag_val d3 d1 (by rw [d2]; omega)
    rw [d2] at hm
    rw [Lib.itoa_nonneg]
    generalize Lib.decDigits u = l at d1 d3 hm
    cases l with
    | nil => exact (d3 rfl).elim
    | cons c r =>
      rw [plain_head (d1 c (by simp)), hm]
      unfold Lib.signless
      simp only
      rw [if_neg (by omega)]
theorem isI_of {n : Int} (h0 : -9223372036854775808 ≤ n) (h1 : n ≤ 9223372036854775807) : isI (bs (Lib.itoa n)) = true ∧ atV (bs (Lib.itoa n)) = n := by
  have e : Lib.atoiAll (bs (Lib.itoa n)).data.toList = .ok n := atoi_itoa h0 h1
  have e1 : atK (bs (Lib.itoa n)) = true := by unfold atK; rw [e]
  have e2 : atV (bs (Lib.itoa n)) = n := by unfold atV; rw [e]
  refine ⟨?_, e2⟩
  unfold isI
  rw [e1, e2, isT_itT h0 h1, Bool.true_and, decide_eq_true_iff]
  rfl
theorem itS_itoa {n : Int} (h0 : -9223372036854775808 ≤ n) (h1 : n ≤ 9223372036854775807) : itS n = bs (Lib.itoa n) := by
  unfold itS
  rw [itoaF_eq h0 h1]
  rfl
theorem dpF_fixT {x : Int} (h : inB x = true) : dpF (fixT x) = (true, x) := by
  obtain ⟨b0, b1⟩ := inB_bd h
  have e := (near_back x b0 b1).1
  unfold dpF nr1 nr2
  rw [e]
  simp
theorem isI_fixT {x : Int} (h0 : x.tmod 65536 ≠ 0) : isI (fixT x) = false := by
  cases hi : isI (fixT x)
  · rfl
  · exfalso
    have h1 := isI_itoa hi
    have hz : x.natAbs % 65536 ≠ 0 := fun e => h0 (by
      have e2 : (x.tmod 65536).natAbs = 0 := by rw [Int.natAbs_tmod]; exact e
      omega)
    have hp : (46 : UInt8) ∈ (fixT x).data.toList := by
      unfold fixT textBody
      rw [if_neg hz]
      simp [bs]
    rw [← h1] at hp
    exact no_point hp
theorem word_read {s : ByteArray} {a : Nat} {w r : List UInt8} (h : rest s a = w ++ r) (hw : ∀ c ∈ w, wdU c = true) (hr : endW r) :
    wdA s (a : Int) = ((a + w.length : Nat) : Int) ∧ sub' s (a : Int) (wdA s (a : Int)) = bs w := by
  have e : wdA s (a : Int) = ((a + w.length : Nat) : Int) := skA_rest wordB s w a r h hw hr
  exact ⟨e, by rw [e]; exact sub_rest h⟩
section
variable {s : ByteArray} {a : Nat} {r : List UInt8} (hr : safe r)
theorem null_wd : ∀ c ∈ nulT.data.toList, wdU c = true := by decide +kernel
theorem true_wd : ∀ c ∈ trueT.data.toList, wdU c = true := by decide +kernel
theorem false_wd : ∀ c ∈ falseT.data.toList, wdU c = true := by decide +kernel
include hr
theorem sd_null (h : rest s a = nulT.data.toList ++ r) (l : Int) : sdS dpF s (sub' s (a : Int) (wdA s (a : Int))) (wdA s (a : Int)) l = some (plO 0 0 false ⟨#[]⟩, ((a + 4 : Nat) : Int), l) := by
  obtain ⟨e1, e2⟩ := word_read h null_wd hr.1
  unfold sdS
  rw [e2, isT_bs, decide_eq_true rfl, cond_true, e1]
  rfl
theorem sd_true (h : rest s a = trueT.data.toList ++ r) (l : Int) : sdS dpF s (sub' s (a : Int) (wdA s (a : Int))) (wdA s (a : Int)) l = some (plO 1 0 true ⟨#[]⟩, ((a + 4 : Nat) : Int), l) := by
  obtain ⟨e1, e2⟩ := word_read h true_wd hr.1
  unfold sdS
  rw [e2, isT_bs, isT_bs, decide_eq_false (by decide), decide_eq_true rfl, cond_true, cond_false, e1]
  rfl
theorem sd_false (h : rest s a = falseT.data.toList ++ r) (l : Int) : sdS dpF s (sub' s (a : Int) (wdA s (a : Int))) (wdA s (a : Int)) l = some (plO 1 0 false ⟨#[]⟩, ((a + 5 : Nat) : Int), l) := by
  obtain ⟨e1, e2⟩ := word_read h false_wd hr.1
  unfold sdS
  rw [e2, isT_bs, isT_bs, isT_bs, decide_eq_false (by decide), decide_eq_false (by decide), decide_eq_true rfl, cond_true, cond_false, cond_false, e1]
  rfl
theorem sd_int {n : Int} (hn : inB n = true) (h : rest s a = Lib.itoa n ++ r) (l : Int) : sdS dpF s (sub' s (a : Int) (wdA s (a : Int))) (wdA s (a : Int)) l = some (plO 2 n false ⟨#[]⟩, ((a + (Lib.itoa n).length : Nat) : Int), l) := by
  obtain ⟨m1, m2⟩ := itoa_num n
  obtain ⟨e1, e2⟩ := word_read h (fun c hc => num_wd (m1 c hc)) hr.1
  obtain ⟨t1, t2, t3⟩ := num_none m1
  have hf := rfB_no (rest_app h) hr.2.2
  obtain ⟨b0, b1⟩ := inB_bd hn
  obtain ⟨i1, i2⟩ := isI_of (n := n) (by omega) (by omega)
  unfold sdS
  rw [e2, t1, t2, t3, i1, i2, e1, hf]
  rfl
theorem sd_fix {x : Int} (hx : inB x = true) (h0 : x.tmod 65536 ≠ 0) (h : rest s a = (fixT x).data.toList ++ r) (l : Int) : sdS dpF s (sub' s (a : Int) (wdA s (a : Int))) (wdA s (a : Int)) l = some (plO 3 x false ⟨#[]⟩, ((a + (fixT x).size : Nat) : Int), l) := by
  obtain ⟨m1, m2⟩ := fix_num x
  obtain ⟨e1, e2⟩ := word_read h (fun c hc => num_wd (m1 c hc)) hr.1
  obtain ⟨t1, t2, t3⟩ := num_none m1
  have e3 : bs (fixT x).data.toList = fixT x := bs_data _
  unfold sdS
  rw [e2, t1, t2, t3, e3, isI_fixT h0, dpF_fixT hx, e1]
  rfl
end
theorem ref_tail {s : ByteArray} {b : Nat} {r : List UInt8} (hr : endW r) (k1 : rest s b = 32 :: 48 :: 32 :: 82 :: r) : rfB s (b : Int) = true ∧ rf3 s (b : Int) = ((b + 4 : Nat) : Int) := by
  have k2 := rest_tl k1
  have k3 := rest_tl k2
  have k4 := rest_tl k3
  have w1 : blA s (b : Int) = ((b + 1 : Nat) : Int) := skA_rest blkB s [32] b _ k1 (by decide +kernel) (fun c r' e => by injection e with e _; rw [← e]; decide +kernel)
  have w2 : wdA s ((b + 1 : Nat) : Int) = ((b + 1 + 1 : Nat) : Int) := skA_rest wordB s [48] (b + 1) _ k2 (by decide +kernel) (fun c r' e => by injection e with e _; rw [← e]; decide +kernel)
  have w3 : blA s ((b + 1 + 1 : Nat) : Int) = ((b + 1 + 1 + 1 : Nat) : Int) := skA_rest blkB s [32] (b + 1 + 1) _ k3 (by decide +kernel) (fun c r' e => by injection e with e _; rw [← e]; decide +kernel)
  have w4 : wdA s ((b + 1 + 1 + 1 : Nat) : Int) = ((b + 1 + 1 + 1 + 1 : Nat) : Int) := skA_rest wordB s [82] (b + 1 + 1 + 1) _ k4 (by decide +kernel) hr
  have s1 : sub' s ((b + 1 : Nat) : Int) ((b + 1 + 1 : Nat) : Int) = bs [48] := sub_rest (l := [48]) k2
  have s2 : sub' s ((b + 1 + 1 + 1 : Nat) : Int) ((b + 1 + 1 + 1 + 1 : Nat) : Int) = bs [82] := sub_rest (l := [82]) k4
  unfold rfB rf3 rf2 rf1
  rw [w1, w2, w3, w4, s1, s2, bs_toList, bs_toList, decide_eq_true (by omega), decide_eq_true (by omega), Lib.toList_data, Lib.toList_data]
  exact ⟨rfl, rfl⟩
theorem sd_ref {s : ByteArray} {a : Nat} {r : List UInt8} (hr : endW r) {n : Int} (h1 : 1 ≤ n) (h2 : n ≤ 4096) (h : rest s a = (Lib.itoa n ++ [32, 48, 32, 82]) ++ r) (l : Int) :
    sdS dpF s (sub' s (a : Int) (wdA s (a : Int))) (wdA s (a : Int)) l = some (plO 8 n false ⟨#[]⟩, ((a + ((Lib.itoa n).length + 4) : Nat) : Int), l) := by
  obtain ⟨m1, m2⟩ := itoa_num n
  rw [List.append_assoc] at h
  obtain ⟨e1, e2⟩ := word_read h (fun c hc => num_wd (m1 c hc)) (fun c r' e => by injection e with e _; rw [← e]; decide +kernel)
  obtain ⟨t1, t2, t3⟩ := num_none m1
  obtain ⟨hf, h3⟩ := ref_tail hr (rest_app h)
  obtain ⟨i1, i2⟩ := isI_of (n := n) (by omega) (by omega)
  unfold sdS
  rw [e2, t1, t2, t3, i1, i2, e1, hf, h3]
  simp only [cond_false, cond_true]
  rw [← Nat.add_assoc]
end Go.Proofs.YtckdgcpomkefpaaGreatDoor.En
end
section
set_option linter.unusedVariables false
set_option linter.unusedSimpArgs false
set_option maxRecDepth 100000
namespace Go.Proofs.YtckdgcpomkefpaaGreatDoor.En
open Go
def escU (b : UInt8) : List UInt8 := ub (esc b)
def escPU (b : UInt8) : List UInt8 := ub (escP b)
def hexU (b : UInt8) : List UInt8 := ub (hex2 b)
def intU (t : List UInt8) : List Dat := t.map fun b => Dat.int b.toNat
theorem intU_of (t : List UInt8) : bytesOf (intU t) = bs t := by
  rw [of_ub]
  have : ub (intU t) = t := by
    unfold ub intU
    rw [List.map_map]
    refine (List.map_congr_left fun c _ => ?_).trans (List.map_id _)
    exact UInt8.ofNat_toNat
  rw [this]
theorem ub_flat {f : UInt8 → List Dat} : ∀ t : List UInt8, ub (t.flatMap f) = t.flatMap fun b => ub (f b)
  | [] => rfl
  | b :: t => by rw [List.flatMap_cons, ub_app, ub_flat t, List.flatMap_cons]
theorem ub_name (s : ByteArray) : ub (nameT s) = 47 :: s.data.toList.flatMap escU := by
  unfold nameT
  rw [ub_cons, ub_flat]
  rfl
def hiU (b : UInt8) : UInt8 := UInt8.ofNat (bt figs (hi4 b.toNat)).toNat
def loU (b : UInt8) : UInt8 := UInt8.ofNat (bt figs (lo4 b.toNat)).toNat
theorem escU_eq (b : UInt8) : escU b = bif plainB b.toNat then [b] else [35, hiU b, loU b] := by
  unfold escU esc
  cases plainB b.toNat
  · rfl
  · show [UInt8.ofNat b.toNat] = [b]
    rw [UInt8.ofNat_toNat]
theorem hexU_eq (b : UInt8) : hexU b = [hiU b, loU b] := rfl
def pairW (x y : Int) : Int := U8 (BitVec.ofInt IntKind.u8.bits (U8 (hexV x * 2 ^ (min (4 : Int).toNat IntKind.u8.bits))) ||| BitVec.ofInt IntKind.u8.bits (hexV y)).toNat
theorem pairV_eq (s : ByteArray) (a : Int) : pairV s a = pairW (bt s a) (bt s (a + 1)) := rfl
def hexOk (b : UInt8) : Bool := hexB (hiU b).toNat && (hexB (loU b).toNat && ((pairW (hiU b).toNat (loU b).toNat == b.toNat) && (((hiU b).toNat : Int) != 62 && (((hiU b).toNat : Int) != 60))))
theorem hex_ok (b : UInt8) : hexB (hiU b).toNat = true ∧ hexB (loU b).toNat = true ∧ pairW (hiU b).toNat (loU b).toNat = b.toNat ∧ ((((hiU b).toNat : Int) == 62) = false) ∧ (((hiU b).toNat : Int) == 60) = false := by
  have := byte_tab hexOk (by decide +kernel) b
  unfold hexOk at this
  simp only [Bool.and_eq_true, beq_iff_eq, bne_iff_ne] at this
  obtain ⟨h1, h2, h3, h4, h5⟩ := this
  exact ⟨h1, h2, h3, beq_eq_false_iff_ne.2 h4, beq_eq_false_iff_ne.2 h5⟩
theorem plain_ok {b : UInt8} (h : plainB b.toNat = true) : wdU b = true ∧ ((b.toNat : Int) == 35) = false := by
  have := byte_tab (fun b => !plainB b.toNat || (wdU b && !((b.toNat : Int) == 35))) (by decide +kernel) b
  rw [h] at this
  simpa using this
theorem nm_read {s : ByteArray} {r : List UInt8} (hr : endW r) : ∀ (t : List UInt8) (q a : Nat) (acc : List Dat), rest s a = t.flatMap escU ++ r → t.length < q → nmP s q (a : Int) acc = some (acc ++ intU t, ((a + (t.flatMap escU).length : Nat) : Int))
  | t, 0, a, acc, _, h => by omega
  | [], q + 1, a, acc, h, _ => by
    have h : rest s a = r := h
    have hc : (decide ((a : Int) < s.size) && wordB (bt s (a : Int))) = false := by
      cases r with
      | nil =>
        have := rest_nil h
        rw [decide_eq_false (by omega), Bool.false_and]
      | cons c r' =>
        have hw : wordB (c.toNat : Int) = false := hr c r' rfl
        rw [rest_bt h, hw, Bool.and_false]
    unfold nmP
    rw [hc, cond_false]
    show _ = some (acc ++ [], _)
    rw [List.append_nil]
    rfl
  | b :: t, q + 1, a, acc, h, hq => by
    rw [List.flatMap_cons, List.append_assoc] at h
    have ih := nm_read (s := s) hr t q
    rw [List.length_cons] at hq
    have e0 : intU (b :: t) = Dat.int b.toNat :: intU t := rfl
    rw [escU_eq] at h
    unfold nmP
    cases hp : plainB b.toNat
    · rw [hp, cond_false] at h
      have h : rest s a = 35 :: hiU b :: loU b :: (t.flatMap escU ++ r) := h
      obtain ⟨x1, x2, x3, _, _⟩ := hex_ok b
      have h1 := rest_tl h
      have h2 := rest_tl h1
      have h3 := rest_tl h2
      have s0 := rest_size h2
      have hw : wordB ((35 : UInt8).toNat : Int) = true := by decide +kernel
      have hpair : pairB s ((a : Int) + 1) = true := by
        unfold pairB
        rw [show (a : Int) + 1 = ((a + 1 : Nat) : Int) by omega, rest_bt h1, show ((a + 1 : Nat) : Int) + 1 = ((a + 1 + 1 : Nat) : Int) by omega, rest_bt h2, x1, x2, decide_eq_true (by omega)]
        rfl
      have hval : pairV s ((a : Int) + 1) = b.toNat := by
        rw [pairV_eq, show (a : Int) + 1 = ((a + 1 : Nat) : Int) by omega, rest_bt h1, show ((a + 1 : Nat) : Int) + 1 = ((a + 1 + 1 : Nat) : Int) by omega, rest_bt h2, x3]
      rw [rest_bt h, hw, decide_eq_true (by omega), hpair, hval, show (((35 : UInt8).toNat : Int) == 35) = true from rfl]
      simp only [cond_true, Bool.and_self]
      rw [show (a : Int) + 3 = ((a + 1 + 1 + 1 : Nat) : Int) by omega, ih _ _ h3 (by omega), e0, List.append_assoc, List.flatMap_cons, escU_eq, hp, List.length_append]
      congr 3
      show a + 1 + 1 + 1 + _ = a + (3 + _)
      omega
    · rw [hp, cond_true] at h
      have h : rest s a = b :: (t.flatMap escU ++ r) := h
      obtain ⟨x1, x2⟩ := plain_ok hp
      have x1 : wordB (b.toNat : Int) = true := x1
      have h1 := rest_tl h
      have s0 := rest_size h
      rw [rest_bt h, x1, x2, hp, decide_eq_true (by omega)]
      simp only [cond_true, cond_false, Bool.and_self]
      rw [show (a : Int) + 1 = ((a + 1 : Nat) : Int) by omega, ih _ _ h1 (by omega), e0, List.append_assoc, List.flatMap_cons, escU_eq, hp, List.length_append]
      congr 3
      show a + 1 + _ = a + (1 + _)
      omega
theorem nmA_read {s : ByteArray} {r : List UInt8} (hr : endW r) {t : List UInt8} {a : Nat} (h : rest s a = t.flatMap escU ++ r) : nmA s (a : Int) = some (intU t, ((a + (t.flatMap escU).length : Nat) : Int)) := by
  have hl := rest_length s a
  rw [h, List.length_append] at hl
  have ht : t.length ≤ (t.flatMap escU).length := by
    clear h hl
    induction t with
    | nil => simp
    | cons b t ih =>
      rw [List.flatMap_cons, List.length_append, List.length_cons]
      have : 1 ≤ (escU b).length := by rw [escU_eq]; cases plainB b.toNat <;> simp
      omega
  unfold nmA
  rw [nm_read hr t _ a [] h (by omega), List.nil_append]
theorem escPU_eq (b : UInt8) : escPU b = bif ((b.toNat : Int) == 40 || (b.toNat : Int) == 41) || (b.toNat : Int) == 92 then [92, b] else [b] := by
  unfold escPU escP
  have e : UInt8.ofNat ((Dat.int b.toNat).at 0).toI.toNat = b := UInt8.ofNat_toNat
  cases ((b.toNat : Int) == 40 || (b.toNat : Int) == 41) || (b.toNat : Int) == 92
  · rw [cond_false, cond_false, ub_cons, e]; rfl
  · rw [cond_true, cond_true, ub_cons, ub_cons, e]; rfl
def escBk (b : UInt8) : Bool := !(((b.toNat : Int) == 40 || (b.toNat : Int) == 41) || (b.toNat : Int) == 92) || (eB b.toNat && (eV b.toNat == b.toNat))
theorem esc_bk {b : UInt8} (h : (((b.toNat : Int) == 40 || (b.toNat : Int) == 41) || (b.toNat : Int) == 92) = true) : eB b.toNat = true ∧ eV b.toNat = b.toNat := by
  have := byte_tab escBk (by decide +kernel) b
  unfold escBk at this
  rw [h] at this
  simpa using this
theorem qu_read {s : ByteArray} {r : List UInt8} : ∀ (t : List UInt8) (q a : Nat) (acc : List Dat), rest s a = t.flatMap escPU ++ 41 :: r → t.length < q → quP s q (a : Int) 0 acc = some (acc ++ intU t, ((a + (t.flatMap escPU).length + 1 : Nat) : Int))
  | t, 0, a, acc, _, h => by omega
  | [], q + 1, a, acc, h, _ => by
    have h : rest s a = 41 :: r := h
    have s0 := rest_size h
    unfold quP
    rw [decide_eq_true (by omega), rest_bt h]
    show some (acc, (a : Int) + 1) = some (acc ++ [], _)
    rw [List.append_nil]
    rfl
  | b :: t, q + 1, a, acc, h, hq => by
    rw [List.flatMap_cons, List.append_assoc] at h
    have ih := qu_read (s := s) (r := r) t q
    rw [List.length_cons] at hq
    have e0 : intU (b :: t) = Dat.int b.toNat :: intU t := rfl
    rw [escPU_eq] at h
    unfold quP
    cases hp : ((b.toNat : Int) == 40 || (b.toNat : Int) == 41) || (b.toNat : Int) == 92
    · rw [hp, cond_false] at h
      have h : rest s a = b :: (t.flatMap escPU ++ 41 :: r) := h
      have h1 := rest_tl h
      have s0 := rest_size h
      rw [Bool.or_eq_false_iff, Bool.or_eq_false_iff] at hp
      obtain ⟨⟨p1, p2⟩, p3⟩ := hp
      rw [rest_bt h, p1, p2, p3, decide_eq_true (by omega)]
      simp only [cond_true, cond_false]
      rw [show (a : Int) + 1 = ((a + 1 : Nat) : Int) by omega, ih _ _ h1 (by omega), e0, List.append_assoc, List.flatMap_cons, escPU_eq, p1, p2, p3, List.length_append]
      congr 3
      show a + 1 + _ + 1 = a + (1 + _) + 1
      omega
    · rw [hp, cond_true] at h
      have h : rest s a = 92 :: b :: (t.flatMap escPU ++ 41 :: r) := h
      have h1 := rest_tl h
      have h2 := rest_tl h1
      have s0 := rest_size h1
      obtain ⟨x1, x2⟩ := esc_bk hp
      have hok : escOk s ((a : Int) + 1) = true := by
        unfold escOk
        rw [show (a : Int) + 1 = ((a + 1 : Nat) : Int) by omega, rest_bt h1, x1, decide_eq_true (by omega)]
        rfl
      have hv : escV s ((a : Int) + 1) = b.toNat := by
        unfold escV
        rw [show (a : Int) + 1 = ((a + 1 : Nat) : Int) by omega, rest_bt h1, x1, cond_true, x2]
      have hpos : esP s ((a : Int) + 1) = ((a + 1 + 1 : Nat) : Int) := by
        unfold esP
        rw [show (a : Int) + 1 = ((a + 1 : Nat) : Int) by omega, rest_bt h1, x1, cond_true]
        omega
      rw [rest_bt h, hok, hv, hpos, decide_eq_true (by omega)]
      show quP s q ((a + 1 + 1 : Nat) : Int) 0 (acc ++ [Dat.int b.toNat]) = _
      rw [ih _ _ h2 (by omega), e0, List.append_assoc, List.flatMap_cons, escPU_eq, hp, List.length_append]
      congr 3
      show a + 1 + 1 + _ + 1 = a + (2 + _) + 1
      omega
theorem txA_read {s : ByteArray} {r t : List UInt8} {a : Nat} (h : rest s a = t.flatMap escPU ++ 41 :: r) : txA s (a : Int) = some (intU t, ((a + (t.flatMap escPU).length + 1 : Nat) : Int)) := by
  have hl := rest_length s a
  rw [h, List.length_append] at hl
  have ht : t.length ≤ (t.flatMap escPU).length := by
    clear h hl
    induction t with
    | nil => simp
    | cons b t ih =>
      rw [List.flatMap_cons, List.length_append, List.length_cons]
      have : 1 ≤ (escPU b).length := by rw [escPU_eq]; cases ((b.toNat : Int) == 40 || (b.toNat : Int) == 41) || (b.toNat : Int) == 92 <;> simp
      omega
  unfold txA
  rw [qu_read t _ a [] h (by omega), List.nil_append]
theorem hx_read {s : ByteArray} {r : List UInt8} : ∀ (t : List UInt8) (q a : Nat) (acc : List Dat), rest s a = t.flatMap hexU ++ 62 :: r → t.length < q → hxP s q (a : Int) acc = some (acc ++ intU t, ((a + (t.flatMap hexU).length + 1 : Nat) : Int))
  | t, 0, a, acc, _, h => by omega
  | [], q + 1, a, acc, h, _ => by
    have h : rest s a = 62 :: r := h
    unfold hxP
    rw [isB_rest h]
    show some (acc, (a : Int) + 1) = some (acc ++ [], _)
    rw [List.append_nil]
    rfl
  | b :: t, q + 1, a, acc, h, hq => by
    rw [List.flatMap_cons, List.append_assoc] at h
    have ih := hx_read (s := s) (r := r) t q
    rw [List.length_cons] at hq
    have e0 : intU (b :: t) = Dat.int b.toNat :: intU t := rfl
    have h : rest s a = hiU b :: loU b :: (t.flatMap hexU ++ 62 :: r) := h
    obtain ⟨x1, x2, x3, x4, _⟩ := hex_ok b
    have h1 := rest_tl h
    have h2 := rest_tl h1
    have s0 := rest_size h1
    have hpair : pairB s (a : Int) = true := by
      unfold pairB
      rw [rest_bt h, show (a : Int) + 1 = ((a + 1 : Nat) : Int) by omega, rest_bt h1, x1, x2, decide_eq_true (by omega)]
      rfl
    have hval : pairV s (a : Int) = b.toNat := by
      rw [pairV_eq, rest_bt h, show (a : Int) + 1 = ((a + 1 : Nat) : Int) by omega, rest_bt h1, x3]
    unfold hxP
    rw [isB_rest h, x4, hpair, hval, cond_false, cond_true, show (a : Int) + 2 = ((a + 1 + 1 : Nat) : Int) by omega, ih _ _ h2 (by omega), e0, List.append_assoc, List.flatMap_cons, hexU_eq, List.length_append]
    congr 3
    show a + 1 + 1 + _ + 1 = a + (2 + _) + 1
    omega
theorem hxA_read {s : ByteArray} {r t : List UInt8} {a : Nat} (h : rest s a = t.flatMap hexU ++ 62 :: r) : hxA s (a : Int) = some (intU t, ((a + (t.flatMap hexU).length + 1 : Nat) : Int)) := by
  have hl := rest_length s a
  rw [h, List.length_append] at hl
  have ht : t.length ≤ (t.flatMap hexU).length := by
    clear h hl
    induction t with
    | nil => simp
    | cons b t ih =>
      rw [List.flatMap_cons, List.length_append, List.length_cons, hexU_eq]
      simp only [List.length_cons, List.length_nil]
      omega
  unfold hxA
  rw [hx_read t _ a [] h (by omega), List.nil_append]
theorem ub_txt (s : ByteArray) : ub (txtT s) = bif s.data.toList.all shB then 40 :: (s.data.toList.flatMap escPU ++ [41]) else 60 :: (s.data.toList.flatMap hexU ++ [62]) := by
  unfold txtT
  cases s.data.toList.all shB
  · rw [cond_false, cond_false]
    unfold hexT
    rw [ub_app, ub_cons, ub_flat]
    rfl
  · rw [cond_true, cond_true]
    unfold parT
    rw [ub_app, ub_cons, ub_flat]
    rfl
end Go.Proofs.YtckdgcpomkefpaaGreatDoor.En
end
section
set_option linter.unusedVariables false
set_option linter.unusedSimpArgs false
set_option maxRecDepth 100000
namespace Go.Proofs.YtckdgcpomkefpaaGreatDoor.En
open Go
theorem no_blanks : ∀ (b : List UInt8) (t : List UInt8), (∀ c ∈ b, blkU c = true) → noR t → noRef t → noR (b ++ t) ∧ noRef (b ++ t)
  | [], t, _, h1, h2 => ⟨h1, h2⟩
  | c :: b, t, hb, h1, h2 => by
    have hc := hb c (by simp)
    obtain ⟨i1, i2⟩ := no_blanks b t (fun x hx => hb x (by simp [hx])) h1 h2
    refine ⟨fun e => i1 ?_, fun e => ?_⟩
    · unfold wd1 at e ⊢
      rwa [List.cons_append, skip_blank hc] at e
    · have := i2 (by unfold wd1 at e ⊢; rwa [List.cons_append, skip_blank hc] at e)
      unfold wdR at this ⊢
      rwa [List.cons_append, skip_blank hc]
theorem safe_bl {b t : List UInt8} (hb : ∀ c ∈ b, blkU c = true) (h0 : b ≠ []) (h1 : noR t) (h2 : noRef t) : safe (b ++ t) := by
  cases b with
  | nil => exact (h0 rfl).elim
  | cons c b =>
    obtain ⟨i1, i2⟩ := no_blanks b t (fun x hx => hb x (by simp [hx])) h1 h2
    exact safe_blank (hb c (by simp)) i1 i2
theorem safe_end {b r : List UInt8} {c : UInt8} (hb : ∀ x ∈ b, blkU x = true) (h1 : blkU c = false) (h2 : wdU c = false) : safe (b ++ c :: r) := by
  by_cases h0 : b = []
  · subst h0
    exact safe_delim h1 h2
  · obtain ⟨n1, n2⟩ := delim_no (r := r) h1 h2
    exact safe_bl hb h0 n1 n2
def HdD (k : Nat) (d : Dat) : Prop := (∃ c t, txtU k d = c :: t ∧ blkU c = false ∧ c ≠ 93) ∧ ∀ r, safe r → noR (txtU k d ++ r) ∧ noRef (txtU k d ++ r)
theorem hd_word {w : List UInt8} (hw : ∀ c ∈ w, wdU c = true) (h0 : w ≠ []) (h : w ≠ [82]) : (∃ c t, w = c :: t ∧ blkU c = false ∧ c ≠ 93) ∧ ∀ r, safe r → noR (w ++ r) ∧ noRef (w ++ r) := by
  refine ⟨?_, fun r hr => ⟨noR_word hw h0 h hr.1, noRef_word hw h0 hr⟩⟩
  cases w with
  | nil => exact (h0 rfl).elim
  | cons c t =>
    have hc := hw c (by simp)
    exact ⟨c, t, rfl, wd_blk c hc, fun e => by rw [e] at hc; exact absurd hc (by decide +kernel)⟩
theorem hd_delim {w : List UInt8} {c : UInt8} {t : List UInt8} (e : w = c :: t) (h1 : blkU c = false) (h2 : wdU c = false) (h3 : c ≠ 93) : (∃ c t, w = c :: t ∧ blkU c = false ∧ c ≠ 93) ∧ ∀ r, safe r → noR (w ++ r) ∧ noRef (w ++ r) := by
  subst e
  exact ⟨⟨c, t, rfl, h1, h3⟩, fun r _ => delim_no h1 h2⟩
theorem txtU_eq (k : Nat) (d : Dat) : txtU (k + 1) d = ub (txtK (txtO k) (d.at 0).toI (d.at 2).toI (d.at 1).toB (d.at 3).toS (d.at 4).toL (d.at 5).toL) := rfl
theorem ub_ref (n : Int) (h0 : -9223372036854775808 ≤ n) (h1 : n ≤ 9223372036854775807) : ub (bytesTo (itS n ++ refT)) = Lib.itoa n ++ [32, 48, 32, 82] := by
  rw [ub_to, ByteArray.data_append, Array.toList_append, itS_itoa h0 h1]
  rfl
theorem ub_itS (n : Int) (h0 : -9223372036854775808 ≤ n) (h1 : n ≤ 9223372036854775807) : ub (bytesTo (itS n)) = Lib.itoa n := by
  rw [ub_to, itS_itoa h0 h1]
  rfl
theorem hd_of (k : Nat) (d : Dat) (h : flatD d = true) : HdD (k + 1) d := by
  have hkb := kindB_of (show flatB (d.at 0).toI (d.at 2).toI (d.at 1).toB (d.at 3).toS (d.at 4).toL (d.at 5).toL = true from h)
  unfold HdD
  rw [txtU_eq]
  clear h
  revert hkb
  generalize (d.at 0).toI = k1
  generalize (d.at 2).toI = n1
  generalize (d.at 1).toB = b1
  generalize (d.at 3).toS = s1
  generalize (d.at 4).toL = ks1
  generalize (d.at 5).toL = l1
  intro hkb
  rcases kinds9 hkb with rfl | rfl | rfl | rfl | rfl | rfl | rfl | rfl | rfl
  · have e : ub (txtK (txtO k) 0 n1 b1 s1 ks1 l1) = nulT.data.toList := ub_to _
    rw [e]
    exact hd_word null_wd (by decide) (by decide)
  · have e : ub (txtK (txtO k) 1 n1 b1 s1 ks1 l1) = (boolT b1).data.toList := ub_to _
    rw [e]
    cases b1
    · exact hd_word false_wd (by decide) (by decide)
    · exact hd_word true_wd (by decide) (by decide)
  · have hk : inB n1 = true := hkb
    obtain ⟨q0, q1⟩ := inB_bd hk
    have e : ub (txtK (txtO k) 2 n1 b1 s1 ks1 l1) = Lib.itoa n1 := ub_itS n1 (by omega) (by omega)
    rw [e]
    obtain ⟨m1, m2⟩ := itoa_num n1
    exact hd_word (fun c hc => num_wd (m1 c hc)) m2 (num_R m1)
  · have e : ub (txtK (txtO k) 3 n1 b1 s1 ks1 l1) = (fixT n1).data.toList := ub_to _
    rw [e]
    obtain ⟨m1, m2⟩ := fix_num n1
    exact hd_word (fun c hc => num_wd (m1 c hc)) m2 (num_R m1)
  · have e : ub (txtK (txtO k) 4 n1 b1 s1 ks1 l1) = 47 :: s1.data.toList.flatMap escU := ub_name s1
    exact hd_delim e (by decide +kernel) (by decide +kernel) (by decide)
  · have e : ub (txtK (txtO k) 5 n1 b1 s1 ks1 l1) = _ := ub_txt s1
    rw [e]
    cases s1.data.toList.all shB
    · exact hd_delim rfl (by decide +kernel) (by decide +kernel) (by decide)
    · exact hd_delim rfl (by decide +kernel) (by decide +kernel) (by decide)
  · have e : ub (txtK (txtO k) 6 n1 b1 s1 ks1 l1) = 91 :: ub (sepT (txtO k) true l1 ++ [Dat.int 93]) := rfl
    exact hd_delim e (by decide +kernel) (by decide +kernel) (by decide)
  · have e : ub (txtK (txtO k) 7 n1 b1 s1 ks1 l1) = 60 :: ub (Dat.int 60 :: (dicT (txtO k) true ks1 l1 ++ bytesTo ⟨#[62, 62]⟩)) := rfl
    exact hd_delim e (by decide +kernel) (by decide +kernel) (by decide)
  · have hk : (decide (n1 ≥ 1) && decide (n1 ≤ 4096)) = true := hkb
    rw [Bool.and_eq_true, decide_eq_true_eq, decide_eq_true_eq] at hk
    have e : ub (txtK (txtO k) 8 n1 b1 s1 ks1 l1) = Lib.itoa n1 ++ [32, 48, 32, 82] := ub_ref n1 (by omega) (by omega)
    rw [e]
    obtain ⟨m1, m2⟩ := itoa_num n1
    have hw : ∀ c ∈ Lib.itoa n1, wdU c = true := fun c hc => num_wd (m1 c hc)
    obtain ⟨⟨c, t, q1, q2, q3⟩, _⟩ := hd_word hw m2 (num_R m1)
    refine ⟨⟨c, t ++ [32, 48, 32, 82], by rw [q1]; rfl, q2, q3⟩, fun r hr => ?_⟩
    rw [List.append_assoc]
    have hE : endW ([32, 48, 32, 82] ++ r) := fun c r' e => by injection e with e _; rw [← e]; decide +kernel
    refine ⟨noR_word hw m2 (num_R m1) hE, fun _ => ?_⟩
    have e2 : wdR (Lib.itoa n1 ++ ([32, 48, 32, 82] ++ r)) = [32, 48, 32, 82] ++ r := by
      unfold wdR
      rw [q1, List.cons_append, skip_word q2, ← List.cons_append, ← q1, (tw_app wdU _ _ hw hE).2]
    rw [e2]
    have h3 : noR ([48] ++ ([32, 82] ++ r)) := noR_word (by decide +kernel) (by decide) (by decide) (fun c r' e => by injection e with e _; rw [← e]; decide +kernel)
    intro e
    apply h3
    unfold wd1 at e ⊢
    rwa [show ([32, 48, 32, 82] ++ r : List UInt8) = 32 :: ([48] ++ ([32, 82] ++ r)) from rfl, skip_blank (by decide +kernel)] at e
def RdsD (k k2 : Nat) (nest : Int) (d : Dat) : Prop := ∀ (s : ByteArray) (a : Nat) (r : List UInt8) (n : Int), rest s a = txtU k d ++ r → safe r → 0 ≤ n → 0 ≤ goodO k d nest n → ∃ d', obP dpF s k2 (a : Int) (32 - nest) (65536 - n) = some (d', ((a + (txtU k d).length : Nat) : Int), 65536 - goodO k d nest n) ∧ sameO k d' d = true
theorem sameO_nrm1 (k : Nat) (a b : Dat) : sameO k (nrm a) b = sameO k a b := by cases k <;> rfl
def cntG (k : Nat) (nest : Int) (l : List Dat) (n : Int) : Int := itemsG (fun e n => goodO k e nest n) l n
theorem cntG_eq (k : Nat) (nest : Int) (d : Dat) (l : List Dat) (n : Int) : cntG k nest (d :: l) n = bif decide (goodO k d nest n < 0) then -1 else cntG k nest l (goodO k d nest n) := rfl
theorem cntG_cons {k : Nat} {nest : Int} {d : Dat} {l : List Dat} {n : Int} (h0 : 0 ≤ n) (h : 0 ≤ cntG k nest (d :: l) n) : 0 ≤ goodO k d nest n ∧ cntG k nest (d :: l) n = cntG k nest l (goodO k d nest n) := by
  rw [cntG_eq] at h ⊢
  by_cases hd : goodO k d nest n < 0
  · rw [decide_eq_true hd] at h; simp at h
  · rw [decide_eq_false hd, cond_false]
    exact ⟨by omega, rfl⟩
def sepL (k : Nat) (l : List (List UInt8 × Dat)) : List UInt8 := l.flatMap fun x => x.1 ++ txtU k x.2
theorem sepL_cons (k : Nat) (x : List UInt8 × Dat) (l : List (List UInt8 × Dat)) : sepL k (x :: l) = x.1 ++ (txtU k x.2 ++ sepL k l) := by
  unfold sepL
  rw [List.flatMap_cons, List.append_assoc]
theorem safe_sep {k : Nat} {post : List UInt8} (hp : safe post) : ∀ l : List (List UInt8 × Dat), (∀ x ∈ l, ∀ c ∈ x.1, blkU c = true) → (∀ x ∈ l, x.1 ≠ []) → (∀ x ∈ l, HdD k x.2) → safe (sepL k l ++ post)
  | [], _, _, _ => hp
  | x :: l, hb, h0, hh => by
    have ih := safe_sep hp l (fun y hy => hb y (by simp [hy])) (fun y hy => h0 y (by simp [hy])) (fun y hy => hh y (by simp [hy]))
    rw [sepL_cons, List.append_assoc, List.append_assoc]
    obtain ⟨n1, n2⟩ := (hh x (by simp)).2 _ ih
    exact safe_bl (hb x (by simp)) (h0 x (by simp)) n1 n2
theorem bl_skip {s : ByteArray} {a : Nat} {b t : List UInt8} {c : UInt8} (h : rest s a = b ++ c :: t) (hb : ∀ x ∈ b, blkU x = true) (hc : blkU c = false) : blA s (a : Int) = ((a + b.length : Nat) : Int) ∧ rest s (a + b.length) = c :: t :=
  ⟨skA_rest blkB s b a _ h hb (fun x r' e => by injection e with e _; rw [← e]; exact hc), rest_app h⟩
theorem ar_read {s : ByteArray} {k k2 : Nat} {nest deep : Int} {bl r : List UInt8} (hbl : ∀ c ∈ bl, blkU c = true) (hdp : deep = 32 - nest) :
    ∀ (l : List (List UInt8 × Dat)) (q a : Nat) (n : Int) (acc : List Dat), (∀ x ∈ l, ∀ c ∈ x.1, blkU c = true) → (∀ x ∈ l.tail, x.1 ≠ []) → (∀ x ∈ l, HdD k x.2 ∧ RdsD k k2 nest x.2) → 0 ≤ n → 0 ≤ cntG k nest (l.map (·.2)) n → l.length < q → rest s a = sepL k l ++ (bl ++ 93 :: r) →
      ∃ acc', arP s (fun a l => obP dpF s k2 a deep l) q (blA s (a : Int)) (65536 - n) acc = some (mkO 6 0 false ⟨#[]⟩ [] (acc ++ acc'), ((a + (sepL k l).length + bl.length + 1 : Nat) : Int), 65536 - cntG k nest (l.map (·.2)) n) ∧ allEq (sameO k) acc' (l.map (·.2)) = true
  | l, 0, a, n, acc, _, _, _, _, _, h, _ => by omega
  | [], q + 1, a, n, acc, _, _, _, _, _, _, h => by
    have h : rest s a = bl ++ 93 :: r := h
    obtain ⟨e1, e2⟩ := bl_skip h hbl (by decide +kernel)
    refine ⟨[], ?_, rfl⟩
    unfold arP
    rw [e1, isB_rest e2, show (((93 : UInt8).toNat : Int) == 93) = true from rfl, cond_true, List.append_nil]
    rfl
  | x :: l, q + 1, a, n, acc, hb, h0, hh, hn0, hn, hq, h => by
    rw [List.length_cons] at hq
    rw [sepL_cons, List.append_assoc, List.append_assoc] at h
    obtain ⟨hH, hR⟩ := hh x (by simp)
    obtain ⟨⟨c, t, t1, t2, t3⟩, _⟩ := hH
    have h2 := h
    rw [t1, List.cons_append] at h2
    obtain ⟨e1, e2⟩ := bl_skip h2 (hb x (by simp)) t2
    have h3 : rest s (a + x.1.length) = txtU k x.2 ++ (sepL k l ++ (bl ++ 93 :: r)) := rest_app h
    have hs : safe (sepL k l ++ (bl ++ 93 :: r)) := safe_sep (safe_end hbl (by decide +kernel) (by decide +kernel)) l (fun y hy => hb y (by simp [hy])) (fun y hy => h0 y hy) (fun y hy => (hh y (by simp [hy])).1)
    rw [List.map_cons] at hn ⊢
    obtain ⟨k1, k3⟩ := cntG_cons hn0 hn
    rw [k3] at hn ⊢
    obtain ⟨d', f1, f2⟩ := hR s _ _ n h3 hs hn0 k1
    obtain ⟨acc', g1, g2⟩ := ar_read hbl hdp l q (a + x.1.length + (txtU k x.2).length) (goodO k x.2 nest n) (acc ++ [nrm d']) (fun y hy => hb y (by simp [hy])) (fun y hy => h0 y (List.mem_of_mem_tail hy)) (fun y hy => hh y (by simp [hy])) k1 hn (by omega) (rest_app h3)
    refine ⟨nrm d' :: acc', ?_, ?_⟩
    · unfold arP
      rw [e1, isB_rest e2]
      have hc : ((c.toNat : Int) == 93) = false := by
        rw [beq_eq_false_iff_ne]
        intro e
        exact t3 (UInt8.toNat_inj.1 (by have : (93 : UInt8).toNat = 93 := rfl; omega))
      rw [hc, cond_false]
      subst hdp
      rw [f1]
      dsimp only
      rw [g1, sepL_cons, List.append_assoc, List.length_append, List.length_append]
      congr 3
      congr 1
      omega
    · rw [allEq, sameO_nrm1, f2, g2]
      rfl
def dicL (k : Nat) (l : List (List UInt8 × ByteArray × Dat)) : List UInt8 := l.flatMap fun x => x.1 ++ (47 :: (x.2.1.data.toList.flatMap escU ++ (32 :: txtU k x.2.2)))
theorem dicL_cons (k : Nat) (x : List UInt8 × ByteArray × Dat) (l : List (List UInt8 × ByteArray × Dat)) : dicL k (x :: l) = x.1 ++ (47 :: (x.2.1.data.toList.flatMap escU ++ (32 :: (txtU k x.2.2 ++ dicL k l)))) := by
  unfold dicL
  rw [List.flatMap_cons]
  simp only [List.append_assoc, List.cons_append]
theorem dc_read {s : ByteArray} {k k2 : Nat} {nest deep : Int} {r : List UInt8} (hdp : deep = 32 - nest) :
    ∀ (l : List (List UInt8 × ByteArray × Dat)) (q a : Nat) (n : Int) (ks acc : List Dat), (∀ x ∈ l, ∀ c ∈ x.1, blkU c = true) → (∀ x ∈ l, namedB x.2.1 = true) → (∀ x ∈ l, HdD k x.2.2 ∧ RdsD k k2 nest x.2.2) → 0 ≤ n → 0 ≤ cntG k nest (l.map (·.2.2)) n → l.length < q → rest s a = dicL k l ++ (62 :: 62 :: r) →
      ∃ acc', dcP s (fun a l => obP dpF s k2 a deep l) q (blA s (a : Int)) (65536 - n) ks acc = some (mkO 7 0 false ⟨#[]⟩ (ks ++ l.map fun x => Dat.str x.2.1) (acc ++ acc'), ((a + (dicL k l).length + 2 : Nat) : Int), 65536 - cntG k nest (l.map (·.2.2)) n) ∧ allEq (sameO k) acc' (l.map (·.2.2)) = true
  | l, 0, a, n, ks, acc, _, _, _, _, _, h, _ => by omega
  | [], q + 1, a, n, ks, acc, _, _, _, _, _, _, h => by
    have h : rest s a = [] ++ 62 :: (62 :: r) := h
    obtain ⟨e1, e2⟩ := bl_skip h (by simp) (by decide +kernel)
    have e1 : blA s (a : Int) = (a : Int) := e1
    have e2 : rest s a = 62 :: 62 :: r := e2
    refine ⟨[], ?_, rfl⟩
    unfold dcP
    rw [e1, isB_rest e2, show (a : Int) + 1 = ((a + 1 : Nat) : Int) by omega, isB_rest (rest_tl e2)]
    show some (mkO 7 0 false ⟨#[]⟩ ks acc, (a : Int) + 2, 65536 - n) = some (mkO 7 0 false ⟨#[]⟩ (ks ++ []) (acc ++ []), _, _)
    rw [List.append_nil, List.append_nil]
    rfl
  | x :: l, q + 1, a, n, ks, acc, hb, hnm, hh, hn0, hn, hq, h => by
    rw [List.length_cons] at hq
    rw [dicL_cons, List.append_assoc, List.cons_append, List.append_assoc, List.cons_append, List.append_assoc] at h
    obtain ⟨hH, hR⟩ := hh x (by simp)
    obtain ⟨⟨c, t, t1, t2, t3⟩, _⟩ := hH
    obtain ⟨e1, e2⟩ := bl_skip h (hb x (by simp)) (by decide +kernel)
    have e3 := rest_tl e2
    have hnmA := nmA_read (fun c r' e => by injection e with e _; rw [← e]; decide +kernel) e3
    have e4 := rest_app e3
    have e5 : rest s (a + x.1.length + 1 + (x.2.1.data.toList.flatMap escU).length) = [32] ++ (c :: (t ++ (dicL k l ++ (62 :: 62 :: r)))) := by rw [e4, t1]; rfl
    have e6 : blA s ((a + x.1.length + 1 + (x.2.1.data.toList.flatMap escU).length : Nat) : Int) = ((a + x.1.length + 1 + (x.2.1.data.toList.flatMap escU).length + 1 : Nat) : Int) := (bl_skip e5 (by decide +kernel) t2).1
    have e8 : rest s (a + x.1.length + 1 + (x.2.1.data.toList.flatMap escU).length + 1) = txtU k x.2.2 ++ (dicL k l ++ (62 :: 62 :: r)) := rest_tl e4
    have hs : safe (dicL k l ++ (62 :: 62 :: r)) := by
      cases l with
      | nil => exact safe_delim (by decide +kernel) (by decide +kernel)
      | cons y l =>
        rw [dicL_cons, List.append_assoc, List.cons_append]
        exact safe_end (hb y (by simp)) (by decide +kernel) (by decide +kernel)
    have hm : (x :: l).map (·.2.2) = x.2.2 :: l.map (·.2.2) := rfl
    rw [hm] at hn ⊢
    obtain ⟨k1, k3⟩ := cntG_cons hn0 hn
    rw [k3] at hn ⊢
    obtain ⟨d', f1, f2⟩ := hR s _ _ n e8 hs hn0 k1
    obtain ⟨acc', g1, g2⟩ := dc_read hdp l q (a + x.1.length + 1 + (x.2.1.data.toList.flatMap escU).length + 1 + (txtU k x.2.2).length) (goodO k x.2.2 nest n) (ks ++ [Dat.str x.2.1]) (acc ++ [nrm d']) (fun y hy => hb y (by simp [hy])) (fun y hy => hnm y (by simp [hy])) (fun y hy => hh y (by simp [hy])) k1 hn (by omega) (rest_app e8)
    refine ⟨nrm d' :: acc', ?_, ?_⟩
    · unfold dcP
      rw [e1, isB_rest e2, show (((47 : UInt8).toNat : Int) == 62) = false from rfl, Bool.false_and, cond_false, isB_rest e2, show (((47 : UInt8).toNat : Int) == 47) = true from rfl, cond_true,
        show ((a + x.1.length : Nat) : Int) + 1 = ((a + x.1.length + 1 : Nat) : Int) by omega, hnmA]
      subst hdp
      dsimp only
      rw [e6, f1]
      dsimp only
      rw [intU_of, bs_data, g1, dicL_cons]
      simp only [List.map_cons, List.append_assoc, List.cons_append, List.nil_append, List.length_append, List.length_cons]
      congr 3
      congr 1
      omega
    · rw [allEq, sameO_nrm1, f2, g2]
      rfl
end Go.Proofs.YtckdgcpomkefpaaGreatDoor.En
end
section
set_option linter.unusedVariables false
set_option linter.unusedSimpArgs false
set_option maxRecDepth 100000
namespace Go.Proofs.YtckdgcpomkefpaaGreatDoor.En
open Go
theorem bare_zero {k n : Int} {b : Bool} {s : ByteArray} {ks l : List Dat} (h : bareB k n b s ks l = false) : ((k != 1) = true → b = false) ∧ (((k != 2) && ((k != 3) && (k != 8))) = true → n = 0) ∧ (((k != 4) && (k != 5)) = true → s.toList = []) ∧ ((k != 7) = true → ks = []) ∧ (((k != 6) && (k != 7)) = true → l = []) := by
  unfold bareB at h
  rw [Bool.or_eq_false_iff, Bool.or_eq_false_iff, Bool.or_eq_false_iff, Bool.or_eq_false_iff] at h
  obtain ⟨⟨⟨⟨h1, h2⟩, h3⟩, h4⟩, h5⟩ := h
  refine ⟨fun hk => ?_, fun hk => ?_, fun hk => ?_, fun hk => ?_, fun hk => ?_⟩
  · rw [hk, Bool.and_true] at h1
    exact h1
  · rw [Bool.and_eq_true, Bool.and_eq_true] at hk
    rw [hk.1, hk.2.1, hk.2.2, Bool.and_true, Bool.and_true, Bool.and_true] at h2
    simpa using h2
  · rw [Bool.and_eq_true] at hk
    rw [hk.1, hk.2, Bool.and_true, Bool.and_true] at h3
    have e : (⟨#[]⟩ : ByteArray).toList = [] := by rw [Lib.toList_data]
    rw [e] at h3
    simpa using h3
  · rw [hk, Bool.and_true, decide_eq_false_iff_not] at h4
    exact List.length_eq_zero_iff.1 (by omega)
  · rw [Bool.and_eq_true] at hk
    rw [hk.1, hk.2, Bool.and_true, Bool.and_true, decide_eq_false_iff_not] at h5
    exact List.length_eq_zero_iff.1 (by omega)
theorem flat_bare {d : Dat} (h : flatD d = true) : bareB (d.at 0).toI (d.at 2).toI (d.at 1).toB (d.at 3).toS (d.at 4).toL (d.at 5).toL = false := by
  have h : (!bareB (d.at 0).toI (d.at 2).toI (d.at 1).toB (d.at 3).toS (d.at 4).toL (d.at 5).toL && kindB (d.at 0).toI (d.at 2).toI (d.at 3).toS (d.at 4).toL (d.at 5).toL) = true := h
  rw [Bool.and_eq_true, Bool.not_eq_true'] at h
  exact h.1
theorem good_flat : ∀ {k : Nat} {d : Dat} {nest ahead : Int}, 0 ≤ goodO k d nest ahead → ∃ j, k = j + 1 ∧ flatD d = true
  | 0, d, nest, ahead, h => by simp [goodO] at h
  | k + 1, d, nest, ahead, h => by
    refine ⟨k, rfl, ?_⟩
    unfold goodO at h
    cases hc : decide (ahead + 1 > 65536) || !flatD d
    · rw [Bool.or_eq_false_iff, Bool.not_eq_false'] at hc
      exact hc.2
    · rw [hc] at h; simp at h
theorem same_pl {k : Nat} {kk n k1 n1 : Int} {b b1 : Bool} {t s1 : ByteArray} {ks1 l1 : List Dat} (e1 : kk = k1) (e2 : b = b1) (e3 : n = n1) (e4 : t.toList = s1.toList) (e5 : ks1 = []) (e6 : l1 = []) :
    ((kk == k1) && ((b == b1) && ((n == n1) && ((t.toList == s1.toList) && (keysEq [] ks1 && allEq (sameO k) [] l1))))) = true := by
  subst e1 e2 e3 e5 e6
  rw [e4]
  simp [keysEq, allEq]
theorem wd_not {c : UInt8} (h : wdU c = true) : ((c.toNat : Int) == 47) = false ∧ ((c.toNat : Int) == 40) = false ∧ ((c.toNat : Int) == 91) = false ∧ ((c.toNat : Int) == 60) = false := by
  have := byte_tab (fun c => !wdU c || (!((c.toNat : Int) == 47) && (!((c.toNat : Int) == 40) && (!((c.toNat : Int) == 91) && !((c.toNat : Int) == 60))))) (by decide +kernel) c
  rw [h] at this
  simp only [Bool.not_true, Bool.false_or, Bool.and_eq_true, Bool.not_eq_true'] at this
  exact this
theorem obB_word {s : ByteArray} {a : Nat} {w r : List UInt8} {deep l : Int} {ob : Int → Int → Option ObR} (h : rest s a = w ++ r) (hw : ∀ c ∈ w, wdU c = true) (h0 : w ≠ []) (hl : 0 ≤ l) : obB dpF s ob (a : Int) deep l = sdS dpF s (sub' s (a : Int) (wdA s (a : Int))) (wdA s (a : Int)) l := by
  cases w with
  | nil => exact (h0 rfl).elim
  | cons c w =>
    have h : rest s a = c :: (w ++ r) := h
    obtain ⟨c1, c2, c3, c4⟩ := wd_not (hw c (by simp))
    have := rest_size h
    rw [← rest_bt h] at c1 c2 c3 c4
    exact obB_atom (by omega) hl c1 c2 c3 c4
theorem rest_at {s : ByteArray} {a : Nat} {c : UInt8} {t : List UInt8} (h : rest s a = c :: t) : (a : Int) < s.size ∧ bt s (a : Int) = (c.toNat : Int) := by
  have := rest_size h
  exact ⟨by omega, rest_bt h⟩
theorem txR_some {k : Int} {t : List UInt8} {p l : Int} : txR k (some (intU t, p)) l = some (plO k 0 false (bs t), p, l) := by
  unfold txR
  rw [Option.map_some, intU_of]
def sepZ : Bool → List Dat → List (List UInt8 × Dat)
  | _, [] => []
  | first, d :: r => ((bif first then [] else [32]), d) :: sepZ false r
theorem sepZ_text (k : Nat) : ∀ (first : Bool) (l : List Dat), ub (sepT (txtO k) first l) = sepL k (sepZ first l)
  | first, [] => rfl
  | first, d :: r => by
    rw [sepT_cons, ub_app, ub_app, sepZ_text k false r, sepZ, sepL_cons, List.append_assoc]
    cases first <;> rfl
theorem sepZ_len : ∀ (first : Bool) (l : List Dat), (sepZ first l).length = l.length
  | first, [] => rfl
  | first, d :: r => by rw [sepZ, List.length_cons, List.length_cons, sepZ_len]
theorem sepZ_map : ∀ (first : Bool) (l : List Dat), (sepZ first l).map (·.2) = l
  | first, [] => rfl
  | first, d :: r => by rw [sepZ, List.map_cons, sepZ_map]
theorem sepZ_mem : ∀ (first : Bool) (l : List Dat), ∀ x ∈ sepZ first l, (x.1 = [] ∨ x.1 = [32]) ∧ x.2 ∈ l
  | first, [], x, h => by cases h
  | first, d :: r, x, h => by
    rcases List.mem_cons.1 h with rfl | h
    · exact ⟨by cases first; exact .inr rfl; exact .inl rfl, by simp⟩
    · obtain ⟨h1, h2⟩ := sepZ_mem false r x h
      exact ⟨h1, by simp [h2]⟩
theorem sepZ_tail : ∀ (l : List Dat), ∀ x ∈ sepZ false l, x.1 ≠ []
  | [], x, h => by cases h
  | d :: r, x, h => by
    rcases List.mem_cons.1 h with rfl | h
    · exact fun e => by cases e
    · exact sepZ_tail r x h
theorem sepZ_tail' (first : Bool) (l : List Dat) : ∀ x ∈ (sepZ first l).tail, x.1 ≠ [] := by
  cases l with
  | nil => intro x h; cases h
  | cons d r => exact sepZ_tail r
def dicZ : Bool → List Dat → List Dat → List (List UInt8 × ByteArray × Dat)
  | first, key :: ks, d :: r => ((bif first then [] else [32]), (key.at 0).toS, d) :: dicZ false ks r
  | _, _, _ => []
theorem dicZ_text (k : Nat) : ∀ (first : Bool) (ks l : List Dat), ub (dicT (txtO k) first ks l) = dicL k (dicZ first ks l)
  | first, [], l => by unfold dicT dicZ; rfl
  | first, key :: ks, [] => by unfold dicT dicZ; rfl
  | first, key :: ks, d :: r => by
    rw [dicT_cons, ub_app, ub_app, ub_app, ub_app, dicZ_text k false ks r, dicZ, dicL_cons, ub_name]
    have e : ub (bif first then ([] : List Dat) else [Dat.int 32]) = (bif first then [] else [32]) := by cases first <;> rfl
    rw [e]
    simp only [List.append_assoc, List.cons_append]
    rfl
theorem dicZ_map : ∀ (first : Bool) (ks l : List Dat), ks.length = l.length → (dicZ first ks l).map (·.2.2) = l ∧ keysEq ((dicZ first ks l).map fun x => Dat.str x.2.1) ks = true ∧ (dicZ first ks l).length = l.length
  | first, [], [], h => ⟨rfl, rfl, rfl⟩
  | first, [], d :: r, h => by cases h
  | first, key :: ks, [], h => by cases h
  | first, key :: ks, d :: r, h => by
    obtain ⟨h1, h2, h3⟩ := dicZ_map false ks r (by simpa using h)
    refine ⟨by rw [dicZ, List.map_cons, h1], ?_, by rw [dicZ, List.length_cons, List.length_cons, h3]⟩
    rw [dicZ, List.map_cons, keysEq, h2, Bool.and_true]
    exact beq_self_eq_true _
theorem dicZ_mem : ∀ (first : Bool) (ks l : List Dat), ∀ x ∈ dicZ first ks l, (x.1 = [] ∨ x.1 = [32]) ∧ (∃ key ∈ ks, x.2.1 = (key.at 0).toS) ∧ x.2.2 ∈ l
  | first, [], l, x, h => by unfold dicZ at h; cases h
  | first, key :: ks, [], x, h => by unfold dicZ at h; cases h
  | first, key :: ks, d :: r, x, h => by
    rw [dicZ] at h
    rcases List.mem_cons.1 h with rfl | h
    · exact ⟨by cases first; exact .inr rfl; exact .inl rfl, ⟨key, by simp, rfl⟩, by simp⟩
    · obtain ⟨h1, ⟨y, hy, e⟩, h2⟩ := dicZ_mem false ks r x h
      exact ⟨h1, ⟨y, by simp [hy], e⟩, by simp [h2]⟩
theorem blank_mem {b : List UInt8} (h : b = [] ∨ b = [32]) : ∀ c ∈ b, blkU c = true := by
  rcases h with rfl | rfl
  · intro c hc; cases hc
  · decide +kernel
theorem good_form {k : Nat} {d : Dat} {nest n : Int} (hn : 0 ≤ n) (h : 0 ≤ goodO (k + 1) d nest n) : n + 1 ≤ 65536 ∧ (((d.at 0).toI == 6 || (d.at 0).toI == 7) = true → nest + 1 ≤ 32 ∧ 0 ≤ cntG k (nest + 1) (d.at 5).toL (n + 1) ∧ goodO (k + 1) d nest n = cntG k (nest + 1) (d.at 5).toL (n + 1)) ∧
    ((d.at 5).toL = [] → ((d.at 0).toI == 6 || (d.at 0).toI == 7) = false → goodO (k + 1) d nest n = n + 1) := by
  unfold goodO at h ⊢
  cases hc : decide (n + 1 > 65536) || !flatD d
  · rw [hc, cond_false] at h
    rw [Bool.or_eq_false_iff, decide_eq_false_iff_not] at hc
    rw [cond_false]
    refine ⟨by omega, fun hk => ?_, fun hl hk => ?_⟩
    · rw [hk, cond_true] at h ⊢
      cases hn : decide (nest + 1 > 32)
      · rw [hn, cond_false] at h
        rw [decide_eq_false_iff_not] at hn
        exact ⟨by omega, h, rfl⟩
      · rw [hn] at h; simp at h
    · rw [hk, hl]; rfl
  · rw [hc] at h; simp at h
theorem cnt_items {k : Nat} {nest n : Int} {l : List Dat} (hn : 0 ≤ n) (h : 0 ≤ cntG k nest l n) : n + l.length ≤ cntG k nest l n ∧ ∀ e ∈ l, HdD k e := by
  refine ⟨itemsG_mono (g := fun e n => goodO k e nest n) (fun e n hn he => goodO_mono k e nest n hn he) _ _ hn h, fun e he => ?_⟩
  obtain ⟨n', a1, a2⟩ := itemsG_all (g := fun e n => goodO k e nest n) (fun e n hn he => goodO_mono k e nest n hn he) _ _ hn h e he
  obtain ⟨j, rfl, hf⟩ := good_flat a2
  exact hd_of j e hf
theorem rb : ∀ (k : Nat) (d : Dat) (nest : Int), 0 ≤ nest → nest ≤ 32 → ∀ k2 : Nat, 33 ≤ nest + k2 → RdsD k k2 nest d
  | 0, d, nest, n0, n1, k2, hk2 => fun s a r n _ _ _ h => by simp [goodO] at h
  | k + 1, d, nest, n0, n1, 0, hk2 => by omega
  | k + 1, d, nest, n0, n1, k2 + 1, hk2 => by
    intro s a r n hrest hs hn h
    obtain ⟨g0, g1, g2⟩ := good_form hn h
    have hbd := (goodO_bd (k + 1) d nest n hn).2
    obtain ⟨_, _, hfl⟩ := good_flat h
    have hkb := kindB_of (show flatB (d.at 0).toI (d.at 2).toI (d.at 1).toB (d.at 3).toS (d.at 4).toL (d.at 5).toL = true from hfl)
    have hz := bare_zero (flat_bare hfl)
    have hit : ((d.at 0).toI == 6 || (d.at 0).toI == 7) = true → (n + 1) + (d.at 5).toL.length ≤ 65536 ∧ ∀ e ∈ (d.at 5).toL, HdD k e ∧ RdsD k k2 (nest + 1) e := fun hk => by
      obtain ⟨x1, x2, x3⟩ := g1 hk
      obtain ⟨y1, y2⟩ := cnt_items (by omega) x2
      exact ⟨by omega, fun e he => ⟨y2 e he, rb k e (nest + 1) (by omega) (by omega) k2 (by omega)⟩⟩
    rw [txtU_eq] at hrest ⊢
    rw [obP_succ]
    show ∃ d', obB dpF s (fun a l => obP dpF s k2 a (32 - nest - 1) l) (a : Int) (32 - nest) (65536 - n - 1) = some (d', ((a + (ub (txtK (txtO k) (d.at 0).toI (d.at 2).toI (d.at 1).toB (d.at 3).toS (d.at 4).toL (d.at 5).toL)).length : Nat) : Int), 65536 - goodO (k + 1) d nest n) ∧
      (((d'.at 0).toI == (d.at 0).toI) && (((d'.at 1).toB == (d.at 1).toB) && (((d'.at 2).toI == (d.at 2).toI) && (((d'.at 3).toS.toList == (d.at 3).toS.toList) && (keysEq (d'.at 4).toL (d.at 4).toL && allEq (sameO k) (d'.at 5).toL (d.at 5).toL))))) = true
    clear hbd hfl
    generalize goodO (k + 1) d nest n = v at h g1 g2 ⊢
    revert hrest g1 g2 hkb hz hit
    generalize (d.at 0).toI = k1
    generalize (d.at 2).toI = n1'
    generalize (d.at 1).toB = b1
    generalize (d.at 3).toS = s1
    generalize (d.at 4).toL = ks1
    generalize (d.at 5).toL = l1
    intro hrest hkb hz hit g1 g2
    obtain ⟨z1, z2, z3, z4, z5⟩ := hz
    have ez : (⟨#[]⟩ : ByteArray).toList = [] := by rw [Lib.toList_data]
    have hl0 : 0 ≤ 65536 - n - 1 := by omega
    have hv : ∀ x : Int, v = x + 1 → 65536 - x - 1 = 65536 - v := fun x e => by omega
    rcases kinds9 hkb with rfl | rfl | rfl | rfl | rfl | rfl | rfl | rfl | rfl
    · have e : ub (txtK (txtO k) 0 n1' b1 s1 ks1 l1) = nulT.data.toList := ub_to _
      rw [e] at hrest ⊢
      rw [← hv n (g2 (z5 rfl) rfl)]
      refine ⟨_, (obB_word hrest null_wd (by decide) hl0).trans (sd_null hs hrest _), ?_⟩
      exact same_pl rfl (z1 rfl).symm (z2 rfl).symm (ez.trans (z3 rfl).symm) (z4 rfl) (z5 rfl)
    · have e : ub (txtK (txtO k) 1 n1' b1 s1 ks1 l1) = (boolT b1).data.toList := ub_to _
      rw [e] at hrest ⊢
      rw [← hv n (g2 (z5 rfl) rfl)]
      cases b1
      · refine ⟨_, (obB_word hrest false_wd (by decide) hl0).trans (sd_false hs hrest _), ?_⟩
        exact same_pl rfl rfl (z2 rfl).symm (ez.trans (z3 rfl).symm) (z4 rfl) (z5 rfl)
      · refine ⟨_, (obB_word hrest true_wd (by decide) hl0).trans (sd_true hs hrest _), ?_⟩
        exact same_pl rfl rfl (z2 rfl).symm (ez.trans (z3 rfl).symm) (z4 rfl) (z5 rfl)
    · have hk : inB n1' = true := hkb
      obtain ⟨q0, q1⟩ := inB_bd hk
      have e : ub (txtK (txtO k) 2 n1' b1 s1 ks1 l1) = Lib.itoa n1' := ub_itS n1' (by omega) (by omega)
      rw [e] at hrest ⊢
      rw [← hv n (g2 (z5 rfl) rfl)]
      obtain ⟨m1, m2⟩ := itoa_num n1'
      refine ⟨_, (obB_word hrest (fun c hc => num_wd (m1 c hc)) m2 hl0).trans (sd_int hs hk hrest _), ?_⟩
      exact same_pl rfl (z1 rfl).symm rfl (ez.trans (z3 rfl).symm) (z4 rfl) (z5 rfl)
    · have hk : (inB n1' && (n1'.tmod 65536) != 0) = true := hkb
      rw [Bool.and_eq_true, bne_iff_ne] at hk
      have e : ub (txtK (txtO k) 3 n1' b1 s1 ks1 l1) = (fixT n1').data.toList := ub_to _
      rw [e] at hrest ⊢
      rw [← hv n (g2 (z5 rfl) rfl)]
      obtain ⟨m1, m2⟩ := fix_num n1'
      refine ⟨_, (obB_word hrest (fun c hc => num_wd (m1 c hc)) m2 hl0).trans (sd_fix hs hk.1 hk.2 hrest _), ?_⟩
      exact same_pl rfl (z1 rfl).symm rfl (ez.trans (z3 rfl).symm) (z4 rfl) (z5 rfl)
    · have e : ub (txtK (txtO k) 4 n1' b1 s1 ks1 l1) = 47 :: s1.data.toList.flatMap escU := ub_name s1
      rw [e] at hrest ⊢
      rw [← hv n (g2 (z5 rfl) rfl)]
      have hn := nmA_read hs.1 (rest_tl (c := 47) hrest)
      obtain ⟨r1, r2⟩ := rest_at (c := 47) hrest
      refine ⟨plO 4 0 false s1, ?_, ?_⟩
      · rw [obB_name r1 hl0 r2, show (a : Int) + 1 = ((a + 1 : Nat) : Int) by omega, hn, txR_some, bs_data, List.length_cons]
        congr 3
        congr 1
        omega
      · exact same_pl rfl (z1 rfl).symm (z2 rfl).symm rfl (z4 rfl) (z5 rfl)
    · have e : ub (txtK (txtO k) 5 n1' b1 s1 ks1 l1) = _ := ub_txt s1
      rw [e] at hrest ⊢
      rw [← hv n (g2 (z5 rfl) rfl)]
      refine ⟨plO 5 0 false s1, ?_, same_pl rfl (z1 rfl).symm (z2 rfl).symm rfl (z4 rfl) (z5 rfl)⟩
      cases hp : s1.data.toList.all shB
      · rw [hp, cond_false, List.cons_append, List.append_assoc] at hrest
        have hx := hxA_read (rest_tl (c := 60) hrest)
        obtain ⟨r1, r2⟩ := rest_at (c := 60) hrest
        have h6 : isB s ((a : Int) + 1) 60 = false := by
          rw [show (a : Int) + 1 = ((a + 1 : Nat) : Int) by omega]
          have h1 := rest_tl (c := 60) hrest
          cases ht : s1.data.toList with
          | nil =>
            rw [ht] at h1
            rw [isB_rest (c := 62) (r := r) h1]
            rfl
          | cons b t =>
            rw [ht] at h1
            rw [isB_rest (c := hiU b) h1]
            exact (hex_ok b).2.2.2.2
        rw [obB_hex r1 hl0 r2 h6, show (a : Int) + 1 = ((a + 1 : Nat) : Int) by omega, hx, txR_some, bs_data, cond_false, List.length_cons, List.length_append, List.length_singleton]
        congr 3
        congr 1
        omega
      · rw [hp, cond_true, List.cons_append, List.append_assoc] at hrest
        have hx := txA_read (rest_tl (c := 40) hrest)
        obtain ⟨r1, r2⟩ := rest_at (c := 40) hrest
        rw [obB_text r1 hl0 r2, show (a : Int) + 1 = ((a + 1 : Nat) : Int) by omega, hx, txR_some, bs_data, cond_true, List.length_cons, List.length_append, List.length_singleton]
        congr 3
        congr 1
        omega
    · obtain ⟨i1, i2⟩ := hit rfl
      obtain ⟨j1, j2, j3⟩ := g1 rfl
      subst j3
      have e : ub (txtK (txtO k) 6 n1' b1 s1 ks1 l1) = 91 :: (sepL k (sepZ true l1) ++ [93]) := by
        show 91 :: ub (sepT (txtO k) true l1 ++ [Dat.int 93]) = _
        rw [ub_app, sepZ_text]
        rfl
      rw [e] at hrest ⊢
      rw [List.cons_append, List.append_assoc] at hrest
      obtain ⟨r1, r2⟩ := rest_at (c := 91) hrest
      obtain ⟨acc', f1, f2⟩ := ar_read (k := k) (k2 := k2) (nest := nest + 1) (deep := 32 - nest - 1) (bl := []) (r := r) (by simp) (by omega) (sepZ true l1) ((65536 - (n + 1)).toNat + 2) (a + 1) (n + 1) [] (fun x hx => blank_mem (sepZ_mem true l1 x hx).1) (sepZ_tail' true l1) (fun x hx => i2 _ (sepZ_mem true l1 x hx).2) (by omega) (by rw [sepZ_map]; exact j2) (by rw [sepZ_len]; omega) (rest_tl (c := 91) hrest)
      rw [sepZ_map] at f1 f2
      refine ⟨mkO 6 0 false ⟨#[]⟩ [] ([] ++ acc'), ?_, ?_⟩
      · rw [obB_list r1 hl0 r2]
        unfold arR
        rw [decide_eq_true (by omega), cond_true, show (a : Int) + 1 = ((a + 1 : Nat) : Int) by omega, show 65536 - n - 1 = 65536 - (n + 1) by omega, f1, List.length_cons, List.length_append, List.length_singleton, List.length_nil]
        congr 3
        congr 1
        omega
      · obtain rfl : b1 = false := z1 rfl
        obtain rfl : n1' = 0 := z2 rfl
        obtain rfl : ks1 = [] := z4 rfl
        have e3 : (⟨#[]⟩ : ByteArray).toList = s1.toList := ez.trans (z3 rfl).symm
        show (((6 : Int) == 6) && ((false == false) && (((0 : Int) == 0) && (((⟨#[]⟩ : ByteArray).toList == s1.toList) && (keysEq [] [] && allEq (sameO k) ([] ++ acc') l1))))) = true
        rw [e3, List.nil_append, f2]
        simp [keysEq]
    · obtain ⟨i1, i2⟩ := hit rfl
      obtain ⟨j1, j2, j3⟩ := g1 rfl
      subst j3
      obtain ⟨c1, c2⟩ := kb7 hkb
      have hnm : ∀ x ∈ ks1, namedB (x.at 0).toS = true := by
        have h' : (bif ((ks1.length : Int) != l1.length) then false else keysR [] ks1) = true := hkb
        cases hc : ((ks1.length : Int) != l1.length)
        · rw [hc, cond_false] at h'
          exact keysR_nm _ _ h'
        · rw [hc] at h'; cases h'
      obtain ⟨m1, m2, m3⟩ := dicZ_map true ks1 l1 c1
      have e : ub (txtK (txtO k) 7 n1' b1 s1 ks1 l1) = 60 :: 60 :: (dicL k (dicZ true ks1 l1) ++ [62, 62]) := by
        show ub ((bytesTo ⟨#[60, 60]⟩ ++ dicT (txtO k) true ks1 l1) ++ bytesTo ⟨#[62, 62]⟩) = _
        rw [ub_app, ub_app, dicZ_text, ub_to, ub_to]
        rfl
      rw [e] at hrest ⊢
      rw [List.cons_append, List.cons_append, List.append_assoc] at hrest
      obtain ⟨r1, r2⟩ := rest_at (c := 60) hrest
      obtain ⟨acc', f1, f2⟩ := dc_read (k := k) (k2 := k2) (nest := nest + 1) (deep := 32 - nest - 1) (r := r) (by omega) (dicZ true ks1 l1) ((65536 - (n + 1)).toNat + 2) (a + 1 + 1) (n + 1) [] [] (fun x hx => blank_mem (dicZ_mem true ks1 l1 x hx).1)
        (fun x hx => by obtain ⟨_, ⟨key, hk, e⟩, _⟩ := dicZ_mem true ks1 l1 x hx; rw [e]; exact hnm key hk) (fun x hx => i2 _ (dicZ_mem true ks1 l1 x hx).2.2) (by omega) (by rw [m1]; exact j2) (by rw [m3]; omega) (rest_tl (rest_tl (c := 60) hrest))
      rw [m1] at f1 f2
      refine ⟨mkO 7 0 false ⟨#[]⟩ ([] ++ (dicZ true ks1 l1).map fun x => Dat.str x.2.1) ([] ++ acc'), ?_, ?_⟩
      · have h6 : isB s ((a : Int) + 1) 60 = true := by rw [show (a : Int) + 1 = ((a + 1 : Nat) : Int) by omega, isB_rest (rest_tl (c := 60) hrest)]; rfl
        rw [obB_dict r1 hl0 r2 h6]
        unfold dcR
        rw [decide_eq_true (by omega), cond_true, show (a : Int) + 2 = ((a + 1 + 1 : Nat) : Int) by omega, show 65536 - n - 1 = 65536 - (n + 1) by omega, f1, List.length_cons, List.length_cons, List.length_append]
        congr 3
        congr 1
        show a + 1 + 1 + _ + 2 = a + (_ + 2 + 1 + 1)
        omega
      · obtain rfl : b1 = false := z1 rfl
        obtain rfl : n1' = 0 := z2 rfl
        have e3 : (⟨#[]⟩ : ByteArray).toList = s1.toList := ez.trans (z3 rfl).symm
        show (((7 : Int) == 7) && ((false == false) && (((0 : Int) == 0) && (((⟨#[]⟩ : ByteArray).toList == s1.toList) && (keysEq ([] ++ (dicZ true ks1 l1).map fun x => Dat.str x.2.1) ks1 && allEq (sameO k) ([] ++ acc') l1))))) = true
        rw [e3, List.nil_append, List.nil_append, f2, m2]
        simp
    · have hk : (decide (n1' ≥ 1) && decide (n1' ≤ 4096)) = true := hkb
      rw [Bool.and_eq_true, decide_eq_true_eq, decide_eq_true_eq] at hk
      have e : ub (txtK (txtO k) 8 n1' b1 s1 ks1 l1) = Lib.itoa n1' ++ [32, 48, 32, 82] := ub_ref n1' (by omega) (by omega)
      rw [e] at hrest ⊢
      rw [← hv n (g2 (z5 rfl) rfl)]
      obtain ⟨m1, m2⟩ := itoa_num n1'
      have hr2 := hrest
      rw [List.append_assoc] at hr2
      refine ⟨plO 8 n1' false ⟨#[]⟩, (obB_word hr2 (fun c hc => num_wd (m1 c hc)) m2 hl0).trans ((sd_ref hs.1 hk.1 hk.2 hrest _).trans ?_), ?_⟩
      · rw [List.length_append]
        rfl
      · exact same_pl rfl (z1 rfl).symm rfl (ez.trans (z3 rfl).symm) (z4 rfl) (z5 rfl)
end Go.Proofs.YtckdgcpomkefpaaGreatDoor.En
end
section
set_option linter.unusedVariables false
set_option linter.unusedSimpArgs false
set_option maxRecDepth 100000
namespace Go.Proofs.YtckdgcpomkefpaaGreatDoor.En
open Go
def pR (s : ByteArray) (e : Int) : Option Out := some (.ret (.tup [S s, I e]) [none])
noncomputable def prC : CallF := addF 24 GoodE (addF 45 (writeE 101) (addF 46 blE (addF 47 strE fun _ _ _ => none)))
theorem prC_sound : SoundCall PR prC := sound_both Good_sound (sound_both (write_sound 101) (bl_sound (str_sound sound_none)))
section
variable (m : Nat) (k1 n1 : Int) (b1 : Bool) (s1 : ByteArray) (ks1 l1 : List Dat)
theorem print_0 : evFn PR TK prC m 29 [.agg (obA k1 n1 b1 s1 ks1 l1)] [none] =
  bif decP (okO' 101 ks1 l1 32 65536) then (bif !(ogO 101 (mkO k1 n1 b1 s1 ks1 l1) 32 65536).1 then pR ⟨#[]⟩ 50 else
    (bif decP (okWr 101 (mkO k1 n1 b1 s1 ks1 l1) []) then (bif decide (((wrO 101 (mkO k1 n1 b1 s1 ks1 l1) []).length : Int) > 1048576) then pR ⟨#[]⟩ 2 else
      (bif bytesOk (wrO 101 (mkO k1 n1 b1 s1 ks1 l1) []) && (Nat.blt 0 (wrO 101 (mkO k1 n1 b1 s1 ks1 l1) []).length && Nat.ble (wrO 101 (mkO k1 n1 b1 s1 ks1 l1) []).length 9223372036854775807) then pR (bytesOf (wrO 101 (mkO k1 n1 b1 s1 ks1 l1) [])) 0 else none)) else none)) else none := by kernel_rfl
end
noncomputable def printS (d : Dat) : ByteArray := bif decide (goodO 101 d 0 0 > 0) then (bif decide (((txtO 101 d).length : Int) > 1048576) then ⟨#[]⟩ else bytesOf (txtO 101 d)) else ⟨#[]⟩
noncomputable def printF (d : Dat) : Int := bif decide (goodO 101 d 0 0 > 0) then (bif decide (((txtO 101 d).length : Int) > 1048576) then 2 else 0) else 50
def okPr (ks l : List Dat) : Prop := fitO 101 ks l ∧ keyZ 101 ks l
noncomputable def printE : List AV → Bx → Option (Bool × Out)
  | [.agg [.v (.int .i64 k1), .v (.bool b1), .v (.int .i64 n1), .v (.string s1), .row none 9 ks1, .row none 43 l1]], [none] =>
    some (decP (okPr ks1 l1), .ret (.tup [S (printS (mkO k1 n1 b1 s1 ks1 l1)), I (printF (mkO k1 n1 b1 s1 ks1 l1))]) [none])
  | _, _ => none
theorem bytesOk_of {l : List Dat} (h : isBy l) : bytesOk l = true := by
  unfold bytesOk
  rw [List.all_eq_true]
  intro d hd
  obtain ⟨b, rfl⟩ := h d hd
  have := b.toNat_lt
  rw [Bool.and_eq_true, decide_eq_true_eq, decide_eq_true_eq]
  show (0 : Int) ≤ (b.toNat : Int) ∧ (b.toNat : Int) < 256
  omega
theorem print_run {m : Nat} {k1 n1 : Int} {b1 : Bool} {s1 : ByteArray} {ks1 l1 : List Dat} (h : okPr ks1 l1) :
    evFn PR TK prC m 29 [.agg (obA k1 n1 b1 s1 ks1 l1)] [none] = pR (printS (mkO k1 n1 b1 s1 ks1 l1)) (printF (mkO k1 n1 b1 s1 ks1 l1)) := by
  have hok : okO' 101 ks1 l1 32 65536 := ⟨h.1, h.2, by decide, by decide, by decide, by decide⟩
  rw [print_0, decP_eq hok, cond_true, Good_eq]
  unfold printS printF
  generalize mkO k1 n1 b1 s1 ks1 l1 = d
  by_cases hg : goodO 101 d 0 0 > 0
  · have hw := okWr_good hg
    have hl := txtO_len 101 d 0 0 (by omega) (by omega)
    have hb := (goodO_bd 101 d 0 0 (by omega)).2
    have far := wrO_far 101 d [] [] (asFar.refl _)
    rw [List.nil_append] at far
    obtain ⟨h1, h2, h3⟩ := far
    rw [decide_eq_true hg, Bool.not_true, cond_false, decP_eq hw, cond_true, cond_true, cond_true]
    by_cases hs : 1048576 < (txtO 101 d).length
    · have := h3 hs
      rw [decide_eq_true (show ((wrO 101 d []).length : Int) > 1048576 by omega), decide_eq_true (show ((txtO 101 d).length : Int) > 1048576 by omega)]
      rfl
    · rw [h2 (by omega), decide_eq_false (show ¬ ((txtO 101 d).length : Int) > 1048576 by omega), cond_false, cond_false, cond_false, bytesOk_of (isBy_txtO 101 d), show Nat.blt 0 (txtO 101 d).length = true from Nat.ble_eq_true_of_le hl.2, Nat.ble_eq_true_of_le (by omega)]
      rfl
  · rw [decide_eq_false hg]; rfl
theorem print_sound {ext : CallF} (hext : SoundCall PR ext) : SoundCall PR (addF 29 printE ext) := by
  refine sound_both (sound_add (takes := TK) hmixP prC_sound _ (fn := (PR.funcs[29]?).getD default) (by kernel_rfl) (by kernel_rfl) printE fun xs bs out h => ?_) hext
  unfold printE at h
  split at h
  · injection h with h
    injection h with h1 h2
    subst h2
    exact ⟨1, print_run (decP_of h1)⟩
  · cases h
end Go.Proofs.YtckdgcpomkefpaaGreatDoor.En
end
section
set_option linter.unusedVariables false
set_option linter.unusedSimpArgs false
set_option maxRecDepth 100000
namespace Go.Proofs.YtckdgcpomkefpaaGreatDoor.En
open Go Go.RowKit
def ksO : List CK := [.int .i64, .bool, .int .i64, .str, .row 9, .row 43]
theorem kinds_O : kinds PR 43 = some ksO := by kernel_rfl
theorem kinds_S : kinds PR 9 = some [.str] := by kernel_rfl
theorem bytes_O : PR.bytesOf 43 = 88 := by kernel_rfl
theorem bytes_S : PR.bytesOf 9 = 16 := by kernel_rfl
theorem reach_le : reachBytes ≤ 140737488355328 := of_decide_eq_true (by kernel_rfl)
theorem sz_str {d : Dat} (h : Sz PR .str d) : d.toS.size ≤ 140737488355328 := by
  cases h with
  | str d h => exact Nat.le_trans h reach_le
theorem sz_keys {d : Dat} (h : Sz PR (.row 9) d) : d.toL.length ≤ 140737488355328 ∧ ∀ e ∈ d.toL, (e.at 0).toS.size ≤ 140737488355328 := by
  cases h with
  | row E ks d hk hl hc =>
    rw [bytes_S] at hl
    rw [kinds_S] at hk
    cases hk
    refine ⟨?_, fun e he => sz_str (hc e he 0 .str rfl)⟩
    have := reach_le
    omega
theorem fitZ_of {s : ByteArray} {ks l : List Dat} (hs : s.size ≤ 140737488355328) (hk : ks.length ≤ 140737488355328 ∧ ∀ e ∈ ks, (e.at 0).toS.size ≤ 140737488355328) : ∀ (n : Nat) (d : Dat), l = d.toL → Sz PR (.row 43) d → fitZ n s ks l := by
  intro n
  induction n generalizing s ks l with
  | zero => intro d _ _; trivial
  | succ n ih =>
    intro d e h
    subst e
    cases h with
    | row E ks' d hk' hl hc =>
      rw [bytes_O] at hl
      rw [kinds_O] at hk'
      cases hk'
      have := reach_le
      refine ⟨hs, hk.1, by omega, hk.2, fun e he => ?_⟩
      exact ih (sz_str (hc e he 3 .str rfl)) (sz_keys (hc e he 4 _ rfl)) (e.at 5) rfl (hc e he 5 _ rfl)
theorem obj_opn {W : World} {ds : List Dat} {cs : Array Value} (h : Opn PR W ksO ds cs.toList) : ∃ (k n : Int) (b : Bool) (s : ByteArray) (ks l : List Dat), RepS PR (g0 W) W (.agg (obA k n b s ks l)) (.agg cs) ∧ ∀ j, fitZ j s ks l := by
  obtain ⟨e0, e1, e2, e3, e4, e5, rfl⟩ : ∃ e0 e1 e2 e3 e4 e5, ds = [e0, e1, e2, e3, e4, e5] := by
    have := h.ld
    match ds, this with
    | [e0, e1, e2, e3, e4, e5], _ => exact ⟨_, _, _, _, _, _, rfl⟩
  refine ⟨e0.toI, e2.toI, e1.toB, e3.toS, e4.toL, e5.toL, agg_rep h, fun j => ?_⟩
  have sz : ∀ (j : Nat) k d, ksO[j]? = some k → [e0, e1, e2, e3, e4, e5][j]? = some d → Sz PR k d := fun j k d h1 h2 => by
    have hj := (List.getElem?_eq_some_iff.1 h1).1
    exact (h.each j k d _ h1 h2 (List.getElem?_eq_getElem (l := cs.toList) (i := j) (by rw [h.lc]; exact hj))).sz
  exact fitZ_of (sz_str (sz 3 _ _ rfl rfl)) (sz_keys (sz 4 _ _ rfl rfl)) j e5 rfl (sz 5 _ _ rfl rfl)
end Go.Proofs.YtckdgcpomkefpaaGreatDoor.En
end
section
set_option linter.unusedVariables false
set_option linter.unusedSimpArgs false
set_option maxRecDepth 100000
namespace Go.Proofs.YtckdgcpomkefpaaGreatDoor.En
open Go Go.RowKit
def big (k1 n1 : Int) (b1 : Bool) (s1 : ByteArray) (ks1 l1 : List Dat) : Bool := decide (largeO 102 (mkO k1 n1 b1 s1 ks1 l1) 0 0 < 0)
def cp (l : List Dat) : List Dat := l.map (copyO 100)
section
variable (m : Nat) (k1 n1 k2 n2 : Int) (b1 b2 : Bool) (s1 s2 : ByteArray) (ks1 l1 ks2 l2 : List Dat)
end
theorem sameO_refl : ∀ (k : Nat) (d : Dat), fitO k (d.at 4).toL (d.at 5).toL → sameO k d d = true
  | 0, d, h => h.elim
  | k + 1, d, h => by
    obtain ⟨h1, h2, h3⟩ := h
    have hl : ∀ l : List Dat, (∀ e ∈ l, fitO k (e.at 4).toL (e.at 5).toL) → allEq (sameO k) l l = true := fun l => by
      induction l with
      | nil => intro _; rfl
      | cons e l ih =>
        intro hl
        rw [allEq, sameO_refl k e (hl e (by simp)), ih fun x hx => hl x (by simp [hx])]
        rfl
    unfold sameO
    rw [hl _ h3, keysEq_refl]
    simp
theorem flatB_len {k1 n1 : Int} {b1 : Bool} {s1 : ByteArray} {ks1 l1 l2 : List Dat} (h : l1.length = l2.length) : flatB k1 n1 b1 s1 ks1 l1 = flatB k1 n1 b1 s1 ks1 l2 := by
  unfold flatB bareB kindB
  rw [h]
theorem goodO_copy : ∀ (k : Nat) (d : Dat) (nest ahead : Int), goodO k (copyO k d) nest ahead = goodO k d nest ahead
  | 0, d, nest, ahead => rfl
  | k + 1, d, nest, ahead => by
    have hl : ∀ (nest : Int) (l : List Dat) (n : Int), itemsG (fun e n => goodO k e nest n) (l.map (copyO k)) n = itemsG (fun e n => goodO k e nest n) l n := fun nest l => by
      induction l with
      | nil => intro n; rfl
      | cons d l ih =>
        intro n
        rw [List.map_cons]
        show (bif decide (goodO k (copyO k d) nest n < 0) then -1 else itemsG (fun e n => goodO k e nest n) (l.map (copyO k)) (goodO k (copyO k d) nest n)) = (bif decide (goodO k d nest n < 0) then -1 else itemsG (fun e n => goodO k e nest n) l (goodO k d nest n))
        rw [goodO_copy k d, ih]
    have hf : flatD (copyO (k + 1) d) = flatD d := flatB_len (by show ((d.at 5).toL.map (copyO k)).length = _; rw [List.length_map])
    unfold goodO
    rw [hf]
    show (bif decide (ahead + 1 > 65536) || !flatD d then -1 else bif (d.at 0).toI == 6 || (d.at 0).toI == 7 then (bif decide (nest + 1 > 32) then -1 else itemsG (fun e n => goodO k e (nest + 1) n) ((d.at 5).toL.map (copyO k)) (ahead + 1)) else itemsG (fun e n => goodO k e nest n) ((d.at 5).toL.map (copyO k)) (ahead + 1)) = _
    rw [hl, hl]
theorem keyZ_copy : ∀ (k j : Nat) (ks l : List Dat), keyZ k ks l → keyZ k ks (l.map (copyO j))
  | 0, j, ks, l, h => trivial
  | k + 1, j, ks, l, h => by
    refine ⟨h.1, fun e he => ?_⟩
    obtain ⟨d, hd, rfl⟩ := List.mem_map.1 he
    have := h.2 d hd
    cases j with
    | zero => exact this
    | succ j => exact keyZ_copy k j (d.at 4).toL (d.at 5).toL this
theorem keyZ_of : ∀ (k : Nat) (s : ByteArray) (ks l : List Dat), fitZ k s ks l → keyZ k ks l
  | 0, s, ks, l, _ => trivial
  | k + 1, s, ks, l, h => by
    obtain ⟨h1, h2, h3, h4, h5⟩ := h
    exact ⟨fun d hd => Nat.le_trans (h4 d hd) (by unfold maxLen; decide), fun d hd => keyZ_of k _ _ _ (h5 d hd)⟩
end Go.Proofs.YtckdgcpomkefpaaGreatDoor.En
end
section
set_option linter.unusedVariables false
set_option linter.unusedSimpArgs false
set_option maxRecDepth 100000
namespace Go.Proofs.YtckdgcpomkefpaaGreatDoor.En
open Go Go.RowKit
noncomputable def callBk : CallF := addF 23 wakesE (addF 22 LargeE (addF 25 (copyE 101) (addF 29 printE (addF 31 (paE dpF) (addF 24 GoodE (addF 28 (sameE 101) fun _ _ _ => none))))))
theorem callBk_sound : SoundCall PR callBk :=
  sound_both wakes_sound (sound_both Large_sound (sound_both (copy_sound sound_none 101) (print_sound (pa_sound dpF (dpF_sound sound_none) (sound_both Good_sound (same_sound sound_none 101))))))
def bT (b : Bool) : Option Out := some (.ret (B b) [none, none])
noncomputable def paK0 (u : ByteArray) (K : Dat → Int → Int → Option Out) : Option Out := bif Nat.ble u.size 1000000 then
  (bif (decide ((0 : Int) < 0) || decide ((0 : Int) > (u.size : Int))) then K (plO 0 0 false ⟨#[]⟩) 0 1 else bif (paO dpF u 0).isSome then K (rvP (paO dpF u 0)).1 (rvP (paO dpF u 0)).2 0 else K (plO 0 0 false ⟨#[]⟩) 0 50) else none
noncomputable def sameQ (d e : Dat) : Option Bool := bif fitB 101 (d.at 4).toL (d.at 5).toL then some (sameO 101 (nrm d) (nrm e)) else none
noncomputable def bk4 (s u : ByteArray) (x : Dat) (next g : Int) (y : Dat) (e h : Int) : Option Out :=
  bif decP (okO' 101 (x.at 4).toL (x.at 5).toL 32 65536) then andK (ogO 101 (nrm x) 32 65536).1 (decide (next > 0)) fun t => andK t (decide (next ≤ (s.size : Int))) fun t => andK t (g == 0) fun t => andK t (h == 0) fun t => andK t (e == (u.size : Int)) fun t =>
    andO t (sameQ x y) (fun t => andK t true bT) else none
noncomputable def bk3 (s : ByteArray) (x : Dat) (next f : Int) : Option Out := bif f != 0 then andO (next == 0) (sameQ x (plO 0 0 false ⟨#[]⟩)) fun t => andK t true bT else
  bif decP (okPr (x.at 4).toL (x.at 5).toL) then paK0 (printS (nrm x)) (bk4 s (printS (nrm x)) x next (printF (nrm x))) else none
noncomputable def bk2 (s : ByteArray) : Option Out := paK0 s (bk3 s)
noncomputable def bk1 (s t : ByteArray) (o : Dat) (x : Dat) (next f : Int) : Option Out := orK (f != 0) (next != (t.size : Int)) fun b => orO b (bif fitB 101 (x.at 4).toL (x.at 5).toL then some (!(sameO 101 (nrm x) (nrm o))) else none) fun b => bif b then bT false else bk2 s
noncomputable def bk0 (s t : ByteArray) (f : Int) (o : Dat) : Option Out := bif f == 0 then glueO t ⟨#[32]⟩ (fun u => paK0 u (bk1 s t o)) else bk2 s
theorem back_0 (m : Nat) (k1 n1 : Int) (b1 : Bool) (s1 : ByteArray) (ks1 l1 : List Dat) (s : ByteArray) : evFn PR TK callBk m 8 [.agg (obA k1 n1 b1 s1 ks1 l1), S s] [none, none] =
  bif zB 102 s1 ks1 l1 0 0 then orK (big k1 n1 b1 s1 ks1 l1) (decide ((s.size : Int) > 20000)) fun t => bif t then bT true else
    bif fitB 101 ks1 l1 then (bif decP (okPr ks1 (cp l1)) then bk0 s (printS (mkO k1 n1 b1 s1 ks1 (cp l1))) (printF (mkO k1 n1 b1 s1 ks1 (cp l1))) (mkO k1 n1 b1 s1 ks1 l1) else none) else none else none := by kernel_rfl
end Go.Proofs.YtckdgcpomkefpaaGreatDoor.En
end
