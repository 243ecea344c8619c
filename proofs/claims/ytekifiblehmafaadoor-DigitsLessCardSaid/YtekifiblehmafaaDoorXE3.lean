/- The program's 'Near' (any decimal as the nearest length): what its call comes to, for every text. -/
import Derived.Test.YtekifiblehmafaaDoorXE2
import Derived.Deep.QuietTactic
import Derived.BigQuiet
import Derived.Deep.RegionWith
namespace Go.Proofs.YtekifiblehmafaaDoor.X
open Go.RowKit Go.Proofs.YtekifiblehmafaaDoorW.PrintWords Go.Proofs.YtekifiblehmafaaDoorW.PrintLast Go.Proofs.YtekifiblehmafaaDoorW.PrintMore
set_option linter.unusedVariables false
set_option linter.unusedSimpArgs false

def decVal (l : List UInt8) : Nat := l.foldl (fun n c => 10 * n + (c.toNat - 48)) 0
def bs (l : List UInt8) : ByteArray := ⟨l.toArray⟩
/-- What stands behind the sign, and is there one? -/
def signless (s : ByteArray) : ByteArray := bs (Lib.trimPrefix s.data.toList [45])
def signed (s : ByteArray) : Bool := Lib.hasPrefix s.data.toList [45]
def wholeOf (t : ByteArray) : ByteArray := bs (Lib.cut t.data.toList [46]).1
def partOf (t : ByteArray) : ByteArray := bs (Lib.cut t.data.toList [46]).2.1
def pointed (t : ByteArray) : Bool := (Lib.cut t.data.toList [46]).2.2
def bare (t : ByteArray) : ByteArray := bs (Lib.trimLeftB t.data.toList 48)
/-- The length without its sign, rounded. -/
def lenOf (below : Bool) (whole part : ByteArray) : Int :=
  let n : Int := (decVal whole.data.toList : Int) * 65536 + (dblOut part).1
  if (dblOut part).2 > 0 ∨ ((dblOut part).2 = 0 ∧ below = false) then n + 1 else n
def nearEnd (below : Bool) (n : Int) : Int × Int :=
  if n ≤ 1099511627776 then (if below then -n else n, 0) else (0, 3)
def nearOut (s : ByteArray) : Int × Int :=
  if s.size > 40 then (0, 2)
  else if allDig (wholeOf (signless s)) = false ∨ (pointed (signless s) = true ∧ allDig (partOf (signless s)) = false) then (0, 20)
  else if (bare (wholeOf (signless s))).size > 8 then (0, 3)
  else nearEnd (signed s) (lenOf (signed s) (bare (wholeOf (signless s))) (partOf (signless s)))

theorem decVal_append (l : List UInt8) (c : UInt8) : decVal (l ++ [c]) = 10 * decVal l + (c.toNat - 48) := by simp [decVal]
theorem decVal_snoc (v : ByteArray) (pos : Nat) (hp : pos < v.size) : decVal (v.data.toList.take (pos + 1)) = 10 * decVal (v.data.toList.take pos) + ((v[pos]'hp).toNat - 48) := by
  rw [List.take_succ_eq_append_getElem (by rw [data_length]; exact hp), decVal_append]
  rfl
theorem decVal_bound_from : ∀ (l : List UInt8) (n k : Nat), n < 10 ^ k → (∀ c ∈ l, isDig c = true) → l.foldl (fun n c => 10 * n + (c.toNat - 48)) n < 10 ^ (k + l.length)
  | [], n, k, hn, _ => by simpa using hn
  | c :: l, n, k, hn, h => by
    have h2 := h c (by simp)
    unfold isDig at h2; simp at h2
    have h3 := decVal_bound_from l (10 * n + (c.toNat - 48)) (k + 1) (by rw [Nat.pow_succ]; omega) (fun x hx => h x (by simp [hx]))
    simp only [List.foldl_cons, List.length_cons]
    rw [show k + (l.length + 1) = k + 1 + l.length from by omega]
    exact h3
theorem decVal_bound (l : List UInt8) (h : ∀ c ∈ l, isDig c = true) : decVal l < 10 ^ l.length := by
  have := decVal_bound_from l 0 0 (by simp) h
  simpa [decVal] using this
theorem dblOut_bound (s : ByteArray) (h : s.data.toList.all isDig = true) : 0 ≤ (dblOut s).1 ∧ (dblOut s).1 < 65536 ∧ ((dblOut s).2 = -1 ∨ (dblOut s).2 = 0 ∨ (dblOut s).2 = 1) := by
  have hb := drounds_bound _ (digs_small s h) 17
  rw [dblOut_eq]
  generalize (drounds 17 (digs s, 0)).2 = n at *
  refine ⟨by simp only; omega, by simp only; omega, ?_⟩
  simp only
  repeat' split
  all_goals simp

theorem bs_size (l : List UInt8) : (bs l).size = l.length := rfl
theorem signless_size (s : ByteArray) : (signless s).size ≤ s.size := by
  unfold signless Lib.trimPrefix
  rw [bs_size, ← data_length s]
  split
  · rw [List.length_drop]; omega
  · exact Nat.le_refl _
theorem partOf_size (s : ByteArray) : (partOf s).size ≤ s.size := by
  unfold partOf Lib.cut
  rw [bs_size, ← data_length s]
  split
  · rw [List.length_drop]; omega
  · simp
theorem partOf_none (t : ByteArray) (h : false = pointed t) : (partOf t).data.toList = [] := by
  unfold pointed Lib.cut at h
  unfold partOf Lib.cut
  split at h
  · cases h
  · rename_i hh; rw [if_neg hh]; rfl
theorem allDig_all (s : ByteArray) (h : allDig s = true) : s.data.toList.all isDig = true := by
  unfold allDig at h
  rw [Bool.and_eq_true] at h
  exact h.2
theorem bare_digits (wh : ByteArray) (h : allDig wh = true) : ∀ j (hj : j < (bare wh).size), isDig ((bare wh)[j]'hj) = true := by
  intro j hj
  have h1 := List.all_eq_true.1 (allDig_all wh h)
  exact h1 _ ((List.dropWhile_sublist (fun y : UInt8 => y == 48) (l := wh.data.toList)).subset (List.getElem_mem (l := Lib.trimLeftB wh.data.toList 48) hj))
def lenR (below : Bool) (n r : Int) : Int := if r > 0 ∨ (r = 0 ∧ below = false) then n + 1 else n
theorem len_at (below : Bool) (v pa : ByteArray) (nn : Nat) (m r : Int) (h1 : nn = decVal v.data.toList) (h2 : m = (dblOut pa).1) (h3 : r = (dblOut pa).2) : lenOf below v pa = lenR below ((nn : Int) * 65536 + m) r := by
  subst h1 h2 h3; rfl
theorem len_low (below : Bool) (n : Int) : lenR below n (-1) = n := by simp [lenR]
theorem len_up (below : Bool) (n : Int) : lenR below n 1 = n + 1 := by simp [lenR]
theorem len_half_f (n : Int) : lenR false n 0 = n + 1 := by simp [lenR]
theorem len_half_t (n : Int) : lenR true n 0 = n := by simp [lenR]
theorem near_in_f (n : Int) (h : n ≤ 1099511627776) : nearEnd false n = (n, 0) := by simp [nearEnd, h]
theorem near_in_t (n : Int) (h : n ≤ 1099511627776) : nearEnd true n = (-n, 0) := by simp [nearEnd, h]
theorem near_out (b : Bool) (n : Int) (h : ¬ n ≤ 1099511627776) : nearEnd b n = (0, 3) := by simp [nearEnd, h]
theorem in_yes (n : Int) (w : World) (h0 : 0 ≤ n) (h1 : n ≤ 1099511627776) : Calls Tryd.prog 43 #[.int .i64 n] w fun e w' => e = .returned (.bool true) ∧ w = w' := by
  have k1 : decide (-1099511627776 ≤ n) = true := decide_eq_true (by omega)
  have k2 : decide (n ≤ 1099511627776) = true := decide_eq_true h1
  go_enter Tryd.func43, Tryd.ntmps43
  go_wp2
  go_ret
  exact ⟨by first | rfl | simp [*], rfl⟩
theorem in_no (n : Int) (w : World) (h1 : 1099511627776 < n) : Calls Tryd.prog 43 #[.int .i64 n] w fun e w' => e = .returned (.bool false) ∧ w = w' := by
  have k1 : decide (-1099511627776 ≤ n) = true := decide_eq_true (by omega)
  have k2 : decide (n ≤ 1099511627776) = false := decide_eq_false (by omega)
  go_enter Tryd.func43, Tryd.ntmps43
  go_wp2
  go_ret
  exact ⟨by first | rfl | simp [*], rfl⟩

set_option maxHeartbeats 40000000 in
theorem near_walk (s : ByteArray) (w : World) (hG : Aside0 (GW w)) :
    Calls Tryd.prog 26 #[.string s] w fun e w' => e = .returned (.tuple #[.int .i64 (nearOut s).1, .int .i64 (nearOut s).2]) ∧ Below w.heap.size w w' := by
  by_cases h40 : s.size > 40
  · have e : Hid (nearOut s = (0, 2)) := Lib.hid (by unfold nearOut; rw [if_pos h40])
    go_enter Tryd.func26, Tryd.ntmps26
    go_wp2
    go_ret2
    exact ⟨by rw [e.out]; rfl, Below.refl _ _⟩
  · obtain ⟨t, Ht⟩ : ∃ t, Hid (t = signless s) := ⟨_, Lib.hid rfl⟩
    obtain ⟨below, Hb⟩ : ∃ b, Hid (b = signed s) := ⟨_, Lib.hid rfl⟩
    obtain ⟨wh, Hw⟩ : ∃ b, Hid (b = wholeOf t) := ⟨_, Lib.hid rfl⟩
    obtain ⟨pa, Hp⟩ : ∃ b, Hid (b = partOf t) := ⟨_, Lib.hid rfl⟩
    obtain ⟨pt, Hpt⟩ : ∃ b, Hid (b = pointed t) := ⟨_, Lib.hid rfl⟩
    have hts : t.size ≤ 40 := by rw [Ht.out]; exact Nat.le_trans (signless_size s) (by omega)
    have hcp : ∀ w, Calls Tryd.prog 48 #[.string s, .string ⟨#[45]⟩] w fun e w' => e = .returned (.tuple #[.string t, .bool below]) ∧ w = w' := fun w => by
      refine (Tryd.strings_CutPrefix s ⟨#[45]⟩ w).mono fun e w' h => ?_
      rw [Ht.out, Hb.out]
      exact ⟨h.1, h.2.symm⟩
    have hcut : ∀ w, GW w → Calls Tryd.prog 49 #[.string t, .string ⟨#[46]⟩] w fun e w' => e = .returned (.tuple #[.string wh, .string pa, .bool pt]) ∧ ∃ n, w' = w.drewN n := fun w hg => by
      obtain ⟨m, hm⟩ := hg.len
      refine (Tryd.strings_Cut t ⟨#[46]⟩ m w (by omega) hm).mono fun e w' h => ?_
      rw [Hw.out, Hp.out, Hpt.out]
      exact h
    have Hcp := Lib.hid hcp
    have Hcut := Lib.hid hcut
    clear hcp hcut
    obtain ⟨A, HA⟩ : ∃ b, Hid (b = allDig wh) := ⟨_, Lib.hid rfl⟩
    obtain ⟨P, HP⟩ : ∃ b, Hid (b = allDig pa) := ⟨_, Lib.hid rfl⟩
    have Hall1 : Hid (∀ w, Calls Tryd.prog 50 #[.string wh] w fun e w' => e = .returned (.bool A) ∧ Below w.heap.size w w') := Lib.hid fun w => by rw [HA.out]; exact all_walk wh w
    have Hall2 : Hid (∀ w, Calls Tryd.prog 50 #[.string pa] w fun e w' => e = .returned (.bool P) ∧ Below w.heap.size w w') := Lib.hid fun w => by rw [HP.out]; exact all_walk pa w
    have HB := Aside0.mk (Below.refl w.heap.size w)
    cases A with
    | false =>
      have e : Hid (nearOut s = (0, 20)) := Lib.hid (by unfold nearOut; rw [if_neg h40, if_pos (.inl (by rw [← Ht.out, ← Hw.out, HA.out]))])
      go_enter Tryd.func26, Tryd.ntmps26
      go_wp2_with (first | (go_at_call 48; refine (Hcp.out _).mono ?_; rintro e w' ⟨rfl, rfl⟩) | (go_at_call 49; refine (Hcut.out _ hG.out).mono ?_; rintro e w' ⟨rfl, nd, rfl⟩) | (go_at_call 50; refine (Hall1.out _).mono ?_; rintro e w1 ⟨rfl, hb⟩; have n0_ := Aside0.mk (below_step (by repeat (first | exact HB.out | apply below_alloc | apply pw_below_drewN | apply below_drew1)) hb); clear HB; have HB := n0_; clear n0_ hb))
      go_ret2
      exact ⟨by rw [e.out]; rfl, HB.out⟩
    | true =>
      by_cases hbad : pt = true ∧ P = false
      · have e : Hid (nearOut s = (0, 20)) := Lib.hid (by
          unfold nearOut
          rw [if_neg h40, if_pos (.inr ⟨by rw [← Ht.out, ← Hpt.out]; exact hbad.1, by rw [← Ht.out, ← Hp.out, ← HP.out]; exact hbad.2⟩)])
        obtain ⟨rfl, rfl⟩ := hbad
        go_enter Tryd.func26, Tryd.ntmps26
        go_wp2_with (first | (go_at_call 48; ((with_reducible refine (Hcp.out _).mono ?_); rintro e w' ⟨rfl, rfl⟩)) | (go_at_call 49; ((with_reducible refine (Hcut.out _ hG.out).mono ?_); rintro e w' ⟨rfl, nd, rfl⟩)) | (go_at_call 50; ((with_reducible refine (Hall1.out _).mono ?_); rintro e w1 ⟨rfl, hb⟩; have n0_ := Aside0.mk (below_step (by repeat (first | exact HB.out | apply below_alloc | apply pw_below_drewN | apply below_drew1)) hb); clear HB; have HB := n0_; clear n0_ hb)) | (go_at_call 50; ((with_reducible refine (Hall2.out _).mono ?_); rintro e w1 ⟨rfl, hb⟩; have n0_ := Aside0.mk (below_step (by repeat (first | exact HB.out | apply below_alloc | apply pw_below_drewN | apply below_drew1)) hb); clear HB; have HB := n0_; clear n0_ hb)) | (go_at_call 51; ((with_reducible refine (Hbare.out _).mono ?_); rintro e w1 ⟨rfl, rfl⟩)))
        go_ret2
        exact ⟨by rw [e.out]; rfl, HB.out⟩
      · obtain ⟨v, Hv⟩ : ∃ v, Hid (v = bare wh) := ⟨_, Lib.hid rfl⟩
        have Hbare : Hid (∀ w, Calls Tryd.prog 51 #[.string wh, .string ⟨#[48]⟩] w fun e w' => e = .returned (.string v) ∧ w = w') := Lib.hid fun w => by
          refine (Tryd.strings_TrimLeft_one wh 48 (by decide) w).mono fun e w' h => ?_
          rw [Hv.out]
          exact ⟨h.1, h.2.symm⟩
        have Hnb : Hid (¬ (allDig (wholeOf (signless s)) = false ∨ (pointed (signless s) = true ∧ allDig (partOf (signless s)) = false))) := Lib.hid (by
          rw [← Ht.out, ← Hw.out, ← Hp.out, ← Hpt.out, ← HA.out, ← HP.out]
          rintro (h | h)
          · cases h
          · exact hbad h)
        by_cases h8 : v.size > 8
        · have e : Hid (nearOut s = (0, 3)) := Lib.hid (by
            unfold nearOut
            rw [if_neg h40, if_neg Hnb.out, if_pos (by rw [← Ht.out, ← Hw.out, ← Hv.out]; exact h8)])
          go_enter Tryd.func26, Tryd.ntmps26
          cases pt
          · go_wp2_with (first | (go_at_call 48; ((with_reducible refine (Hcp.out _).mono ?_); rintro e w' ⟨rfl, rfl⟩)) | (go_at_call 49; ((with_reducible refine (Hcut.out _ hG.out).mono ?_); rintro e w' ⟨rfl, nd, rfl⟩)) | (go_at_call 50; ((with_reducible refine (Hall1.out _).mono ?_); rintro e w1 ⟨rfl, hb⟩; have n0_ := Aside0.mk (below_step (by repeat (first | exact HB.out | apply below_alloc | apply pw_below_drewN | apply below_drew1)) hb); clear HB; have HB := n0_; clear n0_ hb)) | (go_at_call 50; ((with_reducible refine (Hall2.out _).mono ?_); rintro e w1 ⟨rfl, hb⟩; have n0_ := Aside0.mk (below_step (by repeat (first | exact HB.out | apply below_alloc | apply pw_below_drewN | apply below_drew1)) hb); clear HB; have HB := n0_; clear n0_ hb)) | (go_at_call 51; ((with_reducible refine (Hbare.out _).mono ?_); rintro e w1 ⟨rfl, rfl⟩)))
            go_ret2
            exact ⟨by rw [e.out]; rfl, HB.out⟩
          · obtain rfl : P = true := by cases P <;> simp_all
            go_wp2_with (first | (go_at_call 48; ((with_reducible refine (Hcp.out _).mono ?_); rintro e w' ⟨rfl, rfl⟩)) | (go_at_call 49; ((with_reducible refine (Hcut.out _ hG.out).mono ?_); rintro e w' ⟨rfl, nd, rfl⟩)) | (go_at_call 50; ((with_reducible refine (Hall1.out _).mono ?_); rintro e w1 ⟨rfl, hb⟩; have n0_ := Aside0.mk (below_step (by repeat (first | exact HB.out | apply below_alloc | apply pw_below_drewN | apply below_drew1)) hb); clear HB; have HB := n0_; clear n0_ hb)) | (go_at_call 50; ((with_reducible refine (Hall2.out _).mono ?_); rintro e w1 ⟨rfl, hb⟩; have n0_ := Aside0.mk (below_step (by repeat (first | exact HB.out | apply below_alloc | apply pw_below_drewN | apply below_drew1)) hb); clear HB; have HB := n0_; clear n0_ hb)) | (go_at_call 51; ((with_reducible refine (Hbare.out _).mono ?_); rintro e w1 ⟨rfl, rfl⟩)))
            go_ret2
            exact ⟨by rw [e.out]; rfl, HB.out⟩
        · have h8' : v.size ≤ 8 := by omega
          have Hvd : Hid (∀ j (hj : j < v.size), isDig (v[j]'hj) = true) := Lib.hid (by rw [Hv.out]; exact bare_digits wh HA.out.symm)
          have Hpd : Hid (pa.data.toList.all isDig = true) := Lib.hid (by
            cases hpt : pt with
            | false => rw [Hp.out, partOf_none t (by rw [← Hpt.out, hpt])]; rfl
            | true =>
              have hPP : P = true := by cases hq : P <;> simp_all
              have := HP.out; rw [hPP] at this; exact allDig_all pa this.symm)
          have hps : pa.size ≤ 40 := by rw [Hp.out]; exact Nat.le_trans (partOf_size t) hts
          clear h8
          have HF : Hid (nearOut s = nearEnd below (lenOf below v pa)) := Lib.hid (by
            unfold nearOut
            rw [if_neg h40, if_neg Hnb.out, if_neg (by rw [← Ht.out, ← Hw.out, ← Hv.out]; omega), ← Hb.out, ← Ht.out, ← Hw.out, ← Hv.out, ← Hp.out])
          have hPt : pt = false ∨ (pt = true ∧ P = true) := by cases pt <;> cases P <;> simp_all
          clear hbad
          go_enter Tryd.func26, Tryd.ntmps26
          rcases hPt with rfl | ⟨rfl, rfl⟩
          · go_wp2_with (first | (go_at_call 48; ((with_reducible refine (Hcp.out _).mono ?_); rintro e w' ⟨rfl, rfl⟩)) | (go_at_call 49; ((with_reducible refine (Hcut.out _ hG.out).mono ?_); rintro e w' ⟨rfl, nd, rfl⟩)) | (go_at_call 50; ((with_reducible refine (Hall1.out _).mono ?_); rintro e w1 ⟨rfl, hb⟩; have n0_ := Aside0.mk (below_step (by repeat (first | exact HB.out | apply below_alloc | apply pw_below_drewN | apply below_drew1)) hb); clear HB; have HB := n0_; clear n0_ hb)) | (go_at_call 50; ((with_reducible refine (Hall2.out _).mono ?_); rintro e w1 ⟨rfl, hb⟩; have n0_ := Aside0.mk (below_step (by repeat (first | exact HB.out | apply below_alloc | apply pw_below_drewN | apply below_drew1)) hb); clear HB; have HB := n0_; clear n0_ hb)) | (go_at_call 51; ((with_reducible refine (Hbare.out _).mono ?_); rintro e w1 ⟨rfl, rfl⟩)))
            have HW := Aside0.mk HB.out.size
            go_loopw [9] (fun n wr => ∃ pos : Nat, pos ≤ v.size ∧ n = .int .i64 ((decVal (v.data.toList.take pos) : Nat) : Int) ∧ wr.heap[w1.heap.size]? = some (.stringIter v pos) ∧ Aside0 (Below w.heap.size w wr)) (fun _ wr => v.size - wr.iterPos w1.heap.size)
            case atStart =>
              refine ⟨0, by omega, rfl, ?_, ⟨HB.out.alloc HB.out.size _⟩⟩
              have := World.iter_heap w1 v 0
              simpa using this
            case round =>
              clear HB
              obtain ⟨pos, hps2, rfl, hit, HB⟩ := hrel
              have hsz : w1.heap.size < wr.heap.size := (Array.getElem?_eq_some_iff.1 hit).1
              have hnb := decVal_bound (v.data.toList.take pos) (fun c hc => by
                obtain ⟨j, hj, rfl⟩ := List.getElem_of_mem (List.mem_of_mem_take hc)
                exact Hvd.out j hj)
              have hn8 : decVal (v.data.toList.take pos) < 100000000 := Nat.lt_of_lt_of_le hnb (Nat.pow_le_pow_right (n := 10) (by omega) (Nat.le_trans (List.length_take_le _ _) (by omega : pos ≤ 8)))
              clear hnb
              obtain ⟨nn, Hn⟩ : ∃ nn, Hid (nn = decVal (v.data.toList.take pos)) := ⟨_, Lib.hid rfl⟩
              rw [← Hn.out] at hn8
              rw [← Hn.out]
              by_cases hp : pos < v.size
              · have hd := Hvd.out pos hp
                obtain ⟨c, Hc⟩ : ∃ c : Nat, Hid (c = (v[pos]'hp).toNat) := ⟨_, Lib.hid rfl⟩
                have hc3 : 48 ≤ c ∧ c ≤ 57 := by rw [Hc.out]; unfold isDig at hd; simpa using hd
                obtain ⟨hc1, hc2⟩ := hc3
                have hnx : ∀ ty, (Instr.next (.pointer (some ⟨w1.heap.size, 0, none⟩)) true ty).run Tryd.prog wr = .ok (.tuple #[.bool true, .int .i64 pos, .int .i32 c]) (wr.iterAt w1.heap.size v (pos + 1)) := fun ty => by
                  rw [Hc.out]; exact Lib.run_next_ascii_at wr w1.heap.size v pos ty hit hp (by rw [← Hc.out]; omega)
                have Hbw2 := Aside0.mk (Lib.below_iterAt HB.out (k := w1.heap.size) HW.out v (pos + 1))
                have hit2 := Lib.iterAt_heap wr w1.heap.size v pos (pos + 1) hit
                clear hd
                go_wp2
                go_roundw
                case rel => exact ⟨pos + 1, by omega, by
                  rw [decVal_snoc v pos hp, ← Hn.out, ← Hc.out]; go_num, hit2, Hbw2⟩
                case measure => simp only [World.iterPos, hit2, hit]; omega
              · have hnx : ∀ ty, (Instr.next (.pointer (some ⟨w1.heap.size, 0, none⟩)) true ty).run Tryd.prog wr = _ := fun ty => Lib.run_next_end_at wr w1.heap.size v pos ty hit hp
                have Hn2 : Hid (nn = decVal v.data.toList) := Lib.hid (by rw [Hn.out, List.take_of_length_le (by rw [data_length]; omega)])
                clear Hn
                obtain ⟨m, Hm⟩ : ∃ m, Hid (m = (dblOut pa).1) := ⟨_, Lib.hid rfl⟩
                obtain ⟨r, Hr⟩ : ∃ m, Hid (m = (dblOut pa).2) := ⟨_, Lib.hid rfl⟩
                have hmr := dblOut_bound pa Hpd.out
                rw [← Hm.out, ← Hr.out] at hmr
                obtain ⟨hm0, hm1, hr⟩ := hmr
                have Hdw : Hid (∀ w, Calls Tryd.prog 52 #[.string pa] w fun e w' => e = .returned (.tuple #[.int .i64 m, .int .i64 r]) ∧ Below w.heap.size w w') := Lib.hid fun w => by rw [Hm.out, Hr.out]; exact doubled_walk pa w (by omega) Hpd.out
                rcases hr with rfl | rfl | rfl
                · skip
                  have hL : Hid (nearOut s = nearEnd below ((nn : Int) * 65536 + m)) := Lib.hid (by rw [HF.out, len_at _ _ _ _ _ _ Hn2.out Hm.out Hr.out]; first | rw [len_low] | rw [len_up] | rw [len_half_f] | rw [len_half_t])
                  by_cases hin : (nn : Int) * 65536 + m ≤ 1099511627776
                  · cases below
                    · have e : Hid (nearOut s = ((nn : Int) * 65536 + m, 0)) := Lib.hid (by rw [hL.out]; first | rw [near_in_f _ hin] | rw [near_in_t _ hin])
                      go_wp2_with (first | (go_at_call 52; ((with_reducible refine (Hdw.out _).mono ?_); rintro e w2 ⟨rfl, hb⟩; have n0_ := Aside0.mk (below_step (by repeat (first | exact HB.out | apply below_alloc | apply pw_below_drewN | apply below_drew1)) hb); clear HB; have HB := n0_; clear n0_ hb)) | (go_at_call 43; ((with_reducible refine (in_yes _ _ (by omega) hin).mono ?_); rintro e w2 ⟨rfl, rfl⟩)))
                      go_ret2
                      exact ⟨by rw [e.out]; rfl, HB.out⟩
                    · have e : Hid (nearOut s = (-((nn : Int) * 65536 + m), 0)) := Lib.hid (by rw [hL.out]; first | rw [near_in_f _ hin] | rw [near_in_t _ hin])
                      go_wp2_with (first | (go_at_call 52; ((with_reducible refine (Hdw.out _).mono ?_); rintro e w2 ⟨rfl, hb⟩; have n0_ := Aside0.mk (below_step (by repeat (first | exact HB.out | apply below_alloc | apply pw_below_drewN | apply below_drew1)) hb); clear HB; have HB := n0_; clear n0_ hb)) | (go_at_call 43; ((with_reducible refine (in_yes _ _ (by omega) hin).mono ?_); rintro e w2 ⟨rfl, rfl⟩)))
                      go_ret2
                      exact ⟨by rw [e.out]; rfl, HB.out⟩
                  · have e : Hid (nearOut s = (0, 3)) := Lib.hid (by rw [hL.out, near_out _ _ hin])
                    go_wp2_with (first | (go_at_call 52; ((with_reducible refine (Hdw.out _).mono ?_); rintro e w2 ⟨rfl, hb⟩; have n0_ := Aside0.mk (below_step (by repeat (first | exact HB.out | apply below_alloc | apply pw_below_drewN | apply below_drew1)) hb); clear HB; have HB := n0_; clear n0_ hb)) | (go_at_call 43; ((with_reducible refine (in_no _ _ (by omega)).mono ?_); rintro e w2 ⟨rfl, rfl⟩)))
                    go_ret2
                    exact ⟨by rw [e.out]; rfl, HB.out⟩
                · skip
                  cases below
                  · skip
                    have hL : Hid (nearOut s = nearEnd false ((nn : Int) * 65536 + m + 1)) := Lib.hid (by rw [HF.out, len_at _ _ _ _ _ _ Hn2.out Hm.out Hr.out]; first | rw [len_low] | rw [len_up] | rw [len_half_f] | rw [len_half_t])
                    by_cases hin : (nn : Int) * 65536 + m + 1 ≤ 1099511627776
                    · have e : Hid (nearOut s = ((nn : Int) * 65536 + m + 1, 0)) := Lib.hid (by rw [hL.out]; first | rw [near_in_f _ hin] | rw [near_in_t _ hin])
                      go_wp2_with (first | (go_at_call 52; ((with_reducible refine (Hdw.out _).mono ?_); rintro e w2 ⟨rfl, hb⟩; have n0_ := Aside0.mk (below_step (by repeat (first | exact HB.out | apply below_alloc | apply pw_below_drewN | apply below_drew1)) hb); clear HB; have HB := n0_; clear n0_ hb)) | (go_at_call 43; ((with_reducible refine (in_yes _ _ (by omega) hin).mono ?_); rintro e w2 ⟨rfl, rfl⟩)))
                      go_ret2
                      exact ⟨by rw [e.out]; rfl, HB.out⟩
                    · have e : Hid (nearOut s = (0, 3)) := Lib.hid (by rw [hL.out, near_out _ _ hin])
                      go_wp2_with (first | (go_at_call 52; ((with_reducible refine (Hdw.out _).mono ?_); rintro e w2 ⟨rfl, hb⟩; have n0_ := Aside0.mk (below_step (by repeat (first | exact HB.out | apply below_alloc | apply pw_below_drewN | apply below_drew1)) hb); clear HB; have HB := n0_; clear n0_ hb)) | (go_at_call 43; ((with_reducible refine (in_no _ _ (by omega)).mono ?_); rintro e w2 ⟨rfl, rfl⟩)))
                      go_ret2
                      exact ⟨by rw [e.out]; rfl, HB.out⟩
                  · skip
                    have hL : Hid (nearOut s = nearEnd true ((nn : Int) * 65536 + m)) := Lib.hid (by rw [HF.out, len_at _ _ _ _ _ _ Hn2.out Hm.out Hr.out]; first | rw [len_low] | rw [len_up] | rw [len_half_f] | rw [len_half_t])
                    by_cases hin : (nn : Int) * 65536 + m ≤ 1099511627776
                    · have e : Hid (nearOut s = (-((nn : Int) * 65536 + m), 0)) := Lib.hid (by rw [hL.out]; first | rw [near_in_f _ hin] | rw [near_in_t _ hin])
                      go_wp2_with (first | (go_at_call 52; ((with_reducible refine (Hdw.out _).mono ?_); rintro e w2 ⟨rfl, hb⟩; have n0_ := Aside0.mk (below_step (by repeat (first | exact HB.out | apply below_alloc | apply pw_below_drewN | apply below_drew1)) hb); clear HB; have HB := n0_; clear n0_ hb)) | (go_at_call 43; ((with_reducible refine (in_yes _ _ (by omega) hin).mono ?_); rintro e w2 ⟨rfl, rfl⟩)))
                      go_ret2
                      exact ⟨by rw [e.out]; rfl, HB.out⟩
                    · have e : Hid (nearOut s = (0, 3)) := Lib.hid (by rw [hL.out, near_out _ _ hin])
                      go_wp2_with (first | (go_at_call 52; ((with_reducible refine (Hdw.out _).mono ?_); rintro e w2 ⟨rfl, hb⟩; have n0_ := Aside0.mk (below_step (by repeat (first | exact HB.out | apply below_alloc | apply pw_below_drewN | apply below_drew1)) hb); clear HB; have HB := n0_; clear n0_ hb)) | (go_at_call 43; ((with_reducible refine (in_no _ _ (by omega)).mono ?_); rintro e w2 ⟨rfl, rfl⟩)))
                      go_ret2
                      exact ⟨by rw [e.out]; rfl, HB.out⟩
                · skip
                  have hL : Hid (nearOut s = nearEnd below ((nn : Int) * 65536 + m + 1)) := Lib.hid (by rw [HF.out, len_at _ _ _ _ _ _ Hn2.out Hm.out Hr.out]; first | rw [len_low] | rw [len_up] | rw [len_half_f] | rw [len_half_t])
                  by_cases hin : (nn : Int) * 65536 + m + 1 ≤ 1099511627776
                  · cases below
                    · have e : Hid (nearOut s = ((nn : Int) * 65536 + m + 1, 0)) := Lib.hid (by rw [hL.out]; first | rw [near_in_f _ hin] | rw [near_in_t _ hin])
                      go_wp2_with (first | (go_at_call 52; ((with_reducible refine (Hdw.out _).mono ?_); rintro e w2 ⟨rfl, hb⟩; have n0_ := Aside0.mk (below_step (by repeat (first | exact HB.out | apply below_alloc | apply pw_below_drewN | apply below_drew1)) hb); clear HB; have HB := n0_; clear n0_ hb)) | (go_at_call 43; ((with_reducible refine (in_yes _ _ (by omega) hin).mono ?_); rintro e w2 ⟨rfl, rfl⟩)))
                      go_ret2
                      exact ⟨by rw [e.out]; rfl, HB.out⟩
                    · have e : Hid (nearOut s = (-((nn : Int) * 65536 + m + 1), 0)) := Lib.hid (by rw [hL.out]; first | rw [near_in_f _ hin] | rw [near_in_t _ hin])
                      go_wp2_with (first | (go_at_call 52; ((with_reducible refine (Hdw.out _).mono ?_); rintro e w2 ⟨rfl, hb⟩; have n0_ := Aside0.mk (below_step (by repeat (first | exact HB.out | apply below_alloc | apply pw_below_drewN | apply below_drew1)) hb); clear HB; have HB := n0_; clear n0_ hb)) | (go_at_call 43; ((with_reducible refine (in_yes _ _ (by omega) hin).mono ?_); rintro e w2 ⟨rfl, rfl⟩)))
                      go_ret2
                      exact ⟨by rw [e.out]; rfl, HB.out⟩
                  · have e : Hid (nearOut s = (0, 3)) := Lib.hid (by rw [hL.out, near_out _ _ hin])
                    go_wp2_with (first | (go_at_call 52; ((with_reducible refine (Hdw.out _).mono ?_); rintro e w2 ⟨rfl, hb⟩; have n0_ := Aside0.mk (below_step (by repeat (first | exact HB.out | apply below_alloc | apply pw_below_drewN | apply below_drew1)) hb); clear HB; have HB := n0_; clear n0_ hb)) | (go_at_call 43; ((with_reducible refine (in_no _ _ (by omega)).mono ?_); rintro e w2 ⟨rfl, rfl⟩)))
                    go_ret2
                    exact ⟨by rw [e.out]; rfl, HB.out⟩
          · go_wp2_with (first | (go_at_call 48; ((with_reducible refine (Hcp.out _).mono ?_); rintro e w' ⟨rfl, rfl⟩)) | (go_at_call 49; ((with_reducible refine (Hcut.out _ hG.out).mono ?_); rintro e w' ⟨rfl, nd, rfl⟩)) | (go_at_call 50; ((with_reducible refine (Hall1.out _).mono ?_); rintro e w1 ⟨rfl, hb⟩; have n0_ := Aside0.mk (below_step (by repeat (first | exact HB.out | apply below_alloc | apply pw_below_drewN | apply below_drew1)) hb); clear HB; have HB := n0_; clear n0_ hb)) | (go_at_call 50; ((with_reducible refine (Hall2.out _).mono ?_); rintro e w1 ⟨rfl, hb⟩; have n0_ := Aside0.mk (below_step (by repeat (first | exact HB.out | apply below_alloc | apply pw_below_drewN | apply below_drew1)) hb); clear HB; have HB := n0_; clear n0_ hb)) | (go_at_call 51; ((with_reducible refine (Hbare.out _).mono ?_); rintro e w1 ⟨rfl, rfl⟩)))
            have HW := Aside0.mk HB.out.size
            go_loopw [9] (fun n wr => ∃ pos : Nat, pos ≤ v.size ∧ n = .int .i64 ((decVal (v.data.toList.take pos) : Nat) : Int) ∧ wr.heap[w1.heap.size]? = some (.stringIter v pos) ∧ Aside0 (Below w.heap.size w wr)) (fun _ wr => v.size - wr.iterPos w1.heap.size)
            case atStart =>
              refine ⟨0, by omega, rfl, ?_, ⟨HB.out.alloc HB.out.size _⟩⟩
              have := World.iter_heap w1 v 0
              simpa using this
            case round =>
              clear HB
              obtain ⟨pos, hps2, rfl, hit, HB⟩ := hrel
              have hsz : w1.heap.size < wr.heap.size := (Array.getElem?_eq_some_iff.1 hit).1
              have hnb := decVal_bound (v.data.toList.take pos) (fun c hc => by
                obtain ⟨j, hj, rfl⟩ := List.getElem_of_mem (List.mem_of_mem_take hc)
                exact Hvd.out j hj)
              have hn8 : decVal (v.data.toList.take pos) < 100000000 := Nat.lt_of_lt_of_le hnb (Nat.pow_le_pow_right (n := 10) (by omega) (Nat.le_trans (List.length_take_le _ _) (by omega : pos ≤ 8)))
              clear hnb
              obtain ⟨nn, Hn⟩ : ∃ nn, Hid (nn = decVal (v.data.toList.take pos)) := ⟨_, Lib.hid rfl⟩
              rw [← Hn.out] at hn8
              rw [← Hn.out]
              by_cases hp : pos < v.size
              · have hd := Hvd.out pos hp
                obtain ⟨c, Hc⟩ : ∃ c : Nat, Hid (c = (v[pos]'hp).toNat) := ⟨_, Lib.hid rfl⟩
                have hc3 : 48 ≤ c ∧ c ≤ 57 := by rw [Hc.out]; unfold isDig at hd; simpa using hd
                obtain ⟨hc1, hc2⟩ := hc3
                have hnx : ∀ ty, (Instr.next (.pointer (some ⟨w1.heap.size, 0, none⟩)) true ty).run Tryd.prog wr = .ok (.tuple #[.bool true, .int .i64 pos, .int .i32 c]) (wr.iterAt w1.heap.size v (pos + 1)) := fun ty => by
                  rw [Hc.out]; exact Lib.run_next_ascii_at wr w1.heap.size v pos ty hit hp (by rw [← Hc.out]; omega)
                have Hbw2 := Aside0.mk (Lib.below_iterAt HB.out (k := w1.heap.size) HW.out v (pos + 1))
                have hit2 := Lib.iterAt_heap wr w1.heap.size v pos (pos + 1) hit
                clear hd
                go_wp2
                go_roundw
                case rel => exact ⟨pos + 1, by omega, by
                  rw [decVal_snoc v pos hp, ← Hn.out, ← Hc.out]; go_num, hit2, Hbw2⟩
                case measure => simp only [World.iterPos, hit2, hit]; omega
              · have hnx : ∀ ty, (Instr.next (.pointer (some ⟨w1.heap.size, 0, none⟩)) true ty).run Tryd.prog wr = _ := fun ty => Lib.run_next_end_at wr w1.heap.size v pos ty hit hp
                have Hn2 : Hid (nn = decVal v.data.toList) := Lib.hid (by rw [Hn.out, List.take_of_length_le (by rw [data_length]; omega)])
                clear Hn
                obtain ⟨m, Hm⟩ : ∃ m, Hid (m = (dblOut pa).1) := ⟨_, Lib.hid rfl⟩
                obtain ⟨r, Hr⟩ : ∃ m, Hid (m = (dblOut pa).2) := ⟨_, Lib.hid rfl⟩
                have hmr := dblOut_bound pa Hpd.out
                rw [← Hm.out, ← Hr.out] at hmr
                obtain ⟨hm0, hm1, hr⟩ := hmr
                have Hdw : Hid (∀ w, Calls Tryd.prog 52 #[.string pa] w fun e w' => e = .returned (.tuple #[.int .i64 m, .int .i64 r]) ∧ Below w.heap.size w w') := Lib.hid fun w => by rw [Hm.out, Hr.out]; exact doubled_walk pa w (by omega) Hpd.out
                rcases hr with rfl | rfl | rfl
                · skip
                  have hL : Hid (nearOut s = nearEnd below ((nn : Int) * 65536 + m)) := Lib.hid (by rw [HF.out, len_at _ _ _ _ _ _ Hn2.out Hm.out Hr.out]; first | rw [len_low] | rw [len_up] | rw [len_half_f] | rw [len_half_t])
                  by_cases hin : (nn : Int) * 65536 + m ≤ 1099511627776
                  · cases below
                    · have e : Hid (nearOut s = ((nn : Int) * 65536 + m, 0)) := Lib.hid (by rw [hL.out]; first | rw [near_in_f _ hin] | rw [near_in_t _ hin])
                      go_wp2_with (first | (go_at_call 52; ((with_reducible refine (Hdw.out _).mono ?_); rintro e w2 ⟨rfl, hb⟩; have n0_ := Aside0.mk (below_step (by repeat (first | exact HB.out | apply below_alloc | apply pw_below_drewN | apply below_drew1)) hb); clear HB; have HB := n0_; clear n0_ hb)) | (go_at_call 43; ((with_reducible refine (in_yes _ _ (by omega) hin).mono ?_); rintro e w2 ⟨rfl, rfl⟩)))
                      go_ret2
                      exact ⟨by rw [e.out]; rfl, HB.out⟩
                    · have e : Hid (nearOut s = (-((nn : Int) * 65536 + m), 0)) := Lib.hid (by rw [hL.out]; first | rw [near_in_f _ hin] | rw [near_in_t _ hin])
                      go_wp2_with (first | (go_at_call 52; ((with_reducible refine (Hdw.out _).mono ?_); rintro e w2 ⟨rfl, hb⟩; have n0_ := Aside0.mk (below_step (by repeat (first | exact HB.out | apply below_alloc | apply pw_below_drewN | apply below_drew1)) hb); clear HB; have HB := n0_; clear n0_ hb)) | (go_at_call 43; ((with_reducible refine (in_yes _ _ (by omega) hin).mono ?_); rintro e w2 ⟨rfl, rfl⟩)))
                      go_ret2
                      exact ⟨by rw [e.out]; rfl, HB.out⟩
                  · have e : Hid (nearOut s = (0, 3)) := Lib.hid (by rw [hL.out, near_out _ _ hin])
                    go_wp2_with (first | (go_at_call 52; ((with_reducible refine (Hdw.out _).mono ?_); rintro e w2 ⟨rfl, hb⟩; have n0_ := Aside0.mk (below_step (by repeat (first | exact HB.out | apply below_alloc | apply pw_below_drewN | apply below_drew1)) hb); clear HB; have HB := n0_; clear n0_ hb)) | (go_at_call 43; ((with_reducible refine (in_no _ _ (by omega)).mono ?_); rintro e w2 ⟨rfl, rfl⟩)))
                    go_ret2
                    exact ⟨by rw [e.out]; rfl, HB.out⟩
                · skip
                  cases below
                  · skip
                    have hL : Hid (nearOut s = nearEnd false ((nn : Int) * 65536 + m + 1)) := Lib.hid (by rw [HF.out, len_at _ _ _ _ _ _ Hn2.out Hm.out Hr.out]; first | rw [len_low] | rw [len_up] | rw [len_half_f] | rw [len_half_t])
                    by_cases hin : (nn : Int) * 65536 + m + 1 ≤ 1099511627776
                    · have e : Hid (nearOut s = ((nn : Int) * 65536 + m + 1, 0)) := Lib.hid (by rw [hL.out]; first | rw [near_in_f _ hin] | rw [near_in_t _ hin])
                      go_wp2_with (first | (go_at_call 52; ((with_reducible refine (Hdw.out _).mono ?_); rintro e w2 ⟨rfl, hb⟩; have n0_ := Aside0.mk (below_step (by repeat (first | exact HB.out | apply below_alloc | apply pw_below_drewN | apply below_drew1)) hb); clear HB; have HB := n0_; clear n0_ hb)) | (go_at_call 43; ((with_reducible refine (in_yes _ _ (by omega) hin).mono ?_); rintro e w2 ⟨rfl, rfl⟩)))
                      go_ret2
                      exact ⟨by rw [e.out]; rfl, HB.out⟩
                    · have e : Hid (nearOut s = (0, 3)) := Lib.hid (by rw [hL.out, near_out _ _ hin])
                      go_wp2_with (first | (go_at_call 52; ((with_reducible refine (Hdw.out _).mono ?_); rintro e w2 ⟨rfl, hb⟩; have n0_ := Aside0.mk (below_step (by repeat (first | exact HB.out | apply below_alloc | apply pw_below_drewN | apply below_drew1)) hb); clear HB; have HB := n0_; clear n0_ hb)) | (go_at_call 43; ((with_reducible refine (in_no _ _ (by omega)).mono ?_); rintro e w2 ⟨rfl, rfl⟩)))
                      go_ret2
                      exact ⟨by rw [e.out]; rfl, HB.out⟩
                  · skip
                    have hL : Hid (nearOut s = nearEnd true ((nn : Int) * 65536 + m)) := Lib.hid (by rw [HF.out, len_at _ _ _ _ _ _ Hn2.out Hm.out Hr.out]; first | rw [len_low] | rw [len_up] | rw [len_half_f] | rw [len_half_t])
                    by_cases hin : (nn : Int) * 65536 + m ≤ 1099511627776
                    · have e : Hid (nearOut s = (-((nn : Int) * 65536 + m), 0)) := Lib.hid (by rw [hL.out]; first | rw [near_in_f _ hin] | rw [near_in_t _ hin])
                      go_wp2_with (first | (go_at_call 52; ((with_reducible refine (Hdw.out _).mono ?_); rintro e w2 ⟨rfl, hb⟩; have n0_ := Aside0.mk (below_step (by repeat (first | exact HB.out | apply below_alloc | apply pw_below_drewN | apply below_drew1)) hb); clear HB; have HB := n0_; clear n0_ hb)) | (go_at_call 43; ((with_reducible refine (in_yes _ _ (by omega) hin).mono ?_); rintro e w2 ⟨rfl, rfl⟩)))
                      go_ret2
                      exact ⟨by rw [e.out]; rfl, HB.out⟩
                    · have e : Hid (nearOut s = (0, 3)) := Lib.hid (by rw [hL.out, near_out _ _ hin])
                      go_wp2_with (first | (go_at_call 52; ((with_reducible refine (Hdw.out _).mono ?_); rintro e w2 ⟨rfl, hb⟩; have n0_ := Aside0.mk (below_step (by repeat (first | exact HB.out | apply below_alloc | apply pw_below_drewN | apply below_drew1)) hb); clear HB; have HB := n0_; clear n0_ hb)) | (go_at_call 43; ((with_reducible refine (in_no _ _ (by omega)).mono ?_); rintro e w2 ⟨rfl, rfl⟩)))
                      go_ret2
                      exact ⟨by rw [e.out]; rfl, HB.out⟩
                · skip
                  have hL : Hid (nearOut s = nearEnd below ((nn : Int) * 65536 + m + 1)) := Lib.hid (by rw [HF.out, len_at _ _ _ _ _ _ Hn2.out Hm.out Hr.out]; first | rw [len_low] | rw [len_up] | rw [len_half_f] | rw [len_half_t])
                  by_cases hin : (nn : Int) * 65536 + m + 1 ≤ 1099511627776
                  · cases below
                    · have e : Hid (nearOut s = ((nn : Int) * 65536 + m + 1, 0)) := Lib.hid (by rw [hL.out]; first | rw [near_in_f _ hin] | rw [near_in_t _ hin])
                      go_wp2_with (first | (go_at_call 52; ((with_reducible refine (Hdw.out _).mono ?_); rintro e w2 ⟨rfl, hb⟩; have n0_ := Aside0.mk (below_step (by repeat (first | exact HB.out | apply below_alloc | apply pw_below_drewN | apply below_drew1)) hb); clear HB; have HB := n0_; clear n0_ hb)) | (go_at_call 43; ((with_reducible refine (in_yes _ _ (by omega) hin).mono ?_); rintro e w2 ⟨rfl, rfl⟩)))
                      go_ret2
                      exact ⟨by rw [e.out]; rfl, HB.out⟩
                    · have e : Hid (nearOut s = (-((nn : Int) * 65536 + m + 1), 0)) := Lib.hid (by rw [hL.out]; first | rw [near_in_f _ hin] | rw [near_in_t _ hin])
                      go_wp2_with (first | (go_at_call 52; ((with_reducible refine (Hdw.out _).mono ?_); rintro e w2 ⟨rfl, hb⟩; have n0_ := Aside0.mk (below_step (by repeat (first | exact HB.out | apply below_alloc | apply pw_below_drewN | apply below_drew1)) hb); clear HB; have HB := n0_; clear n0_ hb)) | (go_at_call 43; ((with_reducible refine (in_yes _ _ (by omega) hin).mono ?_); rintro e w2 ⟨rfl, rfl⟩)))
                      go_ret2
                      exact ⟨by rw [e.out]; rfl, HB.out⟩
                  · have e : Hid (nearOut s = (0, 3)) := Lib.hid (by rw [hL.out, near_out _ _ hin])
                    go_wp2_with (first | (go_at_call 52; ((with_reducible refine (Hdw.out _).mono ?_); rintro e w2 ⟨rfl, hb⟩; have n0_ := Aside0.mk (below_step (by repeat (first | exact HB.out | apply below_alloc | apply pw_below_drewN | apply below_drew1)) hb); clear HB; have HB := n0_; clear n0_ hb)) | (go_at_call 43; ((with_reducible refine (in_no _ _ (by omega)).mono ?_); rintro e w2 ⟨rfl, rfl⟩)))
                    go_ret2
                    exact ⟨by rw [e.out]; rfl, HB.out⟩

def digits_Near.f (a0 : ByteArray) : Option (Int × Int) := some (nearOut a0)
theorem digits_Near.calls (a0 : ByteArray) (r1 r2 : Int) (w : World) (hG : Aside0 (GW w)) (h : digits_Near.f a0 = some (r1, r2)) :
    Calls Tryd.prog 26 #[.string a0] w fun e w' => e = .returned (.tuple #[.int .i64 r1, .int .i64 r2]) ∧ Below w.heap.size w w' := by
  have e : nearOut a0 = (r1, r2) := Option.some.inj h
  have := near_walk a0 w hG
  rw [e] at this
  exact this

end Go.Proofs.YtekifiblehmafaaDoor.X
