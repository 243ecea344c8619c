/- Part 8 of a proof: what it needs of the program's functions as plain Lean functions, with the proof that the machine's calls come to them, and of plain laws; put together out of smaller texts. No conditions besides those that each statement names. -/
import Derived.BigQuiet
import Derived.Deep.QuietTactic
import Derived.Deep.RegionWith
import Derived.IntWalk
import Derived.Laws.AppendOwn
import Derived.OwnWalk
import Derived.Test.YtckdgcpomkefpaaGreatDoorLa0
import Derived.Test.YtckdgcpomkefpaaGreatDoorLa6
import Derived.Test.YtckdgcpomkefpaaGreatDoorLa7
section
namespace Go.Proofs.YtckdgcpomkefpaaGreatDoor.Dg
open Go.RowKit
set_option linter.unusedVariables false
set_option linter.unusedSimpArgs false
def decVal (l : List UInt8) : Nat := l.foldl (fun n c => 10 * n + (c.toNat - 48)) 0
def bs (l : List UInt8) : ByteArray := ⟨l.toArray⟩
def signless (s : ByteArray) : ByteArray := bs (Lib.trimPrefix s.data.toList [45])
def signed (s : ByteArray) : Bool := Lib.hasPrefix s.data.toList [45]
def wholeOf (t : ByteArray) : ByteArray := bs (Lib.cut t.data.toList [46]).1
def partOf (t : ByteArray) : ByteArray := bs (Lib.cut t.data.toList [46]).2.1
def pointed (t : ByteArray) : Bool := (Lib.cut t.data.toList [46]).2.2
def bare (t : ByteArray) : ByteArray := bs (Lib.trimLeftB t.data.toList 48)
def lenOf (below : Bool) (whole part : ByteArray) : Int :=
  let n : Int := (decVal whole.data.toList : Int) * 65536 + (dblOut part).1
  if (dblOut part).2 > 0 ∨ ((dblOut part).2 = 0 ∧ below = false) then n + 1 else n
def nearEnd (below : Bool) (n : Int) : Int × Int :=
  if n ≤ 1099511627776 then (if below then -n else n, 0) else (0, 3)
def nearOut (s : ByteArray) : Int × Int :=
  if s.size > 40 then (0, 2)
  else if allDig (wholeOf (signless s)) = false ∨ (pointed (signless s) = true ∧ allDig (partOf (signless s)) = false) then (0, 20)
  else if (bare (wholeOf (signless s))).size > 8 then (0, 3)
  else nearEnd (signed s) (lenOf (signed s) (bare (wholeOf (signless s))) (partOf (signless s)))
theorem decVal_append (l : List UInt8) (c : UInt8) : decVal (l ++ [c]) = 10 * decVal l + (c.toNat - 48) := by simp [decVal]
theorem decVal_snoc (v : ByteArray) (pos : Nat) (hp : pos < v.size) : decVal (v.data.toList.take (pos + 1)) = 10 * decVal (v.data.toList.take pos) + ((v[pos]'hp).toNat - 48) := by
  rw [List.take_succ_eq_append_getElem (by rw [data_length]; exact hp), decVal_append]
  rfl
theorem decVal_bound_from : ∀ (l : List UInt8) (n k : Nat), n < 10 ^ k → (∀ c ∈ l, isDig c = true) → l.foldl (fun n c => 10 * n + (c.toNat - 48)) n < 10 ^ (k + l.length)
  | [], n, k, hn, _ => by simpa using hn
  | c :: l, n, k, hn, h => by
    have h2 := h c (by simp)
    unfold isDig at h2; simp at h2
    have h3 := decVal_bound_from l (10 * n + (c.toNat - 48)) (k + 1) (by rw [Nat.pow_succ]; omega) (fun x hx => h x (by simp [hx]))
    simp only [List.foldl_cons, List.length_cons]
    rw [show k + (l.length + 1) = k + 1 + l.length from by omega]
    exact h3
theorem decVal_bound (l : List UInt8) (h : ∀ c ∈ l, isDig c = true) : decVal l < 10 ^ l.length := by
  have := decVal_bound_from l 0 0 (by simp) h
  simpa [decVal] using this
theorem dblOut_bound (s : ByteArray) (h : s.data.toList.all isDig = true) : 0 ≤ (dblOut s).1 ∧ (dblOut s).1 < 65536 ∧ ((dblOut s).2 = -1 ∨ (dblOut s).2 = 0 ∨ (dblOut s).2 = 1) := by
  have hb := drounds_bound _ (digs_small s h) 17
  rw [dblOut_eq]
  generalize (drounds 17 (digs s, 0)).2 = n at *
  refine ⟨by simp only; omega, by simp only; omega, ?_⟩
  simp only
  repeat' split
  all_goals simp
theorem bs_size (l : List UInt8) : (bs l).size = l.length := rfl
theorem signless_size (s : ByteArray) : (signless s).size ≤ s.size := by
  unfold signless Lib.trimPrefix
  rw [bs_size, ← data_length s]
  split
  · rw [List.length_drop]; omega
  · exact Nat.le_refl _
theorem partOf_size (s : ByteArray) : (partOf s).size ≤ s.size := by
  unfold partOf Lib.cut
  rw [bs_size, ← data_length s]
  split
  · rw [List.length_drop]; omega
  · simp
theorem partOf_none (t : ByteArray) (h : false = pointed t) : (partOf t).data.toList = [] := by
  unfold pointed Lib.cut at h
  unfold partOf Lib.cut
  split at h
  · cases h
  · rename_i hh; rw [if_neg hh]; rfl
theorem allDig_all (s : ByteArray) (h : allDig s = true) : s.data.toList.all isDig = true := by
  unfold allDig at h
  rw [Bool.and_eq_true] at h
  exact h.2
theorem bare_digits (wh : ByteArray) (h : allDig wh = true) : ∀ j (hj : j < (bare wh).size), isDig ((bare wh)[j]'hj) = true := by
  intro j hj
  have h1 := List.all_eq_true.1 (allDig_all wh h)
  exact h1 _ ((List.dropWhile_sublist (fun y : UInt8 => y == 48) (l := wh.data.toList)).subset (List.getElem_mem (l := Lib.trimLeftB wh.data.toList 48) hj))
def lenR (below : Bool) (n r : Int) : Int := if r > 0 ∨ (r = 0 ∧ below = false) then n + 1 else n
theorem len_at (below : Bool) (v pa : ByteArray) (nn : Nat) (m r : Int) (h1 : nn = decVal v.data.toList) (h2 : m = (dblOut pa).1) (h3 : r = (dblOut pa).2) : lenOf below v pa = lenR below ((nn : Int) * 65536 + m) r := by
  subst h1 h2 h3; rfl
theorem len_low (below : Bool) (n : Int) : lenR below n (-1) = n := by simp [lenR]
theorem len_up (below : Bool) (n : Int) : lenR below n 1 = n + 1 := by simp [lenR]
theorem len_half_f (n : Int) : lenR false n 0 = n + 1 := by simp [lenR]
theorem len_half_t (n : Int) : lenR true n 0 = n := by simp [lenR]
theorem near_in_f (n : Int) (h : n ≤ 1099511627776) : nearEnd false n = (n, 0) := by simp [nearEnd, h]
theorem near_in_t (n : Int) (h : n ≤ 1099511627776) : nearEnd true n = (-n, 0) := by simp [nearEnd, h]
theorem near_out (b : Bool) (n : Int) (h : ¬ n ≤ 1099511627776) : nearEnd b n = (0, 3) := by simp [nearEnd, h]
theorem in_yes (n : Int) (w : World) (h0 : 0 ≤ n) (h1 : n ≤ 1099511627776) : Calls Tryz.prog 62 #[.int .i64 n] w fun e w' => e = .returned (.bool true) ∧ w = w' := by
  have k1 : decide (-1099511627776 ≤ n) = true := decide_eq_true (by omega)
  have k2 : decide (n ≤ 1099511627776) = true := decide_eq_true h1
  go_enter Tryz.func62, Tryz.ntmps62
  go_wp2
  go_ret
  exact ⟨by first | rfl | simp [*], rfl⟩
theorem in_no (n : Int) (w : World) (h1 : 1099511627776 < n) : Calls Tryz.prog 62 #[.int .i64 n] w fun e w' => e = .returned (.bool false) ∧ w = w' := by
  have k1 : decide (-1099511627776 ≤ n) = true := decide_eq_true (by omega)
  have k2 : decide (n ≤ 1099511627776) = false := decide_eq_false (by omega)
  go_enter Tryz.func62, Tryz.ntmps62
  go_wp2
  go_ret
  exact ⟨by first | rfl | simp [*], rfl⟩
set_option maxHeartbeats 40000000 in
theorem near_walk (s : ByteArray) (w : World) (hG : Aside0 (En.GW w)) :
    Calls Tryz.prog 130 #[.string s] w fun e w' => e = .returned (.tuple #[.int .i64 (nearOut s).1, .int .i64 (nearOut s).2]) ∧ Below w.heap.size w w' := by
  by_cases h40 : s.size > 40
  · have e : Hid (nearOut s = (0, 2)) := Lib.hid (by unfold nearOut; rw [if_pos h40])
    go_enter Tryz.func130, Tryz.ntmps130
    go_wp2
    go_ret2
    exact ⟨by rw [e.out]; rfl, Below.refl _ _⟩
  · obtain ⟨t, Ht⟩ : ∃ t, Hid (t = signless s) := ⟨_, Lib.hid rfl⟩
    obtain ⟨below, Hb⟩ : ∃ b, Hid (b = signed s) := ⟨_, Lib.hid rfl⟩
    obtain ⟨wh, Hw⟩ : ∃ b, Hid (b = wholeOf t) := ⟨_, Lib.hid rfl⟩
    obtain ⟨pa, Hp⟩ : ∃ b, Hid (b = partOf t) := ⟨_, Lib.hid rfl⟩
    obtain ⟨pt, Hpt⟩ : ∃ b, Hid (b = pointed t) := ⟨_, Lib.hid rfl⟩
    have hts : t.size ≤ 40 := by rw [Ht.out]; exact Nat.le_trans (signless_size s) (by omega)
    have hcp : ∀ w, Calls Tryz.prog 148 #[.string s, .string ⟨#[45]⟩] w fun e w' => e = .returned (.tuple #[.string t, .bool below]) ∧ w = w' := fun w => by
      refine (Tryz.strings_CutPrefix s ⟨#[45]⟩ w).mono fun e w' h => ?_
      rw [Ht.out, Hb.out]
      exact ⟨h.1, h.2.symm⟩
    have hcut : ∀ w, En.GW w → Calls Tryz.prog 149 #[.string t, .string ⟨#[46]⟩] w fun e w' => e = .returned (.tuple #[.string wh, .string pa, .bool pt]) ∧ ∃ n, w' = w.drewN n := fun w hg => by
      obtain ⟨m, hm⟩ := hg.len
      refine (Tryz.strings_Cut t ⟨#[46]⟩ m w (by omega) hm).mono fun e w' h => ?_
      rw [Hw.out, Hp.out, Hpt.out]
      exact h
    have Hcp := Lib.hid hcp
    have Hcut := Lib.hid hcut
    clear hcp hcut
    obtain ⟨A, HA⟩ : ∃ b, Hid (b = allDig wh) := ⟨_, Lib.hid rfl⟩
    obtain ⟨P, HP⟩ : ∃ b, Hid (b = allDig pa) := ⟨_, Lib.hid rfl⟩
    have Hall1 : Hid (∀ w, Calls Tryz.prog 150 #[.string wh] w fun e w' => e = .returned (.bool A) ∧ Below w.heap.size w w') := Lib.hid fun w => by rw [HA.out]; exact all_walk wh w
    have Hall2 : Hid (∀ w, Calls Tryz.prog 150 #[.string pa] w fun e w' => e = .returned (.bool P) ∧ Below w.heap.size w w') := Lib.hid fun w => by rw [HP.out]; exact all_walk pa w
    have HB := Aside0.mk (Below.refl w.heap.size w)
    cases A with
    | false =>
      have e : Hid (nearOut s = (0, 20)) := Lib.hid (by unfold nearOut; rw [if_neg h40, if_pos (.inl (by rw [← Ht.out, ← Hw.out, HA.out]))])
      go_enter Tryz.func130, Tryz.ntmps130
      go_wp2_with (first | (go_at_call 148; refine (Hcp.out _).mono ?_; rintro e w' ⟨rfl, rfl⟩) | (go_at_call 149; refine (Hcut.out _ hG.out).mono ?_; rintro e w' ⟨rfl, nd, rfl⟩) | (go_at_call 150; refine (Hall1.out _).mono ?_; rintro e w1 ⟨rfl, hb⟩; have n0_ := Aside0.mk (below_step (by repeat (first | exact HB.out | apply below_alloc | apply pw_below_drewN | apply below_drew1)) hb); clear HB; have HB := n0_; clear n0_ hb))
      go_ret2
      exact ⟨by rw [e.out]; rfl, HB.out⟩
    | true =>
      by_cases hbad : pt = true ∧ P = false
      · have e : Hid (nearOut s = (0, 20)) := Lib.hid (by
          unfold nearOut
          rw [if_neg h40, if_pos (.inr ⟨by rw [← Ht.out, ← Hpt.out]; exact hbad.1, by rw [← Ht.out, ← Hp.out, ← HP.out]; exact hbad.2⟩)])
        obtain ⟨rfl, rfl⟩ := hbad
        go_enter Tryz.func130, Tryz.ntmps130
        go_wp2_with (first | (go_at_call 148; ((with_reducible refine (Hcp.out _).mono ?_); rintro e w' ⟨rfl, rfl⟩)) | (go_at_call 149; ((with_reducible refine (Hcut.out _ hG.out).mono ?_); rintro e w' ⟨rfl, nd, rfl⟩)) | (go_at_call 150; ((with_reducible refine (Hall1.out _).mono ?_); rintro e w1 ⟨rfl, hb⟩; have n0_ := Aside0.mk (below_step (by repeat (first | exact HB.out | apply below_alloc | apply pw_below_drewN | apply below_drew1)) hb); clear HB; have HB := n0_; clear n0_ hb)) | (go_at_call 150; ((with_reducible refine (Hall2.out _).mono ?_); rintro e w1 ⟨rfl, hb⟩; have n0_ := Aside0.mk (below_step (by repeat (first | exact HB.out | apply below_alloc | apply pw_below_drewN | apply below_drew1)) hb); clear HB; have HB := n0_; clear n0_ hb)) | (go_at_call 151; ((with_reducible refine (Hbare.out _).mono ?_); rintro e w1 ⟨rfl, rfl⟩)))
        go_ret2
        exact ⟨by rw [e.out]; rfl, HB.out⟩
      · obtain ⟨v, Hv⟩ : ∃ v, Hid (v = bare wh) := ⟨_, Lib.hid rfl⟩
        have Hbare : Hid (∀ w, Calls Tryz.prog 151 #[.string wh, .string ⟨#[48]⟩] w fun e w' => e = .returned (.string v) ∧ w = w') := Lib.hid fun w => by
          refine (Tryz.strings_TrimLeft_one wh 48 (by decide) w).mono fun e w' h => ?_
          rw [Hv.out]
          exact ⟨h.1, h.2.symm⟩
        have Hnb : Hid (¬ (allDig (wholeOf (signless s)) = false ∨ (pointed (signless s) = true ∧ allDig (partOf (signless s)) = false))) := Lib.hid (by
          rw [← Ht.out, ← Hw.out, ← Hp.out, ← Hpt.out, ← HA.out, ← HP.out]
          rintro (h | h)
          · cases h
          · exact hbad h)
        by_cases h8 : v.size > 8
        · have e : Hid (nearOut s = (0, 3)) := Lib.hid (by
            unfold nearOut
            rw [if_neg h40, if_neg Hnb.out, if_pos (by rw [← Ht.out, ← Hw.out, ← Hv.out]; exact h8)])
          go_enter Tryz.func130, Tryz.ntmps130
          cases pt
          · go_wp2_with (first | (go_at_call 148; ((with_reducible refine (Hcp.out _).mono ?_); rintro e w' ⟨rfl, rfl⟩)) | (go_at_call 149; ((with_reducible refine (Hcut.out _ hG.out).mono ?_); rintro e w' ⟨rfl, nd, rfl⟩)) | (go_at_call 150; ((with_reducible refine (Hall1.out _).mono ?_); rintro e w1 ⟨rfl, hb⟩; have n0_ := Aside0.mk (below_step (by repeat (first | exact HB.out | apply below_alloc | apply pw_below_drewN | apply below_drew1)) hb); clear HB; have HB := n0_; clear n0_ hb)) | (go_at_call 150; ((with_reducible refine (Hall2.out _).mono ?_); rintro e w1 ⟨rfl, hb⟩; have n0_ := Aside0.mk (below_step (by repeat (first | exact HB.out | apply below_alloc | apply pw_below_drewN | apply below_drew1)) hb); clear HB; have HB := n0_; clear n0_ hb)) | (go_at_call 151; ((with_reducible refine (Hbare.out _).mono ?_); rintro e w1 ⟨rfl, rfl⟩)))
            go_ret2
            exact ⟨by rw [e.out]; rfl, HB.out⟩
          · obtain rfl : P = true := by cases P <;> simp_all
            go_wp2_with (first | (go_at_call 148; ((with_reducible refine (Hcp.out _).mono ?_); rintro e w' ⟨rfl, rfl⟩)) | (go_at_call 149; ((with_reducible refine (Hcut.out _ hG.out).mono ?_); rintro e w' ⟨rfl, nd, rfl⟩)) | (go_at_call 150; ((with_reducible refine (Hall1.out _).mono ?_); rintro e w1 ⟨rfl, hb⟩; have n0_ := Aside0.mk (below_step (by repeat (first | exact HB.out | apply below_alloc | apply pw_below_drewN | apply below_drew1)) hb); clear HB; have HB := n0_; clear n0_ hb)) | (go_at_call 150; ((with_reducible refine (Hall2.out _).mono ?_); rintro e w1 ⟨rfl, hb⟩; have n0_ := Aside0.mk (below_step (by repeat (first | exact HB.out | apply below_alloc | apply pw_below_drewN | apply below_drew1)) hb); clear HB; have HB := n0_; clear n0_ hb)) | (go_at_call 151; ((with_reducible refine (Hbare.out _).mono ?_); rintro e w1 ⟨rfl, rfl⟩)))
            go_ret2
            exact ⟨by rw [e.out]; rfl, HB.out⟩
        · have h8' : v.size ≤ 8 := by omega
          have Hvd : Hid (∀ j (hj : j < v.size), isDig (v[j]'hj) = true) := Lib.hid (by rw [Hv.out]; exact bare_digits wh HA.out.symm)
          have Hpd : Hid (pa.data.toList.all isDig = true) := Lib.hid (by
            cases hpt : pt with
            | false => rw [Hp.out, partOf_none t (by rw [← Hpt.out, hpt])]; rfl
            | true =>
              have hPP : P = true := by cases hq : P <;> simp_all
              have := HP.out; rw [hPP] at this; exact allDig_all pa this.symm)
          have hps : pa.size ≤ 40 := by rw [Hp.out]; exact Nat.le_trans (partOf_size t) hts
          clear h8
          have HF : Hid (nearOut s = nearEnd below (lenOf below v pa)) := Lib.hid (by
            unfold nearOut
            rw [if_neg h40, if_neg Hnb.out, if_neg (by rw [← Ht.out, ← Hw.out, ← Hv.out]; omega), ← Hb.out, ← Ht.out, ← Hw.out, ← Hv.out, ← Hp.out])
          have hPt : pt = false ∨ (pt = true ∧ P = true) := by cases pt <;> cases P <;> simp_all
          clear hbad
          go_enter Tryz.func130, Tryz.ntmps130
          rcases hPt with rfl | ⟨rfl, rfl⟩
          · go_wp2_with (first | (go_at_call 148; ((with_reducible refine (Hcp.out _).mono ?_); rintro e w' ⟨rfl, rfl⟩)) | (go_at_call 149; ((with_reducible refine (Hcut.out _ hG.out).mono ?_); rintro e w' ⟨rfl, nd, rfl⟩)) | (go_at_call 150; ((with_reducible refine (Hall1.out _).mono ?_); rintro e w1 ⟨rfl, hb⟩; have n0_ := Aside0.mk (below_step (by repeat (first | exact HB.out | apply below_alloc | apply pw_below_drewN | apply below_drew1)) hb); clear HB; have HB := n0_; clear n0_ hb)) | (go_at_call 150; ((with_reducible refine (Hall2.out _).mono ?_); rintro e w1 ⟨rfl, hb⟩; have n0_ := Aside0.mk (below_step (by repeat (first | exact HB.out | apply below_alloc | apply pw_below_drewN | apply below_drew1)) hb); clear HB; have HB := n0_; clear n0_ hb)) | (go_at_call 151; ((with_reducible refine (Hbare.out _).mono ?_); rintro e w1 ⟨rfl, rfl⟩)))
            have HW := Aside0.mk HB.out.size
            go_loopw [9] (fun n wr => ∃ pos : Nat, pos ≤ v.size ∧ n = .int .i64 ((decVal (v.data.toList.take pos) : Nat) : Int) ∧ wr.heap[w1.heap.size]? = some (.stringIter v pos) ∧ Aside0 (Below w.heap.size w wr)) (fun _ wr => v.size - wr.iterPos w1.heap.size)
            case atStart =>
              refine ⟨0, by omega, rfl, ?_, ⟨HB.out.alloc HB.out.size _⟩⟩
              have := World.iter_heap w1 v 0
              simpa using this
            case round =>
              clear HB
              obtain ⟨pos, hps2, rfl, hit, HB⟩ := hrel
              have hsz : w1.heap.size < wr.heap.size := (Array.getElem?_eq_some_iff.1 hit).1
              have hnb := decVal_bound (v.data.toList.take pos) (fun c hc => by
                obtain ⟨j, hj, rfl⟩ := List.getElem_of_mem (List.mem_of_mem_take hc)
                exact Hvd.out j hj)
              have hn8 : decVal (v.data.toList.take pos) < 100000000 := Nat.lt_of_lt_of_le hnb (Nat.pow_le_pow_right (n := 10) (by omega) (Nat.le_trans (List.length_take_le _ _) (by omega : pos ≤ 8)))
              clear hnb
              obtain ⟨nn, Hn⟩ : ∃ nn, Hid (nn = decVal (v.data.toList.take pos)) := ⟨_, Lib.hid rfl⟩
              rw [← Hn.out] at hn8
              rw [← Hn.out]
              by_cases hp : pos < v.size
              · have hd := Hvd.out pos hp
                obtain ⟨c, Hc⟩ : ∃ c : Nat, Hid (c = (v[pos]'hp).toNat) := ⟨_, Lib.hid rfl⟩
                have hc3 : 48 ≤ c ∧ c ≤ 57 := by rw [Hc.out]; unfold isDig at hd; simpa using hd
                obtain ⟨hc1, hc2⟩ := hc3
                have hnx : ∀ ty, (Instr.next (.pointer (some ⟨w1.heap.size, 0, none⟩)) true ty).run Tryz.prog wr = .ok (.tuple #[.bool true, .int .i64 pos, .int .i32 c]) (wr.iterAt w1.heap.size v (pos + 1)) := fun ty => by
                  rw [Hc.out]; exact Lib.run_next_ascii_at wr w1.heap.size v pos ty hit hp (by rw [← Hc.out]; omega)
                have Hbw2 := Aside0.mk (Lib.below_iterAt HB.out (k := w1.heap.size) HW.out v (pos + 1))
                have hit2 := Lib.iterAt_heap wr w1.heap.size v pos (pos + 1) hit
                clear hd
                go_wp2
                go_roundw
                case rel => exact ⟨pos + 1, by omega, by
                  rw [decVal_snoc v pos hp, ← Hn.out, ← Hc.out]; go_num, hit2, Hbw2⟩
                case measure => simp only [World.iterPos, hit2, hit]; omega
              · have hnx : ∀ ty, (Instr.next (.pointer (some ⟨w1.heap.size, 0, none⟩)) true ty).run Tryz.prog wr = _ := fun ty => Lib.run_next_end_at wr w1.heap.size v pos ty hit hp
                have Hn2 : Hid (nn = decVal v.data.toList) := Lib.hid (by rw [Hn.out, List.take_of_length_le (by rw [data_length]; omega)])
                clear Hn
                obtain ⟨m, Hm⟩ : ∃ m, Hid (m = (dblOut pa).1) := ⟨_, Lib.hid rfl⟩
                obtain ⟨r, Hr⟩ : ∃ m, Hid (m = (dblOut pa).2) := ⟨_, Lib.hid rfl⟩
                have hmr := dblOut_bound pa Hpd.out
                rw [← Hm.out, ← Hr.out] at hmr
                obtain ⟨hm0, hm1, hr⟩ := hmr
                have Hdw : Hid (∀ w, Calls Tryz.prog 152 #[.string pa] w fun e w' => e = .returned (.tuple #[.int .i64 m, .int .i64 r]) ∧ Below w.heap.size w w') := Lib.hid fun w => by rw [Hm.out, Hr.out]; exact doubled_walk pa w (by omega) Hpd.out
                rcases hr with rfl | rfl | rfl
                · skip
                  have hL : Hid (nearOut s = nearEnd below ((nn : Int) * 65536 + m)) := Lib.hid (by rw [HF.out, len_at _ _ _ _ _ _ Hn2.out Hm.out Hr.out]; first | rw [len_low] | rw [len_up] | rw [len_half_f] | rw [len_half_t])
                  by_cases hin : (nn : Int) * 65536 + m ≤ 1099511627776
                  · cases below
                    · have e : Hid (nearOut s = ((nn : Int) * 65536 + m, 0)) := Lib.hid (by rw [hL.out]; first | rw [near_in_f _ hin] | rw [near_in_t _ hin])
                      go_wp2_with (first | (go_at_call 152; ((with_reducible refine (Hdw.out _).mono ?_); rintro e w2 ⟨rfl, hb⟩; have n0_ := Aside0.mk (below_step (by repeat (first | exact HB.out | apply below_alloc | apply pw_below_drewN | apply below_drew1)) hb); clear HB; have HB := n0_; clear n0_ hb)) | (go_at_call 62; ((with_reducible refine (in_yes _ _ (by omega) hin).mono ?_); rintro e w2 ⟨rfl, rfl⟩)))
                      go_ret2
                      exact ⟨by rw [e.out]; rfl, HB.out⟩
                    · have e : Hid (nearOut s = (-((nn : Int) * 65536 + m), 0)) := Lib.hid (by rw [hL.out]; first | rw [near_in_f _ hin] | rw [near_in_t _ hin])
                      go_wp2_with (first | (go_at_call 152; ((with_reducible refine (Hdw.out _).mono ?_); rintro e w2 ⟨rfl, hb⟩; have n0_ := Aside0.mk (below_step (by repeat (first | exact HB.out | apply below_alloc | apply pw_below_drewN | apply below_drew1)) hb); clear HB; have HB := n0_; clear n0_ hb)) | (go_at_call 62; ((with_reducible refine (in_yes _ _ (by omega) hin).mono ?_); rintro e w2 ⟨rfl, rfl⟩)))
                      go_ret2
                      exact ⟨by rw [e.out]; rfl, HB.out⟩
                  · have e : Hid (nearOut s = (0, 3)) := Lib.hid (by rw [hL.out, near_out _ _ hin])
                    go_wp2_with (first | (go_at_call 152; ((with_reducible refine (Hdw.out _).mono ?_); rintro e w2 ⟨rfl, hb⟩; have n0_ := Aside0.mk (below_step (by repeat (first | exact HB.out | apply below_alloc | apply pw_below_drewN | apply below_drew1)) hb); clear HB; have HB := n0_; clear n0_ hb)) | (go_at_call 62; ((with_reducible refine (in_no _ _ (by omega)).mono ?_); rintro e w2 ⟨rfl, rfl⟩)))
                    go_ret2
                    exact ⟨by rw [e.out]; rfl, HB.out⟩
                · skip
                  cases below
                  · skip
                    have hL : Hid (nearOut s = nearEnd false ((nn : Int) * 65536 + m + 1)) := Lib.hid (by rw [HF.out, len_at _ _ _ _ _ _ Hn2.out Hm.out Hr.out]; first | rw [len_low] | rw [len_up] | rw [len_half_f] | rw [len_half_t])
                    by_cases hin : (nn : Int) * 65536 + m + 1 ≤ 1099511627776
                    · have e : Hid (nearOut s = ((nn : Int) * 65536 + m + 1, 0)) := Lib.hid (by rw [hL.out]; first | rw [near_in_f _ hin] | rw [near_in_t _ hin])
                      go_wp2_with (first | (go_at_call 152; ((with_reducible refine (Hdw.out _).mono ?_); rintro e w2 ⟨rfl, hb⟩; have n0_ := Aside0.mk (below_step (by repeat (first | exact HB.out | apply below_alloc | apply pw_below_drewN | apply below_drew1)) hb); clear HB; have HB := n0_; clear n0_ hb)) | (go_at_call 62; ((with_reducible refine (in_yes _ _ (by omega) hin).mono ?_); rintro e w2 ⟨rfl, rfl⟩)))
                      go_ret2
                      exact ⟨by rw [e.out]; rfl, HB.out⟩
                    · have e : Hid (nearOut s = (0, 3)) := Lib.hid (by rw [hL.out, near_out _ _ hin])
                      go_wp2_with (first | (go_at_call 152; ((with_reducible refine (Hdw.out _).mono ?_); rintro e w2 ⟨rfl, hb⟩; have n0_ := Aside0.mk (below_step (by repeat (first | exact HB.out | apply below_alloc | apply pw_below_drewN | apply below_drew1)) hb); clear HB; have HB := n0_; clear n0_ hb)) | (go_at_call 62; ((with_reducible refine (in_no _ _ (by omega)).mono ?_); rintro e w2 ⟨rfl, rfl⟩)))
                      go_ret2
                      exact ⟨by rw [e.out]; rfl, HB.out⟩
                  · skip
                    have hL : Hid (nearOut s = nearEnd true ((nn : Int) * 65536 + m)) := Lib.hid (by rw [HF.out, len_at _ _ _ _ _ _ Hn2.out Hm.out Hr.out]; first | rw [len_low] | rw [len_up] | rw [len_half_f] | rw [len_half_t])
                    by_cases hin : (nn : Int) * 65536 + m ≤ 1099511627776
                    · have e : Hid (nearOut s = (-((nn : Int) * 65536 + m), 0)) := Lib.hid (by rw [hL.out]; first | rw [near_in_f _ hin] | rw [near_in_t _ hin])
                      go_wp2_with (first | (go_at_call 152; ((with_reducible refine (Hdw.out _).mono ?_); rintro e w2 ⟨rfl, hb⟩; have n0_ := Aside0.mk (below_step (by repeat (first | exact HB.out | apply below_alloc | apply pw_below_drewN | apply below_drew1)) hb); clear HB; have HB := n0_; clear n0_ hb)) | (go_at_call 62; ((with_reducible refine (in_yes _ _ (by omega) hin).mono ?_); rintro e w2 ⟨rfl, rfl⟩)))
                      go_ret2
                      exact ⟨by rw [e.out]; rfl, HB.out⟩
                    · have e : Hid (nearOut s = (0, 3)) := Lib.hid (by rw [hL.out, near_out _ _ hin])
                      go_wp2_with (first | (go_at_call 152; ((with_reducible refine (Hdw.out _).mono ?_); rintro e w2 ⟨rfl, hb⟩; have n0_ := Aside0.mk (below_step (by repeat (first | exact HB.out | apply below_alloc | apply pw_below_drewN | apply below_drew1)) hb); clear HB; have HB := n0_; clear n0_ hb)) | (go_at_call 62; ((with_reducible refine (in_no _ _ (by omega)).mono ?_); rintro e w2 ⟨rfl, rfl⟩)))
                      go_ret2
                      exact ⟨by rw [e.out]; rfl, HB.out⟩
                · skip
                  have hL : Hid (nearOut s = nearEnd below ((nn : Int) * 65536 + m + 1)) := Lib.hid (by rw [HF.out, len_at _ _ _ _ _ _ Hn2.out Hm.out Hr.out]; first | rw [len_low] | rw [len_up] | rw [len_half_f] | rw [len_half_t])
                  by_cases hin : (nn : Int) * 65536 + m + 1 ≤ 1099511627776
                  · cases below
                    · have e : Hid (nearOut s = ((nn : Int) * 65536 + m + 1, 0)) := Lib.hid (by rw [hL.out]; first | rw [near_in_f _ hin] | rw [near_in_t _ hin])
                      go_wp2_with (first | (go_at_call 152; ((with_reducible refine (Hdw.out _).mono ?_); rintro e w2 ⟨rfl, hb⟩; have n0_ := Aside0.mk (below_step (by repeat (first | exact HB.out | apply below_alloc | apply pw_below_drewN | apply below_drew1)) hb); clear HB; have HB := n0_; clear n0_ hb)) | (go_at_call 62; ((with_reducible refine (in_yes _ _ (by omega) hin).mono ?_); rintro e w2 ⟨rfl, rfl⟩)))
                      go_ret2
                      exact ⟨by rw [e.out]; rfl, HB.out⟩
                    · have e : Hid (nearOut s = (-((nn : Int) * 65536 + m + 1), 0)) := Lib.hid (by rw [hL.out]; first | rw [near_in_f _ hin] | rw [near_in_t _ hin])
                      go_wp2_with (first | (go_at_call 152; ((with_reducible refine (Hdw.out _).mono ?_); rintro e w2 ⟨rfl, hb⟩; have n0_ := Aside0.mk (below_step (by repeat (first | exact HB.out | apply below_alloc | apply pw_below_drewN | apply below_drew1)) hb); clear HB; have HB := n0_; clear n0_ hb)) | (go_at_call 62; ((with_reducible refine (in_yes _ _ (by omega) hin).mono ?_); rintro e w2 ⟨rfl, rfl⟩)))
                      go_ret2
                      exact ⟨by rw [e.out]; rfl, HB.out⟩
                  · have e : Hid (nearOut s = (0, 3)) := Lib.hid (by rw [hL.out, near_out _ _ hin])
                    go_wp2_with (first | (go_at_call 152; ((with_reducible refine (Hdw.out _).mono ?_); rintro e w2 ⟨rfl, hb⟩; have n0_ := Aside0.mk (below_step (by repeat (first | exact HB.out | apply below_alloc | apply pw_below_drewN | apply below_drew1)) hb); clear HB; have HB := n0_; clear n0_ hb)) | (go_at_call 62; ((with_reducible refine (in_no _ _ (by omega)).mono ?_); rintro e w2 ⟨rfl, rfl⟩)))
                    go_ret2
                    exact ⟨by rw [e.out]; rfl, HB.out⟩
          · go_wp2_with (first | (go_at_call 148; ((with_reducible refine (Hcp.out _).mono ?_); rintro e w' ⟨rfl, rfl⟩)) | (go_at_call 149; ((with_reducible refine (Hcut.out _ hG.out).mono ?_); rintro e w' ⟨rfl, nd, rfl⟩)) | (go_at_call 150; ((with_reducible refine (Hall1.out _).mono ?_); rintro e w1 ⟨rfl, hb⟩; have n0_ := Aside0.mk (below_step (by repeat (first | exact HB.out | apply below_alloc | apply pw_below_drewN | apply below_drew1)) hb); clear HB; have HB := n0_; clear n0_ hb)) | (go_at_call 150; ((with_reducible refine (Hall2.out _).mono ?_); rintro e w1 ⟨rfl, hb⟩; have n0_ := Aside0.mk (below_step (by repeat (first | exact HB.out | apply below_alloc | apply pw_below_drewN | apply below_drew1)) hb); clear HB; have HB := n0_; clear n0_ hb)) | (go_at_call 151; ((with_reducible refine (Hbare.out _).mono ?_); rintro e w1 ⟨rfl, rfl⟩)))
            have HW := Aside0.mk HB.out.size
            go_loopw [9] (fun n wr => ∃ pos : Nat, pos ≤ v.size ∧ n = .int .i64 ((decVal (v.data.toList.take pos) : Nat) : Int) ∧ wr.heap[w1.heap.size]? = some (.stringIter v pos) ∧ Aside0 (Below w.heap.size w wr)) (fun _ wr => v.size - wr.iterPos w1.heap.size)
            case atStart =>
              refine ⟨0, by omega, rfl, ?_, ⟨HB.out.alloc HB.out.size _⟩⟩
              have := World.iter_heap w1 v 0
              simpa using this
            case round =>
              clear HB
              obtain ⟨pos, hps2, rfl, hit, HB⟩ := hrel
              have hsz : w1.heap.size < wr.heap.size := (Array.getElem?_eq_some_iff.1 hit).1
              have hnb := decVal_bound (v.data.toList.take pos) (fun c hc => by
                obtain ⟨j, hj, rfl⟩ := List.getElem_of_mem (List.mem_of_mem_take hc)
                exact Hvd.out j hj)
              have hn8 : decVal (v.data.toList.take pos) < 100000000 := Nat.lt_of_lt_of_le hnb (Nat.pow_le_pow_right (n := 10) (by omega) (Nat.le_trans (List.length_take_le _ _) (by omega : pos ≤ 8)))
              clear hnb
              obtain ⟨nn, Hn⟩ : ∃ nn, Hid (nn = decVal (v.data.toList.take pos)) := ⟨_, Lib.hid rfl⟩
              rw [← Hn.out] at hn8
              rw [← Hn.out]
              by_cases hp : pos < v.size
              · have hd := Hvd.out pos hp
                obtain ⟨c, Hc⟩ : ∃ c : Nat, Hid (c = (v[pos]'hp).toNat) := ⟨_, Lib.hid rfl⟩
                have hc3 : 48 ≤ c ∧ c ≤ 57 := by rw [Hc.out]; unfold isDig at hd; simpa using hd
                obtain ⟨hc1, hc2⟩ := hc3
                have hnx : ∀ ty, (Instr.next (.pointer (some ⟨w1.heap.size, 0, none⟩)) true ty).run Tryz.prog wr = .ok (.tuple #[.bool true, .int .i64 pos, .int .i32 c]) (wr.iterAt w1.heap.size v (pos + 1)) := fun ty => by
                  rw [Hc.out]; exact Lib.run_next_ascii_at wr w1.heap.size v pos ty hit hp (by rw [← Hc.out]; omega)
                have Hbw2 := Aside0.mk (Lib.below_iterAt HB.out (k := w1.heap.size) HW.out v (pos + 1))
                have hit2 := Lib.iterAt_heap wr w1.heap.size v pos (pos + 1) hit
                clear hd
                go_wp2
                go_roundw
                case rel => exact ⟨pos + 1, by omega, by
                  rw [decVal_snoc v pos hp, ← Hn.out, ← Hc.out]; go_num, hit2, Hbw2⟩
                case measure => simp only [World.iterPos, hit2, hit]; omega
              · have hnx : ∀ ty, (Instr.next (.pointer (some ⟨w1.heap.size, 0, none⟩)) true ty).run Tryz.prog wr = _ := fun ty => Lib.run_next_end_at wr w1.heap.size v pos ty hit hp
                have Hn2 : Hid (nn = decVal v.data.toList) := Lib.hid (by rw [Hn.out, List.take_of_length_le (by rw [data_length]; omega)])
                clear Hn
                obtain ⟨m, Hm⟩ : ∃ m, Hid (m = (dblOut pa).1) := ⟨_, Lib.hid rfl⟩
                obtain ⟨r, Hr⟩ : ∃ m, Hid (m = (dblOut pa).2) := ⟨_, Lib.hid rfl⟩
                have hmr := dblOut_bound pa Hpd.out
                rw [← Hm.out, ← Hr.out] at hmr
                obtain ⟨hm0, hm1, hr⟩ := hmr
                have Hdw : Hid (∀ w, Calls Tryz.prog 152 #[.string pa] w fun e w' => e = .returned (.tuple #[.int .i64 m, .int .i64 r]) ∧ Below w.heap.size w w') := Lib.hid fun w => by rw [Hm.out, Hr.out]; exact doubled_walk pa w (by omega) Hpd.out
                rcases hr with rfl | rfl | rfl
                · skip
                  have hL : Hid (nearOut s = nearEnd below ((nn : Int) * 65536 + m)) := Lib.hid (by rw [HF.out, len_at _ _ _ _ _ _ Hn2.out Hm.out Hr.out]; first | rw [len_low] | rw [len_up] | rw [len_half_f] | rw [len_half_t])
                  by_cases hin : (nn : Int) * 65536 + m ≤ 1099511627776
                  · cases below
                    · have e : Hid (nearOut s = ((nn : Int) * 65536 + m, 0)) := Lib.hid (by rw [hL.out]; first | rw [near_in_f _ hin] | rw [near_in_t _ hin])
                      go_wp2_with (first | (go_at_call 152; ((with_reducible refine (Hdw.out _).mono ?_); rintro e w2 ⟨rfl, hb⟩; have n0_ := Aside0.mk (below_step (by repeat (first | exact HB.out | apply below_alloc | apply pw_below_drewN | apply below_drew1)) hb); clear HB; have HB := n0_; clear n0_ hb)) | (go_at_call 62; ((with_reducible refine (in_yes _ _ (by omega) hin).mono ?_); rintro e w2 ⟨rfl, rfl⟩)))
                      go_ret2
                      exact ⟨by rw [e.out]; rfl, HB.out⟩
                    · have e : Hid (nearOut s = (-((nn : Int) * 65536 + m), 0)) := Lib.hid (by rw [hL.out]; first | rw [near_in_f _ hin] | rw [near_in_t _ hin])
                      go_wp2_with (first | (go_at_call 152; ((with_reducible refine (Hdw.out _).mono ?_); rintro e w2 ⟨rfl, hb⟩; have n0_ := Aside0.mk (below_step (by repeat (first | exact HB.out | apply below_alloc | apply pw_below_drewN | apply below_drew1)) hb); clear HB; have HB := n0_; clear n0_ hb)) | (go_at_call 62; ((with_reducible refine (in_yes _ _ (by omega) hin).mono ?_); rintro e w2 ⟨rfl, rfl⟩)))
                      go_ret2
                      exact ⟨by rw [e.out]; rfl, HB.out⟩
                  · have e : Hid (nearOut s = (0, 3)) := Lib.hid (by rw [hL.out, near_out _ _ hin])
                    go_wp2_with (first | (go_at_call 152; ((with_reducible refine (Hdw.out _).mono ?_); rintro e w2 ⟨rfl, hb⟩; have n0_ := Aside0.mk (below_step (by repeat (first | exact HB.out | apply below_alloc | apply pw_below_drewN | apply below_drew1)) hb); clear HB; have HB := n0_; clear n0_ hb)) | (go_at_call 62; ((with_reducible refine (in_no _ _ (by omega)).mono ?_); rintro e w2 ⟨rfl, rfl⟩)))
                    go_ret2
                    exact ⟨by rw [e.out]; rfl, HB.out⟩
                · skip
                  cases below
                  · skip
                    have hL : Hid (nearOut s = nearEnd false ((nn : Int) * 65536 + m + 1)) := Lib.hid (by rw [HF.out, len_at _ _ _ _ _ _ Hn2.out Hm.out Hr.out]; first | rw [len_low] | rw [len_up] | rw [len_half_f] | rw [len_half_t])
                    by_cases hin : (nn : Int) * 65536 + m + 1 ≤ 1099511627776
                    · have e : Hid (nearOut s = ((nn : Int) * 65536 + m + 1, 0)) := Lib.hid (by rw [hL.out]; first | rw [near_in_f _ hin] | rw [near_in_t _ hin])
                      go_wp2_with (first | (go_at_call 152; ((with_reducible refine (Hdw.out _).mono ?_); rintro e w2 ⟨rfl, hb⟩; have n0_ := Aside0.mk (below_step (by repeat (first | exact HB.out | apply below_alloc | apply pw_below_drewN | apply below_drew1)) hb); clear HB; have HB := n0_; clear n0_ hb)) | (go_at_call 62; ((with_reducible refine (in_yes _ _ (by omega) hin).mono ?_); rintro e w2 ⟨rfl, rfl⟩)))
                      go_ret2
                      exact ⟨by rw [e.out]; rfl, HB.out⟩
                    · have e : Hid (nearOut s = (0, 3)) := Lib.hid (by rw [hL.out, near_out _ _ hin])
                      go_wp2_with (first | (go_at_call 152; ((with_reducible refine (Hdw.out _).mono ?_); rintro e w2 ⟨rfl, hb⟩; have n0_ := Aside0.mk (below_step (by repeat (first | exact HB.out | apply below_alloc | apply pw_below_drewN | apply below_drew1)) hb); clear HB; have HB := n0_; clear n0_ hb)) | (go_at_call 62; ((with_reducible refine (in_no _ _ (by omega)).mono ?_); rintro e w2 ⟨rfl, rfl⟩)))
                      go_ret2
                      exact ⟨by rw [e.out]; rfl, HB.out⟩
                  · skip
                    have hL : Hid (nearOut s = nearEnd true ((nn : Int) * 65536 + m)) := Lib.hid (by rw [HF.out, len_at _ _ _ _ _ _ Hn2.out Hm.out Hr.out]; first | rw [len_low] | rw [len_up] | rw [len_half_f] | rw [len_half_t])
                    by_cases hin : (nn : Int) * 65536 + m ≤ 1099511627776
                    · have e : Hid (nearOut s = (-((nn : Int) * 65536 + m), 0)) := Lib.hid (by rw [hL.out]; first | rw [near_in_f _ hin] | rw [near_in_t _ hin])
                      go_wp2_with (first | (go_at_call 152; ((with_reducible refine (Hdw.out _).mono ?_); rintro e w2 ⟨rfl, hb⟩; have n0_ := Aside0.mk (below_step (by repeat (first | exact HB.out | apply below_alloc | apply pw_below_drewN | apply below_drew1)) hb); clear HB; have HB := n0_; clear n0_ hb)) | (go_at_call 62; ((with_reducible refine (in_yes _ _ (by omega) hin).mono ?_); rintro e w2 ⟨rfl, rfl⟩)))
                      go_ret2
                      exact ⟨by rw [e.out]; rfl, HB.out⟩
                    · have e : Hid (nearOut s = (0, 3)) := Lib.hid (by rw [hL.out, near_out _ _ hin])
                      go_wp2_with (first | (go_at_call 152; ((with_reducible refine (Hdw.out _).mono ?_); rintro e w2 ⟨rfl, hb⟩; have n0_ := Aside0.mk (below_step (by repeat (first | exact HB.out | apply below_alloc | apply pw_below_drewN | apply below_drew1)) hb); clear HB; have HB := n0_; clear n0_ hb)) | (go_at_call 62; ((with_reducible refine (in_no _ _ (by omega)).mono ?_); rintro e w2 ⟨rfl, rfl⟩)))
                      go_ret2
                      exact ⟨by rw [e.out]; rfl, HB.out⟩
                · skip
                  have hL : Hid (nearOut s = nearEnd below ((nn : Int) * 65536 + m + 1)) := Lib.hid (by rw [HF.out, len_at _ _ _ _ _ _ Hn2.out Hm.out Hr.out]; first | rw [len_low] | rw [len_up] | rw [len_half_f] | rw [len_half_t])
                  by_cases hin : (nn : Int) * 65536 + m + 1 ≤ 1099511627776
                  · cases below
                    · have e : Hid (nearOut s = ((nn : Int) * 65536 + m + 1, 0)) := Lib.hid (by rw [hL.out]; first | rw [near_in_f _ hin] | rw [near_in_t _ hin])
                      go_wp2_with (first | (go_at_call 152; ((with_reducible refine (Hdw.out _).mono ?_); rintro e w2 ⟨rfl, hb⟩; have n0_ := Aside0.mk (below_step (by repeat (first | exact HB.out | apply below_alloc | apply pw_below_drewN | apply below_drew1)) hb); clear HB; have HB := n0_; clear n0_ hb)) | (go_at_call 62; ((with_reducible refine (in_yes _ _ (by omega) hin).mono ?_); rintro e w2 ⟨rfl, rfl⟩)))
                      go_ret2
                      exact ⟨by rw [e.out]; rfl, HB.out⟩
                    · have e : Hid (nearOut s = (-((nn : Int) * 65536 + m + 1), 0)) := Lib.hid (by rw [hL.out]; first | rw [near_in_f _ hin] | rw [near_in_t _ hin])
                      go_wp2_with (first | (go_at_call 152; ((with_reducible refine (Hdw.out _).mono ?_); rintro e w2 ⟨rfl, hb⟩; have n0_ := Aside0.mk (below_step (by repeat (first | exact HB.out | apply below_alloc | apply pw_below_drewN | apply below_drew1)) hb); clear HB; have HB := n0_; clear n0_ hb)) | (go_at_call 62; ((with_reducible refine (in_yes _ _ (by omega) hin).mono ?_); rintro e w2 ⟨rfl, rfl⟩)))
                      go_ret2
                      exact ⟨by rw [e.out]; rfl, HB.out⟩
                  · have e : Hid (nearOut s = (0, 3)) := Lib.hid (by rw [hL.out, near_out _ _ hin])
                    go_wp2_with (first | (go_at_call 152; ((with_reducible refine (Hdw.out _).mono ?_); rintro e w2 ⟨rfl, hb⟩; have n0_ := Aside0.mk (below_step (by repeat (first | exact HB.out | apply below_alloc | apply pw_below_drewN | apply below_drew1)) hb); clear HB; have HB := n0_; clear n0_ hb)) | (go_at_call 62; ((with_reducible refine (in_no _ _ (by omega)).mono ?_); rintro e w2 ⟨rfl, rfl⟩)))
                    go_ret2
                    exact ⟨by rw [e.out]; rfl, HB.out⟩
end Go.Proofs.YtckdgcpomkefpaaGreatDoor.Dg
end
section
namespace Go.Proofs.YtckdgcpomkefpaaGreatDoor.Dg
open Go.RowKit
set_option linter.unusedVariables false
set_option linter.unusedSimpArgs false
def lead (l : List UInt8) : Nat := (l.takeWhile isDig).length
theorem lead_cons (c : UInt8) (l : List UInt8) : lead (c :: l) = if isDig c then lead l + 1 else 0 := by
  unfold lead; rw [List.takeWhile_cons]; split <;> simp
theorem lead_all : ∀ l : List UInt8, l.all isDig = true → lead l = l.length
  | [], _ => rfl
  | c :: l, h => by
    rw [List.all_cons, Bool.and_eq_true] at h
    rw [lead_cons, if_pos h.1, lead_all l h.2]; rfl
theorem lead_append (l r : List UInt8) (h : l.all isDig = true) : lead (l ++ r) = l.length + lead r := by
  induction l with
  | nil => simp
  | cons c l ih =>
    rw [List.all_cons, Bool.and_eq_true] at h
    rw [List.cons_append, lead_cons, if_pos h.1, ih h.2, List.length_cons]; omega
def formT (T : List UInt8) : Option (Nat × Nat) :=
  if lead T = 0 then none
  else if lead T = T.length then some (lead T, lead T)
  else if T.getD (lead T) 0 = 46 then
    if lead (T.drop (lead T + 1)) = 0 then none
    else if lead T + 1 + lead (T.drop (lead T + 1)) = T.length then some (lead T, lead T + 1) else none
  else none
theorem index_one : ∀ T : List UInt8, (46 ∉ T → Lib.index T [46] = -1) ∧ (∀ A B, T = A ++ 46 :: B → 46 ∉ A → Lib.index T [46] = A.length)
  | [] => ⟨fun _ => rfl, fun A B h _ => by simp at h⟩
  | c :: T => by
    obtain ⟨h1, h2⟩ := index_one T
    refine ⟨fun h => ?_, fun A B h hA => ?_⟩
    · have hc : ¬ c = 46 := fun e => h (by rw [e]; exact List.mem_cons_self)
      have hp : [46].isPrefixOf (c :: T) = false := by simp [List.isPrefixOf]; exact fun e => hc e.symm
      rw [Lib.index, hp, h1 (fun hm => h (List.mem_cons_of_mem _ hm))]; rfl
    · cases A with
      | nil =>
        simp only [List.nil_append, List.cons.injEq] at h
        rw [h.1]
        simp [Lib.index, List.isPrefixOf]
      | cons a A =>
        simp only [List.cons_append, List.cons.injEq] at h
        have hc : ¬ c = 46 := fun e => hA (by rw [← h.1, e]; exact List.mem_cons_self)
        have hp : [46].isPrefixOf (c :: T) = false := by simp [List.isPrefixOf]; exact fun e => hc e.symm
        have h3 := h2 A B h.2 (fun hm => hA (List.mem_cons_of_mem _ hm))
        rw [Lib.index, hp, h3]
        have h4 : (((A.length : Int) == -1) : Bool) = false := by
          rw [beq_eq_false_iff_ne]; omega
        simp [h4]
theorem split_at (T : List UInt8) : 46 ∉ T ∨ ∃ A B, T = A ++ 46 :: B ∧ 46 ∉ A := by
  induction T with
  | nil => left; simp
  | cons c T ih =>
    by_cases hc : c = 46
    · right; exact ⟨[], T, by rw [hc]; rfl, by simp⟩
    · rcases ih with h | ⟨A, B, h, hA⟩
      · left; simp only [List.mem_cons, not_or]; exact ⟨fun e => hc e.symm, h⟩
      · right; exact ⟨c :: A, B, by rw [h]; rfl, by simp only [List.mem_cons, not_or]; exact ⟨fun e => hc e.symm, hA⟩⟩
theorem cut_none (T : List UInt8) (h : 46 ∉ T) : Lib.cut T [46] = (T, [], false) := by
  unfold Lib.cut
  rw [(index_one T).1 h, if_neg (by omega)]
theorem cut_some (A B : List UInt8) (h : 46 ∉ A) : Lib.cut (A ++ 46 :: B) [46] = (A, B, true) := by
  unfold Lib.cut
  rw [(index_one _).2 A B rfl h, if_pos (by omega)]
  have e : (A ++ 46 :: B).drop (A.length + 1) = B := by
    rw [show A ++ 46 :: B = (A ++ [46]) ++ B from by simp, List.drop_left' (by simp)]
  simp [e]
theorem allDig_iff (s : ByteArray) : allDig s = true ↔ s.data.toList ≠ [] ∧ s.data.toList.all isDig = true := by
  unfold allDig
  rw [← data_length, Bool.and_eq_true]
  cases s.data.toList <;> simp
def goodT (t : ByteArray) : Prop := ¬ (allDig (wholeOf t) = false ∨ (pointed t = true ∧ allDig (partOf t) = false))
theorem wholeOf_data (t : ByteArray) : (wholeOf t).data.toList = (Lib.cut t.data.toList [46]).1 := rfl
theorem partOf_data (t : ByteArray) : (partOf t).data.toList = (Lib.cut t.data.toList [46]).2.1 := rfl
theorem isDig46 : isDig 46 = false := by decide
theorem formT_good (t : ByteArray) (h : goodT t) : formT t.data.toList = some ((wholeOf t).size, if pointed t then (wholeOf t).size + 1 else (wholeOf t).size) := by
  have hw : allDig (wholeOf t) = true := by
    cases h1 : allDig (wholeOf t)
    · exact absurd (.inl h1) h
    · rfl
  obtain ⟨w1, w2⟩ := (allDig_iff _).1 hw
  rw [wholeOf_data] at w1 w2
  rcases split_at t.data.toList with hn | ⟨A, B, e, hA⟩
  · have hc := cut_none _ hn
    have hp : pointed t = false := by unfold pointed; rw [hc]
    have hsz : (wholeOf t).size = t.data.toList.length := by unfold wholeOf; rw [hc]; rfl
    rw [hc] at w1 w2
    have hl := lead_all _ w2
    have hlen : t.data.toList.length ≠ 0 := by rwa [Ne, List.length_eq_zero_iff]
    unfold formT
    rw [hl, if_neg hlen, if_pos rfl, hsz, hp]; rfl
  · have hc := cut_some A B hA
    rw [← e] at hc
    have hp : pointed t = true := by unfold pointed; rw [hc]
    have hq : allDig (partOf t) = true := by
      cases h1 : allDig (partOf t)
      · exact absurd (.inr ⟨hp, h1⟩) h
      · rfl
    obtain ⟨q1, q2⟩ := (allDig_iff _).1 hq
    rw [partOf_data, hc] at q1 q2
    rw [hc] at w1 w2
    have hsz : (wholeOf t).size = A.length := by unfold wholeOf; rw [hc]; rfl
    have hl : lead t.data.toList = A.length := by rw [e, lead_append A _ w2, lead_cons, isDig46]; simp
    have hA0 : A.length ≠ 0 := by rwa [Ne, List.length_eq_zero_iff]
    have hB0 : B.length ≠ 0 := by rwa [Ne, List.length_eq_zero_iff]
    have hd : t.data.toList.drop (A.length + 1) = B := by
      rw [e, show A ++ 46 :: B = (A ++ [46]) ++ B from by simp, List.drop_left' (by simp)]
    have hg : t.data.toList.getD A.length 0 = 46 := by rw [e]; simp [List.getD]
    have hlen : t.data.toList.length = A.length + 1 + B.length := by rw [e]; simp; omega
    unfold formT
    rw [hl, hd, hg, hlen, lead_all B q2, if_neg hA0, if_neg (by omega), if_pos rfl, if_neg hB0, if_pos rfl, hsz, hp]; rfl
def halfOut : List Nat → Int
  | [] => -1
  | d :: l => if d < 5 then -1 else if 5 < d then 1 else if l.all (· == 0) then 0 else 1
theorem dbl_zero : ∀ l : List Nat, (∀ d ∈ l, d < 10) → (((dbl l).2 = 0 ∧ (dbl l).1.all (· == 0) = true) ↔ l.all (· == 0) = true)
  | [], _ => by simp [dbl]
  | a :: l, h => by
    have ih := dbl_zero l (fun d hd => h d (List.mem_cons_of_mem _ hd))
    have ha := h a List.mem_cons_self
    have hc := dbl_carry l (fun d hd => h d (List.mem_cons_of_mem _ hd))
    simp only [dbl, List.all_cons, Bool.and_eq_true, beq_iff_eq]
    constructor
    · rintro ⟨h1, h2, h3⟩
      exact ⟨by omega, ih.1 ⟨by omega, h3⟩⟩
    · rintro ⟨rfl, h2⟩
      obtain ⟨h3, h4⟩ := ih.2 h2
      exact ⟨by omega, by omega, h4⟩
theorem dbl_cons (d : Nat) (l : List Nat) : dbl (d :: l) = ((2 * d + (dbl l).2) % 10 :: (dbl l).1, (2 * d + (dbl l).2) / 10) := rfl
theorem halfOut_cons (d : Nat) (l : List Nat) : halfOut (d :: l) = if d < 5 then -1 else if 5 < d then 1 else if l.all (· == 0) then 0 else 1 := rfl
theorem half_dbl (L : List Nat) (h : ∀ d ∈ L, d < 10) : halfOut L = if (dbl L).2 = 0 then -1 else if (dbl L).1.all (· == 0) then 0 else 1 := by
  cases L with
  | nil => simp [halfOut, dbl]
  | cons d l =>
    have hd := h d List.mem_cons_self
    have hl : ∀ x ∈ l, x < 10 := fun x hx => h x (List.mem_cons_of_mem _ hx)
    have hc := dbl_carry l hl
    have hz := dbl_zero l hl
    rw [halfOut_cons, dbl_cons, List.all_cons]
    by_cases h1 : d < 5
    · rw [if_pos h1, if_pos (by omega)]
    · rw [if_neg h1, if_neg (by omega : ¬ (2 * d + (dbl l).2) / 10 = 0)]
      by_cases h2 : 5 < d
      · rw [if_pos h2]
        have e : ((2 * d + (dbl l).2) % 10 == 0) = false := by rw [beq_eq_false_iff_ne]; omega
        rw [e]; rfl
      · rw [if_neg h2]
        have e5 : d = 5 := by omega
        subst e5
        by_cases h3 : l.all (· == 0) = true
        · obtain ⟨z1, z2⟩ := hz.2 h3
          rw [if_pos h3, z1, z2]; rfl
        · rw [if_neg h3]
          rw [if_neg]
          intro h4
          rw [Bool.and_eq_true, beq_iff_eq] at h4
          exact h3 (hz.1 ⟨by omega, h4.2⟩)
theorem drounds_succ (k : Nat) (p : List Nat × Nat) : drounds (k + 1) p = ((dbl (drounds k p).1).1, 2 * (drounds k p).2 + (dbl (drounds k p).1).2) := rfl
theorem half_key (p : List Nat × Nat) (h : ∀ d ∈ p.1, d < 10) : ((((2 * p.2 + (dbl p.1).2) / 2 : Nat) : Int), if (2 * p.2 + (dbl p.1).2) % 2 = 0 then (-1 : Int) else if (dbl p.1).1.all (· == 0) then 0 else 1) = (((p.2 : Nat) : Int), halfOut p.1) := by
  have hc := dbl_carry _ h
  rw [half_dbl _ h]
  generalize (dbl p.1).2 = c at *
  have e1 : (2 * p.2 + c) / 2 = p.2 := by omega
  rw [e1]
  congr 1
  by_cases h0 : c = 0
  · rw [if_pos h0, if_pos (by omega)]
  · rw [if_neg h0, if_neg (by omega)]
theorem dblOut_half (s : ByteArray) (h : s.data.toList.all isDig = true) : dblOut s = ((((drounds 16 (digs s, 0)).2 : Nat) : Int), halfOut (drounds 16 (digs s, 0)).1) := by
  have hd := drounds_digits (digs s) 0 (digs_small s h) 16
  rw [dblOut_eq, drounds_succ 16]
  generalize drounds 16 (digs s, 0) = p at *
  exact half_key p hd
theorem drounds_zero (p : List Nat × Nat) : drounds 0 p = p := rfl
theorem signless_yes (s : ByteArray) (h : Lib.hasPrefix s.data.toList [45] = true) : (signless s).data.toList = s.data.toList.drop 1 := by
  show Lib.trimPrefix s.data.toList [45] = _
  unfold Lib.trimPrefix; rw [if_pos h]; rfl
theorem signless_no (s : ByteArray) (h : Lib.hasPrefix s.data.toList [45] = false) : (signless s).data.toList = s.data.toList.drop 0 := by
  show Lib.trimPrefix s.data.toList [45] = _
  unfold Lib.trimPrefix; rw [if_neg (by rw [h]; decide)]; rfl
theorem decVal_bare : ∀ l : List UInt8, decVal (Lib.trimLeftB l 48) = decVal l
  | [] => rfl
  | c :: l => by
    unfold Lib.trimLeftB
    rw [List.dropWhile_cons]
    by_cases hc : c = 48
    · subst hc
      rw [if_pos (by simp)]
      have := decVal_bare l
      unfold Lib.trimLeftB at this
      rw [this]; rfl
    · rw [if_neg (by simpa using hc)]
def atOf (s : ByteArray) : Nat := if signed s then 1 else 0
theorem signless_drop (s : ByteArray) : (signless s).data.toList = s.data.toList.drop (atOf s) := by
  unfold atOf
  cases h : signed s with
  | true => exact signless_yes s h
  | false => exact signless_no s h
theorem nearEnd_in (b : Bool) (n : Int) (hn : 0 ≤ n) (h : (nearEnd b n).2 = 0) : -1099511627776 ≤ (nearEnd b n).1 ∧ (nearEnd b n).1 ≤ 1099511627776 := by
  unfold nearEnd at h ⊢
  by_cases h1 : n ≤ 1099511627776
  · cases b <;> simp [h1] <;> omega
  · simp [h1] at h
theorem lenOf_nonneg (b : Bool) (v p : ByteArray) (hp : p.data.toList.all isDig = true) : 0 ≤ lenOf b v p := by
  rw [len_at _ _ _ _ _ _ rfl rfl rfl]
  have := dblOut_bound p hp
  unfold lenR; split <;> omega
theorem nearOut_in (s : ByteArray) (h : (nearOut s).2 = 0) : -1099511627776 ≤ (nearOut s).1 ∧ (nearOut s).1 ≤ 1099511627776 := by
  have h' := h
  unfold nearOut at h ⊢
  split at h
  · simp at h
  · rename_i h1
    rw [if_neg h1]
    split at h
    · simp at h
    · rename_i h2
      rw [if_neg h2]
      split at h
      · simp at h
      · rename_i h3
        rw [if_neg h3]
        refine nearEnd_in _ _ (lenOf_nonneg _ _ _ ?_) h
        cases hp : pointed (signless s) with
        | false => rw [partOf_none _ (by rw [hp])]; rfl
        | true =>
          cases h4 : allDig (partOf (signless s))
          · exact absurd (.inr ⟨hp, h4⟩) h2
          · exact allDig_all _ h4
end Go.Proofs.YtckdgcpomkefpaaGreatDoor.Dg
end
section
set_option linter.unusedVariables false
set_option linter.unusedSimpArgs false
set_option maxRecDepth 100000
namespace Go.Proofs.YtckdgcpomkefpaaGreatDoor.En
open Go
section
variable {P : Program} {g : Gh} {w w' : World} {bs : Bx}
def Gh.with (g : Gh) (γ : Nat) : Gh := { g with G := fun β j => g.G β j ∨ β = γ }
theorem Mem.with (hm : Mem P g w bs) (hw : Fr (fun _ _ => False) w w') {γ : Nat} (h0 : w.heap.size ≤ γ) (h1 : γ < w'.heap.size) : Mem P (g.with γ) w' bs := by
  have hk := hm.still hw
  have hle : g.Le (g.with γ) w' w' := ⟨fun β j hj => ⟨.inl hj, rfl⟩, fun n v hv => hv, fun d β hd => hd⟩
  refine ⟨fun β j hj => ?_, fun d cs hd => ?_, hk.apart, fun n v E hn => ?_, hk.tkap, hk.tkbx, hk.ty⟩
  · rcases hj with hj | rfl
    · exact hk.gsz β j hj
    · exact h1
  · obtain ⟨β, us, T, e1, e2, e3, e4, e5⟩ := hk.box d cs hd
    obtain ⟨β', us', T', f1, f2, _⟩ := hm.box d cs hd
    have hlt := (Array.getElem?_eq_some_iff.1 f2).1
    have hββ : β = β' := by rw [e1] at f1; injection f1
    refine ⟨β, us, T, e1, e2, e3, fun j hj => ?_, fun j c hc => let ⟨u, hu, hr⟩ := e5 j c hc; ⟨u, hu, hr.mono hle⟩⟩
    rcases hj with hj | hj
    · exact e4 j hj
    · omega
  · refine (hk.own n v E hn).keep fun β hβ => ⟨rfl, fun j hj => ?_⟩
    rcases hj with hj | rfl
    · exact hj
    · have := (hm.own n v E hn).lt hβ
      omega
end
end Go.Proofs.YtckdgcpomkefpaaGreatDoor.En
end
section
set_option linter.unusedVariables false
set_option linter.unusedSimpArgs false
set_option maxRecDepth 100000
namespace Go.Proofs.YtckdgcpomkefpaaGreatDoor.En
open Go
def nrE : List AV → Bx → Option (Bool × Out)
  | [.v (.string s)], [none] => some (true, .ret (.tup [I (Dg.nearOut s).1, I (Dg.nearOut s).2]) [none])
  | _, _ => none
theorem nr_sound {ext : CallF} (hext : SoundCall PR ext) : SoundCall PR (addF 130 nrE ext) := by
  refine sound_ext hext _ (fn := (PR.funcs[130]?).getD default) (by kernel_rfl) (by kernel_rfl) nrE fun xs bs out h g w vs hm hL hl hv hr => ?_
  unfold nrE at h
  split at h
  · rename_i s
    cases h
    obtain rfl := args_v (P := PR) [.string s] hv hr
    refine (Dg.near_walk s w ⟨hL.P⟩).mono fun e w' he => ?_
    obtain ⟨rfl, hb⟩ := he
    refine post_t hm (by simp) rfl (fun j x hj => ?_) (fun x hx => ?_) (Fr.of_below hb (Nat.le_refl _))
    · match j, hj with
      | 0, hj => cases hj; exact ⟨_, rfl, rfl, rfl⟩
      | 1, hj => cases hj; exact ⟨_, rfl, rfl, rfl⟩
    · simp at hx
      rcases hx with rfl | rfl <;> exact .inl ⟨_, rfl⟩
  · cases h
def nr1 (s : ByteArray) : Int := (Dg.nearOut s).1
def nr2 (s : ByteArray) : Int := (Dg.nearOut s).2
def dpR (n : Int) (b : Bool) : Option Out := some (.ret (.tup [I n, B b]) [none])
noncomputable def dpC : CallF := addF 130 nrE (addF 68 fixE fun _ _ _ => none)
theorem dp_0 (m : Nat) (s : ByteArray) : evFn PR TK dpC m 110 [S s] [none] =
  bif inB (nr1 s) then orK (nr2 s != 0) (!((fixT (nr1 s)).toList == s.toList)) fun t => bif t then dpR 0 false else dpR (nr1 s) true else none := by kernel_rfl
end Go.Proofs.YtckdgcpomkefpaaGreatDoor.En
end
section
set_option linter.unusedVariables false
set_option linter.unusedSimpArgs false
set_option maxRecDepth 100000
namespace Go.Proofs.YtckdgcpomkefpaaGreatDoor.En
open Go
attribute [local irreducible] Dg.drounds
theorem inB_iff (n : Int) : inB n = decide (-1099511627776 ≤ n ∧ n ≤ 1099511627776) := by
  unfold inB
  rw [Bool.eq_iff_iff]
  simp only [Bool.and_eq_true, decide_eq_true_eq]
def dpF (s : ByteArray) : Bool × Int := bif nr2 s == 0 && ((fixT (nr1 s)).toList == s.toList) then (true, nr1 s) else (false, 0)
theorem inB_nr {s : ByteArray} (h : (nr2 s == 0) = true) : inB (nr1 s) = true := by
  rw [inB_iff, decide_eq_true_eq]
  exact Dg.nearOut_in s (beq_iff_eq.1 h)
theorem nearOut_zero (s : ByteArray) (h : (nr2 s == 0) = false) : nr1 s = 0 := by
  unfold nr1
  unfold nr2 at h
  unfold Dg.nearOut at h ⊢
  split
  · rfl
  · rename_i h1
    rw [if_neg h1] at h
    split
    · rfl
    · rename_i h2
      rw [if_neg h2] at h
      split
      · rfl
      · rename_i h3
        rw [if_neg h3] at h
        unfold Dg.nearEnd at h ⊢
        split
        · rename_i h4
          rw [if_pos h4] at h
          cases h
        · rfl
theorem inB_any (s : ByteArray) : inB (nr1 s) = true := by
  cases h : nr2 s == 0
  · rw [nearOut_zero s h]; rfl
  · exact inB_nr h
theorem dp_eq (s : ByteArray) : evFn PR TK dpC 0 110 [S s] [none] = dpR (dpF s).2 (dpF s).1 := by
  rw [dp_0, inB_any s, cond_true]
  unfold dpF
  cases h : nr2 s == 0
  · rw [show (nr2 s != 0) = true by rw [bne, h]; rfl]
    rfl
  · rw [show (nr2 s != 0) = false by rw [bne, h]; rfl]
    cases (fixT (nr1 s)).toList == s.toList <;> rfl
theorem dpF_sound {ext : CallF} (hext : SoundCall PR ext) : SoundCall PR (addF 110 (dpE dpF) ext) := by
  refine sound_both (sound_add (takes := TK) hmixP (show SoundCall PR dpC from nr_sound (dg_sound sound_none)) _ (fn := (PR.funcs[110]?).getD default) (by kernel_rfl) (by kernel_rfl) (dpE dpF) fun xs bs out h => ?_) hext
  unfold dpE at h
  split at h
  · rename_i s
    injection h with h
    injection h with h1 h2
    subst h2
    exact ⟨0, dp_eq s⟩
  · cases h
end Go.Proofs.YtckdgcpomkefpaaGreatDoor.En
end
section
set_option linter.unusedVariables false
set_option linter.unusedSimpArgs false
set_option maxRecDepth 100000
namespace Go.Proofs.YtckdgcpomkefpaaGreatDoor.En
open Go
attribute [local irreducible] Dg.drounds
theorem dpF_fix {w : ByteArray} (h : (dpF w).1 = true) : nr2 w = 0 ∧ fixT (nr1 w) = w ∧ (dpF w).2 = nr1 w := by
  unfold dpF at h ⊢
  cases hc : nr2 w == 0 && ((fixT (nr1 w)).toList == w.toList) <;> rw [hc] at h
  · cases h
  · rw [Bool.and_eq_true, beq_iff_eq, beq_iff_eq, Lib.toList_data, Lib.toList_data] at hc
    exact ⟨hc.1, ba_inj hc.2, rfl⟩
theorem asU_dig {l : List Nat} (h : ∀ d ∈ l, d < 10) : ∀ c ∈ asU l, digC c := fun c hc => by
  obtain ⟨d, hd, rfl⟩ := List.mem_map.1 hc
  have := digit_nat (h d hd)
  exact ⟨by omega, by have := h d hd; omega⟩
theorem no_point {v : Int} : (46 : UInt8) ∉ Lib.itoa v := by
  have hd : ∀ u : Nat, (46 : UInt8) ∉ Lib.decDigits u := fun u h => by
    have := (dec_all u).1 _ h
    exact absurd this.1 (by decide)
  rcases Int.lt_or_le v 0 with h | h
  · obtain ⟨u, rfl⟩ : ∃ u : Nat, v = -(u : Int) := ⟨v.natAbs, by omega⟩
    rw [Lib.itoa_neg u (by omega)]
    intro hm
    rcases List.mem_cons.1 hm with e | hm
    · exact absurd e (by decide)
    · exact hd u hm
  · obtain ⟨u, rfl⟩ : ∃ u : Nat, v = (u : Int) := ⟨v.natAbs, by omega⟩
    rw [Lib.itoa_nonneg]
    exact hd u
theorem isI_itoa {w : ByteArray} (h : isI w = true) : Lib.itoa (atV w) = w.data.toList := by
  unfold isI at h
  rw [Bool.and_eq_true] at h
  have hb := atV_bd h.1
  unfold i64B at hb
  rw [Bool.and_eq_true, decide_eq_true_eq, decide_eq_true_eq] at hb
  have h2 := h.2
  rw [isT_itT hb.1 hb.2, decide_eq_true_iff] at h2
  exact h2
theorem fOk : FOk dpF := by
  refine ⟨fun w hw => ?_, fun w hi h => ?_⟩
  · have hl : w.data.toList = [] := List.length_eq_zero_iff.1 hw
    have hn : nr2 w = 20 := by
      unfold nr2 Dg.nearOut
      have hng : ¬ Dg.goodT (Dg.signless w) := fun hg => by
        have := Dg.formT_good _ hg
        rw [Dg.signless_drop, hl, List.drop_nil] at this
        cases this
      rw [if_neg (by omega), if_pos (Classical.not_not.1 hng)]
    unfold dpF
    rw [hn]
    rfl
  · obtain ⟨h1, h2, h3⟩ := dpF_fix h
    rw [h3]
    have hi := isI_itoa hi
    by_cases hz : (nr1 w).natAbs % 65536 = 0
    · generalize nr1 w = x at hz ⊢
      have e : (x.tmod 65536).natAbs = 0 := by rw [Int.natAbs_tmod]; exact hz
      omega
    · exfalso
      have hp : (46 : UInt8) ∈ w.data.toList := by
        rw [← h2]
        unfold fixT textBody
        rw [if_neg hz]
        simp [bs]
      rw [← hi] at hp
      exact no_point hp
end Go.Proofs.YtckdgcpomkefpaaGreatDoor.En
end
section
set_option linter.unusedVariables false
set_option linter.unusedSimpArgs false
set_option maxRecDepth 100000
namespace Go.Proofs.YtckdgcpomkefpaaGreatDoor.En
open Go
def rest (s : ByteArray) (a : Nat) : List UInt8 := s.data.toList.drop a
section
variable {s : ByteArray} {a : Nat} {c : UInt8} {r l : List UInt8}
theorem rest_lt (h : rest s a = c :: r) : a < s.data.toList.length := by
  by_cases ha : a < s.data.toList.length
  · exact ha
  · unfold rest at h
    rw [List.drop_eq_nil_of_le (by omega)] at h
    cases h
theorem rest_size (h : rest s a = c :: r) : a < s.size := rest_lt h
theorem rest_bt (h : rest s a = c :: r) : bt s (a : Int) = (c.toNat : Int) := by
  have hlt := rest_lt h
  unfold rest at h
  rw [List.drop_eq_getElem_cons hlt] at h
  injection h with h1 h2
  rw [bt_nat s a hlt, h1]
theorem rest_tl (h : rest s a = c :: r) : rest s (a + 1) = r := by
  have hlt := rest_lt h
  unfold rest at h ⊢
  rw [List.drop_eq_getElem_cons hlt] at h
  injection h with h1 h2
theorem rest_app (h : rest s a = l ++ r) : rest s (a + l.length) = r := by
  unfold rest at h ⊢
  rw [← List.drop_drop, h, List.drop_left]
theorem rest_length (s : ByteArray) (a : Nat) : (rest s a).length = s.size - a := by
  unfold rest
  rw [List.length_drop]
  rfl
theorem rest_nil (h : rest s a = []) : s.size ≤ a := by
  have := rest_length s a
  rw [h, List.length_nil] at this
  omega
theorem isB_rest (h : rest s a = c :: r) (n : Int) : isB s (a : Int) n = ((c.toNat : Int) == n) := by
  have := rest_size h
  unfold isB
  rw [decide_eq_true (by omega), rest_bt h, Bool.true_and]
theorem sub_rest (h : rest s a = l ++ r) : sub' s (a : Int) ((a + l.length : Nat) : Int) = bs l := ba_inj (by
  show (s.extract a (a + l.length)).data.toList = l
  have e : (s.extract a (a + l.length)).data = s.data.extract a (a + l.length) := by simp
  unfold rest at h
  rw [e, Array.toList_extract, List.extract_eq_take_drop, h, Nat.add_sub_cancel_left, List.take_left])
theorem skA_rest (f : Int → Bool) (s : ByteArray) : ∀ (l : List UInt8) (a : Nat) (r : List UInt8), rest s a = l ++ r → (∀ c ∈ l, f (c.toNat : Int) = true) → (∀ c r', r = c :: r' → f (c.toNat : Int) = false) → skA f s (a : Int) = ((a + l.length : Nat) : Int)
  | [], a, r, h, _, hr => by
    have h : rest s a = r := h
    rw [skA_eq]
    cases r with
    | nil =>
      have := rest_nil h
      rw [decide_eq_false (by omega)]
      rfl
    | cons c r' =>
      rw [rest_bt h, hr c r' rfl, Bool.and_false]
      rfl
  | c :: l, a, r, h, hl, hr => by
    have h : rest s a = c :: (l ++ r) := h
    have hlt := rest_size h
    rw [skA_eq, decide_eq_true (by omega), rest_bt h, hl c (by simp), Bool.true_and, cond_true]
    have := skA_rest f s l (a + 1) r (rest_tl h) (fun x hx => hl x (by simp [hx])) hr
    rw [show ((a : Int) + 1) = ((a + 1 : Nat) : Int) by omega, this, List.length_cons]
    congr 1
    omega
end
def blkU (c : UInt8) : Bool := blkB (c.toNat : Int)
def wdU (c : UInt8) : Bool := wordB (c.toNat : Int)
def skipB (r : List UInt8) : List UInt8 := r.dropWhile blkU
def wd1 (r : List UInt8) : List UInt8 := (skipB r).takeWhile wdU
def wdR (r : List UInt8) : List UInt8 := (skipB r).dropWhile wdU
theorem dropWhile_head {α : Type} (p : α → Bool) : ∀ (l : List α) (c : α) (r : List α), l.dropWhile p = c :: r → p c = false
  | [], c, r, h => by cases h
  | x :: l, c, r, h => by
    rw [List.dropWhile_cons] at h
    by_cases hp : p x = true
    · rw [if_pos hp] at h
      exact dropWhile_head p l c r h
    · rw [if_neg hp] at h
      injection h with h1 h2
      rw [← h1]
      simpa using hp
theorem takeWhile_all {α : Type} (p : α → Bool) : ∀ (l : List α), ∀ c ∈ l.takeWhile p, p c = true
  | [], c, h => by cases h
  | x :: l, c, h => by
    rw [List.takeWhile_cons] at h
    by_cases hp : p x = true
    · rw [if_pos hp] at h
      rcases List.mem_cons.1 h with rfl | h
      · exact hp
      · exact takeWhile_all p l c h
    · rw [if_neg hp] at h
      cases h
theorem bl_at {s : ByteArray} {a : Nat} {r : List UInt8} (h : rest s a = r) : ∃ b : Nat, a ≤ b ∧ blA s (a : Int) = (b : Int) ∧ rest s b = skipB r := by
  have e : r.takeWhile blkU ++ r.dropWhile blkU = r := List.takeWhile_append_dropWhile
  rw [← e] at h
  refine ⟨a + (r.takeWhile blkU).length, by omega, ?_, rest_app h⟩
  exact skA_rest blkB s _ a _ h (takeWhile_all blkU r) (fun c r' hr => dropWhile_head blkU r c r' hr)
theorem wd_at {s : ByteArray} {a : Nat} {r : List UInt8} (h : rest s a = r) : ∃ b : Nat, a ≤ b ∧ wdA s (a : Int) = (b : Int) ∧ sub' s (a : Int) (b : Int) = bs (r.takeWhile wdU) ∧ rest s b = r.dropWhile wdU := by
  have e : r.takeWhile wdU ++ r.dropWhile wdU = r := List.takeWhile_append_dropWhile
  rw [← e] at h
  refine ⟨a + (r.takeWhile wdU).length, by omega, ?_, sub_rest h, rest_app h⟩
  exact skA_rest wordB s _ a _ h (takeWhile_all wdU r) (fun c r' hr => dropWhile_head wdU r c r' hr)
def endW (r : List UInt8) : Prop := ∀ c r', r = c :: r' → wdU c = false
def noR (r : List UInt8) : Prop := wd1 r ≠ [82]
def noRef (r : List UInt8) : Prop := wd1 r = [48] → noR (wdR r)
def safe (r : List UInt8) : Prop := endW r ∧ noR r ∧ noRef r
theorem bs_toList (l : List UInt8) : (bs l).toList = l := by rw [Lib.toList_data]; rfl
theorem rfB_no {s : ByteArray} {a : Nat} {r : List UInt8} (h : rest s a = r) (hn : noRef r) : rfB s (a : Int) = false := by
  obtain ⟨b, hb, e1, h1⟩ := bl_at h
  obtain ⟨c, hc, e2, e3, h2⟩ := wd_at h1
  obtain ⟨d, hd, e4, h3⟩ := bl_at h2
  obtain ⟨e, he, e5, e6, h4⟩ := wd_at h3
  unfold rfB rf3 rf2 rf1
  rw [e1, e2, e4, e5, e3, e6, bs_toList, bs_toList]
  by_cases h0 : (skipB r).takeWhile wdU = [48]
  · have h5 : (skipB ((skipB r).dropWhile wdU)).takeWhile wdU ≠ [82] := hn h0
    have : (((skipB ((skipB r).dropWhile wdU)).takeWhile wdU) == rT.toList) = false := by
      rw [beq_eq_false_iff_ne]
      have e : rT.toList = [82] := by rw [Lib.toList_data]; rfl
      rw [e]
      exact h5
    rw [this]
    simp
  · have : ((skipB r).takeWhile wdU == zeroT.toList) = false := by
      rw [beq_eq_false_iff_ne]
      have e : zeroT.toList = [48] := by rw [Lib.toList_data]; rfl
      rw [e]
      exact h0
    rw [this]
    simp
theorem tw_app {α : Type} (p : α → Bool) : ∀ (l r : List α), (∀ c ∈ l, p c = true) → (∀ c r', r = c :: r' → p c = false) → (l ++ r).takeWhile p = l ∧ (l ++ r).dropWhile p = r
  | [], r, _, hr => by
    cases r with
    | nil => exact ⟨rfl, rfl⟩
    | cons c r' =>
      have := hr c r' rfl
      exact ⟨by rw [List.nil_append, List.takeWhile_cons, if_neg (by rw [this]; decide)], by rw [List.nil_append, List.dropWhile_cons, if_neg (by rw [this]; decide)]⟩
  | c :: l, r, hl, hr => by
    have hc := hl c (by simp)
    obtain ⟨h1, h2⟩ := tw_app p l r (fun x hx => hl x (by simp [hx])) hr
    exact ⟨by rw [List.cons_append, List.takeWhile_cons, if_pos hc, h1], by rw [List.cons_append, List.dropWhile_cons, if_pos hc, h2]⟩
theorem byte_tab (p : UInt8 → Bool) (h : (List.range 256).all (fun n => p (UInt8.ofNat n)) = true) (c : UInt8) : p c = true := by
  rw [List.all_eq_true] at h
  have := h c.toNat (List.mem_range.2 c.toNat_lt)
  rwa [UInt8.ofNat_toNat] at this
theorem wd_blk (c : UInt8) : wdU c = true → blkU c = false := fun h => by
  unfold wdU wordB at h
  rw [Bool.and_eq_true, Bool.not_eq_true'] at h
  exact h.1
theorem skip_word {c : UInt8} {r : List UInt8} (h : blkU c = false) : skipB (c :: r) = c :: r := by
  unfold skipB
  rw [List.dropWhile_cons, if_neg (by rw [h]; decide)]
theorem skip_blank {c : UInt8} {r : List UInt8} (h : blkU c = true) : skipB (c :: r) = skipB r := by
  unfold skipB
  rw [List.dropWhile_cons, if_pos h]
theorem noR_word {w r : List UInt8} (hw : ∀ c ∈ w, wdU c = true) (h0 : w ≠ []) (h : w ≠ [82]) (hr : endW r) : noR (w ++ r) := by
  cases w with
  | nil => exact (h0 rfl).elim
  | cons c w =>
    have hc := wd_blk c (hw c (by simp))
    unfold noR wd1
    rw [List.cons_append, skip_word hc, ← List.cons_append, (tw_app wdU (c :: w) r hw hr).1]
    exact h
theorem noRef_word {w r : List UInt8} (hw : ∀ c ∈ w, wdU c = true) (h0 : w ≠ []) (hr : safe r) : noRef (w ++ r) := by
  cases w with
  | nil => exact (h0 rfl).elim
  | cons c w =>
    have hc := wd_blk c (hw c (by simp))
    intro _
    unfold wdR
    rw [List.cons_append, skip_word hc, ← List.cons_append, (tw_app wdU (c :: w) r hw hr.1).2]
    exact hr.2.1
theorem delim_no {c : UInt8} {r : List UInt8} (hb : blkU c = false) (hd : wdU c = false) : noR (c :: r) ∧ noRef (c :: r) := by
  have e : wd1 (c :: r) = [] := by
    unfold wd1
    rw [skip_word hb, List.takeWhile_cons, if_neg (by rw [hd]; decide)]
  refine ⟨fun h => ?_, fun h => ?_⟩
  · rw [e] at h; cases h
  · rw [e] at h; cases h
theorem safe_delim {c : UInt8} {r : List UInt8} (hb : blkU c = false) (hd : wdU c = false) : safe (c :: r) :=
  ⟨fun x r' h => by injection h with h1 _; rw [← h1]; exact hd, (delim_no hb hd).1, (delim_no hb hd).2⟩
theorem blk_wd {c : UInt8} (h : blkU c = true) : wdU c = false := by
  cases hw : wdU c
  · rfl
  · rw [wd_blk c hw] at h; cases h
theorem safe_blank {c : UInt8} {r : List UInt8} (h : blkU c = true) (h1 : noR r) (h2 : noRef r) : safe (c :: r) := by
  refine ⟨fun x r' e => by injection e with e1 _; rw [← e1]; exact blk_wd h, fun e => h1 ?_, fun e => ?_⟩
  · unfold wd1 at e ⊢
    rwa [skip_blank h] at e
  · have := h2 (by unfold wd1 at e ⊢; rwa [skip_blank h] at e)
    unfold wdR at this ⊢
    rwa [skip_blank h]
end Go.Proofs.YtckdgcpomkefpaaGreatDoor.En
end
section
set_option linter.unusedVariables false
set_option linter.unusedSimpArgs false
set_option maxRecDepth 100000
namespace Go.Proofs.YtckdgcpomkefpaaGreatDoor.En
open Go Dg
attribute [local irreducible] Dg.drounds
theorem dbl_val : ∀ l : List Nat, val (dbl l).1 + 10 ^ l.length * (dbl l).2 = 2 * val l
  | [] => rfl
  | a :: l => by
    have ih := dbl_val l
    rw [dbl_cons]
    simp only
    rw [val_cons, val_cons, dbl_length, List.length_cons, Nat.pow_succ]
    generalize (dbl l).2 = c at *
    generalize val (dbl l).1 = v at *
    generalize val l = y at *
    generalize 10 ^ l.length = P at *
    have e := Nat.div_add_mod (2 * a + c) 10
    generalize (2 * a + c) / 10 = q at *
    generalize (2 * a + c) % 10 = r at *
    have h1 : r * P + P * 10 * q = (2 * a + c) * P := by
      rw [← e, Nat.add_mul, Nat.mul_comm P 10, Nat.mul_assoc, Nat.mul_assoc, Nat.mul_comm P q]
      omega
    have h2 : (2 * a + c) * P = 2 * (a * P) + P * c := by rw [Nat.add_mul, Nat.mul_assoc, Nat.mul_comm c P]
    omega
theorem drounds_val (l : List Nat) : ∀ k, val (drounds k (l, 0)).1 + 10 ^ l.length * (drounds k (l, 0)).2 = 2 ^ k * val l
  | 0 => by simp [drounds_zero]
  | k + 1 => by
    have ih := drounds_val l k
    have hl := drounds_length l 0 k
    have h1 := dbl_val (drounds k (l, 0)).1
    rw [hl] at h1
    rw [drounds_succ]
    simp only
    generalize (drounds k (l, 0)).1 = D at *
    generalize (drounds k (l, 0)).2 = n at *
    rw [Nat.mul_add, Nat.pow_succ, Nat.mul_comm (2 ^ k) 2, Nat.mul_assoc, ← ih]
    generalize 10 ^ l.length = P at *
    have h2 : P * (2 * n) = 2 * (P * n) := by rw [Nat.mul_left_comm]
    omega
theorem fracD_val : ∀ k r, remk k r = 0 → val (fracD k r) * 65536 = r * 10 ^ (fracD k r).length
  | 0, r, h => by
    rw [remk_zero] at h
    subst h
    rw [fracD_zero]; rfl
  | k + 1, r, h => by
    rw [remk_succ] at h
    have ih := fracD_val k _ h
    rw [fracD_succ]
    by_cases h0 : r = 0
    · rw [if_pos h0]; subst h0; rfl
    · rw [if_neg h0, val_cons, List.length_cons, Nat.add_mul, ih, Nat.pow_succ]
      generalize 10 ^ (fracD k (r * 10 % 65536)).length = P
      have e := Nat.div_add_mod (r * 10) 65536
      generalize r * 10 / 65536 = q at *
      generalize r * 10 % 65536 = s at *
      have h1 : r * (P * 10) = r * 10 * P := by rw [Nat.mul_comm P 10, Nat.mul_assoc]
      rw [h1, ← e, Nat.add_mul, Nat.mul_assoc 65536, Nat.mul_comm 65536]
theorem val_zero_half (D : List Nat) (h : val D = 0) : halfOut D = -1 := by
  cases D with
  | nil => rfl
  | cons d l =>
    rw [val_cons] at h
    have h1 : d * 10 ^ l.length = 0 := by omega
    have h2 : d = 0 := by
      rcases Nat.mul_eq_zero.1 h1 with h3 | h3
      · exact h3
      · exact absurd h3 (Nat.ne_of_gt (Nat.pow_pos (by omega)))
    rw [halfOut_cons, if_pos (by omega)]
theorem exact_key (P v n r : Nat) (hP : 0 < P) (hv : v < P) (h : v + P * n = r * P) : n = r ∧ v = 0 := by
  have h1 : (v + P * n) / P = n := by rw [Nat.add_mul_div_left _ _ hP, Nat.div_eq_of_lt hv, Nat.zero_add]
  have h2 : (r * P) / P = r := Nat.mul_div_cancel _ hP
  have h3 : n = r := by rw [← h1, h, h2]
  subst h3
  rw [Nat.mul_comm n P] at h
  exact ⟨rfl, by omega⟩
theorem isDig_asU (l : List Nat) (h : ∀ d ∈ l, d < 10) : (asU l).all isDig = true := by
  rw [List.all_eq_true]
  intro c hc
  obtain ⟨d, hd, rfl⟩ := List.mem_map.1 hc
  have := h d hd
  unfold isDig
  rw [UInt8.toNat_ofNat_of_lt' (by show 48 + d < 256; omega)]
  simp; omega
theorem digs_asU (l : List Nat) (h : ∀ d ∈ l, d < 10) : digs (Dg.bs (asU l)) = l := by
  show ((asU l).map fun c => c.toNat - 48) = l
  unfold asU
  rw [List.map_map]
  refine (List.map_congr_left fun d hd => ?_).trans (List.map_id l)
  have := h d hd
  show (UInt8.ofNat (48 + d)).toNat - 48 = d
  rw [UInt8.toNat_ofNat_of_lt' (by show 48 + d < 256; omega)]
  omega
theorem decVal_asU (l : List Nat) (h : ∀ d ∈ l, d < 10) : decVal (asU l) = val l := by
  have e : ∀ (l : List Nat) (n : Nat), (∀ d ∈ l, d < 10) → (asU l).foldl (fun n c => 10 * n + (c.toNat - 48)) n = l.foldl (fun n d => 10 * n + d) n := by
    intro l
    induction l with
    | nil => intro n _; rfl
    | cons a l ih =>
      intro n hl
      have ha := hl a List.mem_cons_self
      show (asU l).foldl _ (10 * n + ((UInt8.ofNat (48 + a)).toNat - 48)) = l.foldl _ (10 * n + a)
      rw [UInt8.toNat_ofNat_of_lt' (by show 48 + a < 256; omega), ih _ (fun d hd => hl d (List.mem_cons_of_mem _ hd)), show 48 + a - 48 = a from by omega]
  exact e l 0 h
theorem dblOut_exact (r : Nat) (hr : r < 65536) : dblOut (Dg.bs (asU (fracD 16 r))) = ((r : Int), -1) := by
  have hd := fracD_digits 16 r hr
  rw [dblOut_half _ (isDig_asU _ hd), digs_asU _ hd]
  have h1 := drounds_val (fracD 16 r) 16
  have h2 := fracD_val 16 r (rem16 r hr).1
  have h3 := val_lt _ (drounds_digits (fracD 16 r) 0 hd 16)
  rw [drounds_length] at h3
  have h4 : 2 ^ 16 * val (fracD 16 r) = val (fracD 16 r) * 65536 := by rw [Nat.mul_comm]
  rw [h4, h2] at h1
  obtain ⟨e1, e2⟩ := exact_key _ _ _ _ (Nat.pow_pos (by omega)) h3 h1
  rw [e1, val_zero_half _ e2]
theorem no_dot (l : List UInt8) (h : l.all isDig = true) : (46 : UInt8) ∉ l := fun hm => by
  have := List.all_eq_true.1 h _ hm
  rw [isDig46] at this
  cases this
theorem trimL_len (l : List UInt8) : (Lib.trimLeftB l 48).length ≤ l.length := (List.dropWhile_sublist _).length_le
theorem body_near (u : Nat) (hu : u ≤ 1099511627776) (t : ByteArray) (ht : t.data.toList = textBody u) :
    allDig (wholeOf t) = true ∧ (pointed t = true → allDig (partOf t) = true) ∧ (Dg.bare (wholeOf t)).size ≤ 8 ∧ (∀ b, lenOf b (Dg.bare (wholeOf t)) (partOf t) = u) ∧ t.size ≤ 25 := by
  have hq := natDigits_digits (u / 65536)
  have hr : u % 65536 < 65536 := Nat.mod_lt _ (by omega)
  have hf := fracD_digits 16 _ hr
  have hlq := natDigits_length 7 (u / 65536) (by omega)
  have hlp := natDigits_pos (u / 65536)
  have hlf := fracD_length 16 (u % 65536)
  have hdq := isDig_asU _ hq
  have hdf := isDig_asU _ hf
  have hvq := val_natDigits (u / 65536)
  have hcut : Lib.cut t.data.toList [46] = (asU (natDigits (u / 65536)), asU (fracD 16 (u % 65536)), decide (u % 65536 ≠ 0)) := by
    rw [ht]
    unfold textBody
    by_cases h0 : u % 65536 = 0
    · rw [if_pos h0, List.append_nil, cut_none _ (no_dot _ hdq), h0, fracD_zero]; rfl
    · rw [if_neg h0, cut_some _ _ (no_dot _ hdq)]; simp [h0]
  have hw : wholeOf t = Dg.bs (asU (natDigits (u / 65536))) := by unfold wholeOf; rw [hcut]
  have hp : partOf t = Dg.bs (asU (fracD 16 (u % 65536))) := by unfold partOf; rw [hcut]
  have hpt : pointed t = decide (u % 65536 ≠ 0) := by unfold pointed; rw [hcut]
  have hsz : t.size ≤ 25 := by
    rw [← data_length, ht]
    unfold textBody
    rw [List.length_append, asU_length]
    split <;> simp [asU_length] <;> omega
  rw [hw, hp, hpt]
  refine ⟨?_, ?_, ?_, ?_, hsz⟩
  · rw [allDig_iff]
    refine ⟨?_, hdq⟩
    intro h
    have : (asU (natDigits (u / 65536))).length = 0 := by
      show (Dg.bs (asU (natDigits (u / 65536)))).data.toList.length = 0
      rw [h]; rfl
    rw [asU_length] at this; omega
  · intro h
    rw [allDig_iff]
    refine ⟨?_, hdf⟩
    intro h2
    have h3 : (asU (fracD 16 (u % 65536))).length = 0 := by
      show (Dg.bs (asU (fracD 16 (u % 65536)))).data.toList.length = 0
      rw [h2]; rfl
    rw [asU_length] at h3
    exact fracD_end 16 _ hr (rem16 _ hr).1 (of_decide_eq_true h) (List.length_eq_zero_iff.1 h3)
  · have := trimL_len (asU (natDigits (u / 65536)))
    rw [asU_length] at this
    show (Lib.trimLeftB (asU (natDigits (u / 65536))) 48).length ≤ 8
    omega
  · intro b
    have h11 : decVal (Dg.bare (Dg.bs (asU (natDigits (u / 65536))))).data.toList = u / 65536 := by
      refine (decVal_bare (asU (natDigits (u / 65536)))).trans ?_
      rw [decVal_asU _ hq, hvq]
    rw [len_at _ _ _ _ _ _ h11.symm rfl rfl, dblOut_exact _ hr]
    simp only
    rw [len_low]
    omega
theorem near_back (x : Int) (h1 : -1099511627776 ≤ x) (h2 : x ≤ 1099511627776) : nearOut (fixT x) = (x, 0) ∧ (fixT x).size ≤ 26 := by
  unfold fixT
  have hb := body_near x.natAbs (by omega)
  have key : ∀ s : ByteArray, signed s = decide (x < 0) → (signless s).data.toList = textBody x.natAbs → s.size ≤ (signless s).size + 1 → nearOut s = (x, 0) ∧ s.size ≤ 26 := by
    intro s hs ht hz
    obtain ⟨b1, b2, b3, b4, b5⟩ := hb _ ht
    refine ⟨?_, by omega⟩
    unfold nearOut
    rw [if_neg (by omega), if_neg, if_neg (by omega), b4, hs]
    · unfold nearEnd
      rw [if_pos (by omega)]
      by_cases h3 : x < 0
      · simp [h3]; omega
      · simp [h3]; omega
    · rintro (h | ⟨h, h'⟩)
      · rw [b1] at h; cases h
      · rw [b2 h] at h'; cases h'
  by_cases h3 : x < 0
  · rw [if_pos h3]
    have hs : signed (En.bs ([45] ++ textBody x.natAbs)) = true := rfl
    have ht := signless_yes (En.bs ([45] ++ textBody x.natAbs)) hs
    have ht' : (signless (En.bs ([45] ++ textBody x.natAbs))).data.toList = textBody x.natAbs := ht
    refine key _ (by rw [hs]; simp [h3]) ht' ?_
    rw [← data_length, ← data_length, ht']
    show ([45] ++ textBody x.natAbs).length ≤ _
    simp
  · rw [if_neg h3]
    have hs : signed (En.bs ([] ++ textBody x.natAbs)) = false := by
      obtain ⟨a, l, e, ha⟩ : ∃ a l, natDigits (x.natAbs / 65536) = a :: l ∧ a < 10 := by
        have hp := natDigits_pos (x.natAbs / 65536)
        have hd := natDigits_digits (x.natAbs / 65536)
        cases hn : natDigits (x.natAbs / 65536) with
        | nil => rw [hn] at hp; simp at hp
        | cons a l => exact ⟨a, l, rfl, hd a (by rw [hn]; exact List.mem_cons_self)⟩
      show Lib.hasPrefix (textBody x.natAbs) [45] = false
      unfold textBody
      rw [e]
      have hne : UInt8.ofNat (48 + a) ≠ 45 := by
        intro h
        have := congrArg UInt8.toNat h
        rw [UInt8.toNat_ofNat_of_lt' (by show 48 + a < 256; omega)] at this
        have h45 : (45 : UInt8).toNat = 45 := rfl
        omega
      have hb : ((45 : UInt8) == UInt8.ofNat (48 + a)) = false := by rw [beq_eq_false_iff_ne]; exact Ne.symm hne
      show (((45 : UInt8) == UInt8.ofNat (48 + a)) && _) = false
      rw [hb, Bool.false_and]
    have ht := signless_no (En.bs ([] ++ textBody x.natAbs)) hs
    have ht' : (signless (En.bs ([] ++ textBody x.natAbs))).data.toList = textBody x.natAbs := ht
    refine key _ (by rw [hs]; simp [h3]) ht' ?_
    rw [← data_length, ← data_length, ht']
    show ([] ++ textBody x.natAbs).length ≤ _
    simp
end Go.Proofs.YtckdgcpomkefpaaGreatDoor.En
end
section
set_option linter.unusedVariables false
set_option linter.unusedSimpArgs false
set_option maxRecDepth 100000
namespace Go.Proofs.YtckdgcpomkefpaaGreatDoor.En
open Go
def lit (l : List UInt8) : List Dat := l.map fun b => .int b.toNat
def nullT : ByteArray := ⟨#[110, 117, 108, 108]⟩
def boolT (b : Bool) : ByteArray := bif b then ⟨#[116, 114, 117, 101]⟩ else ⟨#[102, 97, 108, 115, 101]⟩
def refT : ByteArray := ⟨#[32, 48, 32, 82]⟩
def sepT (f : Dat → List Dat) : Bool → List Dat → List Dat
  | _, [] => []
  | first, d :: r => ((bif first then [] else [Dat.int 32]) ++ f d) ++ sepT f false r
def dicT (f : Dat → List Dat) : Bool → List Dat → List Dat → List Dat
  | first, key :: ks, d :: r => ((((bif first then [] else [Dat.int 32]) ++ nameT (key.at 0).toS) ++ [Dat.int 32]) ++ f d) ++ dicT f false ks r
  | _, _, _ => []
def txtK (f : Dat → List Dat) (k1 n1 : Int) (b1 : Bool) (s1 : ByteArray) (ks1 l1 : List Dat) : List Dat :=
  bif k1 == 0 then bytesTo nullT else bif k1 == 1 then bytesTo (boolT b1) else bif k1 == 2 then bytesTo (itS n1) else bif k1 == 3 then bytesTo (fixT n1) else
  bif k1 == 4 then nameT s1 else bif k1 == 5 then txtT s1 else bif k1 == 6 then (Dat.int 91 :: sepT f true l1) ++ [Dat.int 93] else
  bif k1 == 7 then ((bytesTo ⟨#[60, 60]⟩) ++ dicT f true ks1 l1) ++ bytesTo ⟨#[62, 62]⟩ else bif k1 == 8 then bytesTo (itS n1 ++ refT) else []
def txtO : Nat → Dat → List Dat
  | 0, _ => []
  | k + 1, d => txtK (txtO k) (d.at 0).toI (d.at 2).toI (d.at 1).toB (d.at 3).toS (d.at 4).toL (d.at 5).toL
theorem txtO_nrm (k : Nat) (d : Dat) : txtO k (nrm d) = txtO k d := by cases k <;> rfl
def arrW (f : Dat → List Dat → List Dat) : Bool → List Dat → List Dat → List Dat
  | _, [], l => l
  | first, d :: r, l => arrW f false r (f d (bif first then l else l ++ [Dat.int 32]))
def dicW (f : Dat → List Dat → List Dat) : Bool → List Dat → List Dat → List Dat → List Dat
  | first, key :: ks, d :: r, l => dicW f false ks r (f d (((bif first then l else l ++ [Dat.int 32]) ++ nameT (key.at 0).toS) ++ [Dat.int 32]))
  | _, _, _, l => l
def wrK (f : Dat → List Dat → List Dat) (k1 n1 : Int) (b1 : Bool) (s1 : ByteArray) (ks1 l1 : List Dat) (l : List Dat) : List Dat :=
  bif k1 == 0 then l ++ bytesTo nullT else bif k1 == 1 then l ++ bytesTo (boolT b1) else bif k1 == 2 then l ++ bytesTo (itS n1) else bif k1 == 3 then l ++ bytesTo (fixT n1) else
  bif k1 == 4 then l ++ nameT s1 else bif k1 == 5 then l ++ txtT s1 else bif k1 == 6 then arrW f true l1 (l ++ [Dat.int 91]) ++ [Dat.int 93] else
  bif k1 == 7 then dicW f true ks1 l1 (l ++ bytesTo ⟨#[60, 60]⟩) ++ bytesTo ⟨#[62, 62]⟩ else bif k1 == 8 then l ++ bytesTo (itS n1 ++ refT) else l
def wrO : Nat → Dat → List Dat → List Dat
  | 0, _, l => l
  | k + 1, d, l => bif decide ((l.length : Int) > 1048576) then l else wrK (wrO k) (d.at 0).toI (d.at 2).toI (d.at 1).toB (d.at 3).toS (d.at 4).toL (d.at 5).toL l
theorem wrO_nrm (k : Nat) (d : Dat) (l : List Dat) : wrO k (nrm d) l = wrO k d l := by cases k <;> rfl
def fitW : Nat → Dat → Prop
  | 0, _ => False
  | k + 1, d => flatD d = true ∧ (d.at 5).toL.length ≤ 1000000 ∧ ∀ e ∈ (d.at 5).toL, fitW k e
def okWr (k : Nat) (d : Dat) (l : List Dat) : Prop := fitW k d ∧ l.length + (txtO k d).length ≤ 400000000000
noncomputable def writeE (k : Nat) : List AV → Bx → Option (Bool × Out)
  | [.box 0 0, .agg [.v (.int .i64 k1), .v (.bool b1), .v (.int .i64 n1), .v (.string s1), .row none 9 ks1, .row none 43 l1]], [some [.self T, .row (some m) E l], none] =>
    bif isBu T m E then some (decP (okWr k (mkO k1 n1 b1 s1 ks1 l1) l), .ret (.tup []) [some (bu (wrO k (mkO k1 n1 b1 s1 ks1 l1) l)), none]) else none
  | _, _ => none
noncomputable def wrC0 : CallF := addF 71 wbE (addF 66 wsE (addF 46 blE (addF 67 fbE (addF 58 itoaE (addF 68 fixE (addF 69 nameE (addF 70 txtE fun _ _ _ => none)))))))
noncomputable def wrC (k : Nat) : CallF := addF 45 (writeE k) wrC0
noncomputable def wrL1 (call : CallF) (m r : Nat) (l l1 : List Dat) (i : Int) := loopF PR TK call m 45 [some (bu l), none] [true, true, true, true, true, true, true, true, true, true, true, true, true, true, true, true, false, true, false, true] r (sp 117 [(0, .box 0 0), (61, .row none 43 l1), (62, I l1.length), (63, I i)] [(0, bu l)])
noncomputable def wrL2 (call : CallF) (m r : Nat) (l : List Dat) (k1 n1 : Int) (b1 : Bool) (s1 : ByteArray) (ks1 l1 : List Dat) (i : Int) := loopF PR TK call m 45 [some (bu l), none] [true, true, true, true, true, true, true, true, true, true, true, true, true, true, true, true, true, true, false, true, false, true] r (sp 117 [(0, .box 0 0), (3, .box 3 0), (83, .row none 43 l1), (84, I l1.length), (85, I i)] [(0, bu l), (3, obA k1 n1 b1 s1 ks1 l1)])
def wsK (l : List Dat) (s : ByteArray) (k : List Dat → Option Out) : Option Out := bif Nat.ble (l.length + s.size) fitsN then k (l ++ bytesTo s) else none
def wbK (l : List Dat) (c : Int) (k : List Dat → Option Out) : Option Out := bif Nat.ble (l.length + 1) fitsN then k (l ++ [Dat.int c]) else none
section
variable (k m r : Nat) (k1 n1 : Int) (b1 : Bool) (s1 : ByteArray) (ks1 l1 l : List Dat) (i : Int)
theorem write_0 : evFn PR TK (wrC k) m 45 [.box 0 0, .agg (obA k1 n1 b1 s1 ks1 l1)] [some (bu l), none] =
  bif decide ((l.length : Int) > 1048576) then tR0 l else
  bif k1 == 0 then wsK l nullT tR0 else bif k1 == 1 then wsK l (boolT b1) tR0 else bif k1 == 2 then (bif itOk n1 then wsK l (itS n1) tR0 else none) else
  bif k1 == 3 then (bif inB n1 then wsK l (fixT n1) tR0 else none) else bif k1 == 4 then (bif nmOk s1 l.length then tR0 (l ++ nameT s1) else none) else
  bif k1 == 5 then (bif nmOk s1 l.length then tR0 (l ++ txtT s1) else none) else bif k1 == 6 then wbK l 91 (fun l' => wrL1 (wrC k) m m l' l1 0) else
  bif k1 == 7 then wsK l ⟨#[60, 60]⟩ (fun l' => wrL2 (wrC k) m m l' k1 n1 b1 s1 ks1 l1 0) else bif k1 == 8 then (bif itOk n1 then glueO (itS n1) refT (fun s => wsK l s tR0) else none) else tR0 l := by kernel_rfl
theorem write_1 : wrL1 (wrC k) m (r + 1) l l1 i = bif decide (i < l1.length) then (idx l1 i).bind fun d =>
      bif decide (i > 0) then wbK l 32 (fun l' => bif decP (okWr k (nrm d) l') then wrL1 (wrC k) m r (wrO k (nrm d) l') l1 (W (i + 1)) else none) else (bif decP (okWr k (nrm d) l) then wrL1 (wrC k) m r (wrO k (nrm d) l) l1 (W (i + 1)) else none)
    else wbK l 93 tR0 := by kernel_rfl
noncomputable def wr2K (l : List Dat) (d : Dat) : Option Out := (idx ks1 i).bind fun e => bif nmOk (e.at 0).toS l.length then wbK (l ++ nameT (e.at 0).toS) 32 (fun l' => bif decP (okWr k (nrm d) l') then wrL2 (wrC k) m r (wrO k (nrm d) l') k1 n1 b1 s1 ks1 l1 (W (i + 1)) else none) else none
theorem write_2 : wrL2 (wrC k) m (r + 1) l k1 n1 b1 s1 ks1 l1 i = bif decide (i < l1.length) then (idx l1 i).bind fun d =>
      bif decide (i > 0) then wbK l 32 (fun l' => wr2K k m r k1 n1 b1 s1 ks1 l1 i l' d) else wr2K k m r k1 n1 b1 s1 ks1 l1 i l d
    else wsK l ⟨#[62, 62]⟩ tR0 := by kernel_rfl
end
end Go.Proofs.YtckdgcpomkefpaaGreatDoor.En
end
section
set_option linter.unusedVariables false
set_option linter.unusedSimpArgs false
set_option maxRecDepth 100000
namespace Go.Proofs.YtckdgcpomkefpaaGreatDoor.En
open Go
theorem bytesTo_len (s : ByteArray) : (bytesTo s).length = s.size := by
  unfold bytesTo
  rw [List.length_map]
  exact Array.length_toList
theorem kinds9 {k1 n1 : Int} {s1 : ByteArray} {ks1 l1 : List Dat} (h : kindB k1 n1 s1 ks1 l1 = true) : k1 = 0 ∨ k1 = 1 ∨ k1 = 2 ∨ k1 = 3 ∨ k1 = 4 ∨ k1 = 5 ∨ k1 = 6 ∨ k1 = 7 ∨ k1 = 8 := by
  by_cases h2 : k1 = 2; · simp [h2]
  by_cases h3 : k1 = 3; · simp [h3]
  by_cases h4 : k1 = 4; · simp [h4]
  by_cases h5 : k1 = 5; · simp [h5]
  by_cases h7 : k1 = 7; · simp [h7]
  by_cases h8 : k1 = 8; · simp [h8]
  unfold kindB at h
  rw [beq_false_of_ne h2, beq_false_of_ne h3, beq_false_of_ne h4, beq_false_of_ne h5, beq_false_of_ne h7, beq_false_of_ne h8] at h
  simp only [cond_false, Bool.or_eq_true, beq_iff_eq] at h
  omega
theorem kindB_of {k1 n1 : Int} {b1 : Bool} {s1 : ByteArray} {ks1 l1 : List Dat} (h : flatB k1 n1 b1 s1 ks1 l1 = true) : kindB k1 n1 s1 ks1 l1 = true := by
  unfold flatB at h
  rw [Bool.and_eq_true] at h
  exact h.2
theorem named_size {s : ByteArray} (h : namedB s = true) : s.size ≤ 127 := by
  unfold namedB at h
  rw [Bool.and_eq_true, Bool.and_eq_true, decide_eq_true_eq, decide_eq_true_eq] at h
  exact h.2.1
theorem keysR_named : ∀ (pre ks : List Dat), keysR pre ks = true → ∀ d ∈ ks, (d.at 0).toS.size ≤ 127
  | pre, [], h, d, hd => by cases hd
  | pre, e :: r, h, d, hd => by
    unfold keysR at h
    rw [Bool.and_eq_true, Bool.and_eq_true] at h
    rcases List.mem_cons.1 hd with rfl | hd
    · exact named_size h.1
    · exact keysR_named _ r h.2.2 d hd
theorem kb7 {n1 : Int} {s1 : ByteArray} {ks1 l1 : List Dat} (h : kindB 7 n1 s1 ks1 l1 = true) : ks1.length = l1.length ∧ ∀ d ∈ ks1, (d.at 0).toS.size ≤ 127 := by
  have h' : (bif ((ks1.length : Int) != l1.length) then false else keysR [] ks1) = true := h
  cases hc : ((ks1.length : Int) != l1.length)
  · rw [hc, cond_false] at h'
    have hc' : (ks1.length : Int) = (l1.length : Int) := by simpa using hc
    exact ⟨by omega, keysR_named _ _ h'⟩
  · rw [hc] at h'; cases h'
theorem wsK_eq {l : List Dat} {s : ByteArray} (k : List Dat → Option Out) (h : l.length + s.size ≤ 1000000000000) : wsK l s k = k (l ++ bytesTo s) := by
  unfold wsK
  rw [fits_le (by omega)]; rfl
theorem wbK_eq {l : List Dat} {c : Int} (k : List Dat → Option Out) (h : l.length + 1 ≤ 1000000000000) : wbK l c k = k (l ++ [Dat.int c]) := by
  unfold wbK
  rw [fits_le (by omega)]; rfl
theorem itOk_in {n : Int} (h : inB n = true) : itOk n = true := by
  have := inB_of h
  unfold itOk
  rw [decide_eq_true (by omega), decide_eq_true (by omega)]; rfl
theorem nmOk_of {s : ByteArray} {n : Nat} (h1 : s.size ≤ 100000000000) (h2 : n ≤ 500000000000) : nmOk s n = true := by
  unfold nmOk
  rw [Nat.ble_eq_true_of_le h1, Nat.ble_eq_true_of_le h2]; rfl
def asFar (x y : List Dat) : Prop := x.length ≤ y.length ∧ (y.length ≤ 1048576 → x = y) ∧ (1048576 < y.length → 1048576 < x.length)
theorem asFar.refl (x : List Dat) : asFar x x := ⟨Nat.le_refl _, fun _ => rfl, fun h => h⟩
theorem asFar.app {x y : List Dat} (h : asFar x y) (a : List Dat) : asFar (x ++ a) (y ++ a) := by
  obtain ⟨h1, h2, h3⟩ := h
  refine ⟨by simp; omega, fun h => ?_, fun h => ?_⟩
  · rw [List.length_append] at h
    rw [h2 (by omega)]
  · rw [List.length_append] at h ⊢
    by_cases hy : y.length ≤ 1048576
    · rw [h2 hy]; omega
    · have := h3 (by omega); omega
theorem arrW_far {f : Dat → List Dat → List Dat} {t : Dat → List Dat} (hf : ∀ d x y, asFar x y → asFar (f d x) (y ++ t d)) : ∀ (l : List Dat) (first : Bool) (x y : List Dat), asFar x y → asFar (arrW f first l x) (y ++ sepT t first l)
  | [], first, x, y, h => by unfold arrW sepT; rw [List.append_nil]; exact h
  | d :: r, first, x, y, h => by
    unfold arrW sepT
    have h1 : asFar (bif first then x else x ++ [Dat.int 32]) (y ++ bif first then [] else [Dat.int 32]) := by
      cases first
      · exact h.app _
      · rw [cond_true, cond_true, List.append_nil]; exact h
    have := arrW_far hf r false _ _ (hf d _ _ h1)
    rw [List.append_assoc, ← List.append_assoc] at this
    rw [List.append_assoc] at this ⊢
    simpa [List.append_assoc] using this
theorem dicW_far {f : Dat → List Dat → List Dat} {t : Dat → List Dat} (hf : ∀ d x y, asFar x y → asFar (f d x) (y ++ t d)) : ∀ (ks l : List Dat) (first : Bool) (x y : List Dat), asFar x y → asFar (dicW f first ks l x) (y ++ dicT t first ks l)
  | [], l, first, x, y, h => by unfold dicW dicT; rw [List.append_nil]; exact h
  | key :: ks, [], first, x, y, h => by unfold dicW dicT; rw [List.append_nil]; exact h
  | key :: ks, d :: r, first, x, y, h => by
    unfold dicW dicT
    have h1 : asFar (bif first then x else x ++ [Dat.int 32]) (y ++ bif first then [] else [Dat.int 32]) := by
      cases first
      · exact h.app _
      · rw [cond_true, cond_true, List.append_nil]; exact h
    have := dicW_far hf ks r false _ _ (hf d _ _ ((h1.app (nameT (key.at 0).toS)).app [Dat.int 32]))
    simpa [List.append_assoc] using this
theorem wrO_far : ∀ (k : Nat) (d : Dat) (x y : List Dat), asFar x y → asFar (wrO k d x) (y ++ txtO k d)
  | 0, d, x, y, h => by unfold wrO txtO; rw [List.append_nil]; exact h
  | k + 1, d, x, y, h => by
    unfold wrO txtO
    by_cases hx : 1048576 < x.length
    · rw [decide_eq_true (show (x.length : Int) > 1048576 by omega), cond_true]
      have := h.1
      refine ⟨by simp; omega, fun h' => ?_, fun _ => hx⟩
      rw [List.length_append] at h'
      omega
    · rw [decide_eq_false (show ¬ (x.length : Int) > 1048576 by omega), cond_false]
      unfold wrK txtK
      cases (d.at 0).toI == 0
      · cases (d.at 0).toI == 1
        · cases (d.at 0).toI == 2
          · cases (d.at 0).toI == 3
            · cases (d.at 0).toI == 4
              · cases (d.at 0).toI == 5
                · cases (d.at 0).toI == 6
                  · cases (d.at 0).toI == 7
                    · cases (d.at 0).toI == 8
                      · simp only [cond_false, List.append_nil]; exact h
                      · simp only [cond_false, cond_true]; exact h.app _
                    · simp only [cond_false, cond_true]
                      have := (dicW_far (wrO_far k) (d.at 4).toL (d.at 5).toL true _ _ (h.app (bytesTo ⟨#[60, 60]⟩))).app (bytesTo ⟨#[62, 62]⟩)
                      rw [List.append_assoc y, List.append_assoc y] at this
                      exact this
                  · simp only [cond_false, cond_true]
                    have := (arrW_far (wrO_far k) (d.at 5).toL true _ _ (h.app [Dat.int 91])).app [Dat.int 93]
                    rw [List.append_assoc y, List.append_assoc y] at this
                    exact this
                · simp only [cond_false, cond_true]; exact h.app _
              · simp only [cond_false, cond_true]; exact h.app _
            · simp only [cond_false, cond_true]; exact h.app _
          · simp only [cond_false, cond_true]; exact h.app _
        · simp only [cond_false, cond_true]; exact h.app _
      · simp only [cond_true]; exact h.app _
theorem wrO_len (k : Nat) (d : Dat) (x : List Dat) : (wrO k d x).length ≤ x.length + (txtO k d).length := by
  have := (wrO_far k d x x (asFar.refl x)).1
  rwa [List.length_append] at this
theorem gt0 (i : Nat) : decide ((i : Int) > 0) = !(i == 0) := by
  cases i with
  | zero => rfl
  | succ i => rw [decide_eq_true (by omega)]; rfl
theorem write_loop1 {k m : Nat} {l1 : List Dat} (hl : l1.length ≤ 1000000) (hk : ∀ d ∈ l1, fitW k d) :
    ∀ (q i r : Nat) (l : List Dat), i + q = l1.length → q < r → l.length + (sepT (txtO k) (i == 0) (l1.drop i)).length ≤ 400000000000 → wrL1 (wrC k) m r l l1 (i : Int) = tR0 (arrW (wrO k) (i == 0) (l1.drop i) l ++ [Dat.int 93]) := by
  intro q
  induction q with
  | zero =>
    intro i r l hi hr hf
    cases r with
    | zero => omega
    | succ r =>
      rw [write_1, show decide ((i : Int) < l1.length) = false from decide_eq_false (by omega), cond_false, List.drop_eq_nil_of_le (by omega), wbK_eq _ (by omega)]
      rfl
  | succ q ih =>
    intro i r l hi hr hf
    cases r with
    | zero => omega
    | succ r =>
      have hlt : i < l1.length := by omega
      rw [List.drop_eq_getElem_cons hlt] at hf
      unfold sepT at hf
      rw [List.length_append, List.length_append] at hf
      rw [write_1, show decide ((i : Int) < l1.length) = true from decide_eq_true (by omega), cond_true, idx_at hlt, Option.bind_some, gt0, W_in (n := (i : Int) + 1) (by omega), List.drop_eq_getElem_cons hlt, wrO_nrm, ]
      unfold arrW
      have ih' := fun l => ih (i + 1) r l (by omega) (by omega)
      rw [show ((i + 1 == 0) = false) from rfl, nat_succ_cast] at ih'
      have hw := fun l => wrO_len k l1[i] l
      have hfit := hk _ (List.getElem_mem hlt)
      have step : ∀ l' : List Dat, l'.length ≤ l.length + (bif i == 0 then ([] : List Dat) else [Dat.int 32]).length → (bif decP (okWr k (nrm l1[i]) l') then wrL1 (wrC k) m r (wrO k l1[i] l') l1 ((i : Int) + 1) else none) = tR0 (arrW (wrO k) false (l1.drop (i + 1)) (wrO k l1[i] l') ++ [Dat.int 93]) := fun l' hl' => by
        have hok : okWr k (nrm l1[i]) l' := by
          refine ⟨?_, by rw [txtO_nrm]; omega⟩
          cases k with
          | zero => exact hfit
          | succ k => exact hfit
        rw [decP_eq hok, cond_true]
        refine ih' _ ?_
        have := hw l'
        omega
      cases hi0 : (i == 0)
      · rw [hi0] at step hf
        rw [Bool.not_false, cond_true, cond_false, wbK_eq _ (by omega)]
        simp only [wrO_nrm]
        exact step _ (by simp)
      · rw [hi0] at step
        rw [Bool.not_true, cond_false, cond_true]
        exact step _ (by simp)
theorem write_loop2 {k m : Nat} {k1 n1 : Int} {b1 : Bool} {s1 : ByteArray} {ks1 l1 : List Dat} (hl : l1.length ≤ 1000000) (hk : ∀ d ∈ l1, fitW k d) (hks : ks1.length = l1.length) (hkz : ∀ d ∈ ks1, (d.at 0).toS.size ≤ 127) :
    ∀ (q i r : Nat) (l : List Dat), i + q = l1.length → q < r → l.length + (dicT (txtO k) (i == 0) (ks1.drop i) (l1.drop i)).length ≤ 400000000000 → wrL2 (wrC k) m r l k1 n1 b1 s1 ks1 l1 (i : Int) = tR0 (dicW (wrO k) (i == 0) (ks1.drop i) (l1.drop i) l ++ bytesTo ⟨#[62, 62]⟩) := by
  intro q
  induction q with
  | zero =>
    intro i r l hi hr hf
    cases r with
    | zero => omega
    | succ r =>
      rw [write_2, show decide ((i : Int) < l1.length) = false from decide_eq_false (by omega), cond_false, show ks1.drop i = [] from List.drop_eq_nil_of_le (by omega), show l1.drop i = [] from List.drop_eq_nil_of_le (by omega), wsK_eq _ (by show _ + 2 ≤ _; omega)]
      rfl
  | succ q ih =>
    intro i r l hi hr hf
    cases r with
    | zero => omega
    | succ r =>
      have hlt : i < l1.length := by omega
      have hlk : i < ks1.length := by omega
      rw [List.drop_eq_getElem_cons hlt, List.drop_eq_getElem_cons hlk] at hf
      unfold dicT at hf
      rw [List.length_append, List.length_append, List.length_append, List.length_append, List.length_singleton] at hf
      rw [write_2, show decide ((i : Int) < l1.length) = true from decide_eq_true (by omega), cond_true, idx_at hlt, Option.bind_some, gt0, List.drop_eq_getElem_cons hlt, List.drop_eq_getElem_cons hlk]
      unfold dicW
      have ih' := fun l => ih (i + 1) r l (by omega) (by omega)
      rw [show ((i + 1 == 0) = false) from rfl, nat_succ_cast] at ih'
      have hw := fun l => wrO_len k l1[i] l
      have hfit := hk _ (List.getElem_mem hlt)
      have hkey := hkz _ (List.getElem_mem hlk)
      have step : ∀ l' : List Dat, l'.length ≤ l.length + (bif i == 0 then ([] : List Dat) else [Dat.int 32]).length → wr2K k m r k1 n1 b1 s1 ks1 l1 (i : Int) l' l1[i] = tR0 (dicW (wrO k) false (ks1.drop (i + 1)) (l1.drop (i + 1)) (wrO k l1[i] ((l' ++ nameT (ks1[i].at 0).toS) ++ [Dat.int 32])) ++ bytesTo ⟨#[62, 62]⟩) := fun l' hl' => by
        unfold wr2K
        have hok : okWr k (nrm l1[i]) ((l' ++ nameT (ks1[i].at 0).toS) ++ [Dat.int 32]) := by
          refine ⟨?_, by rw [txtO_nrm, List.length_append, List.length_append, List.length_singleton]; omega⟩
          cases k with
          | zero => exact hfit
          | succ k => exact hfit
        rw [idx_at hlk, Option.bind_some, nmOk_of (by omega) (by omega), cond_true, wbK_eq _ (by rw [List.length_append]; omega), decP_eq hok, cond_true, wrO_nrm, W_in (n := (i : Int) + 1) (by omega)]
        refine ih' _ ?_
        have := hw ((l' ++ nameT (ks1[i].at 0).toS) ++ [Dat.int 32])
        rw [List.length_append, List.length_append, List.length_singleton] at this
        omega
      cases hi0 : (i == 0)
      · rw [hi0] at step hf
        rw [Bool.not_false, cond_true, cond_false, wbK_eq _ (by omega)]
        exact step _ (by simp)
      · rw [hi0] at step
        rw [Bool.not_true, cond_false, cond_true]
        exact step _ (by simp)
theorem write_run {k m : Nat} {k1 n1 : Int} {b1 : Bool} {s1 : ByteArray} {ks1 l1 l : List Dat} (h : okWr (k + 1) (mkO k1 n1 b1 s1 ks1 l1) l) (hm : 1000000 < m) :
    evFn PR TK (wrC k) m 45 [.box 0 0, .agg (obA k1 n1 b1 s1 ks1 l1)] [some (bu l), none] = tR0 (wrO (k + 1) (mkO k1 n1 b1 s1 ks1 l1) l) := by
  obtain ⟨⟨f1, f2, f3⟩, h2⟩ := h
  have f1 : flatB k1 n1 b1 s1 ks1 l1 = true := f1
  have q2 : l1.length ≤ 1000000 := f2
  have q3 : ∀ d ∈ l1, fitW k d := f3
  have hkb := kindB_of f1
  have h2 : l.length + (txtK (txtO k) k1 n1 b1 s1 ks1 l1).length ≤ 400000000000 := h2
  rw [write_0]
  show _ = tR0 (bif decide ((l.length : Int) > 1048576) then l else wrK (wrO k) k1 n1 b1 s1 ks1 l1 l)
  cases decide ((l.length : Int) > 1048576)
  · rw [cond_false, cond_false]
    rcases kinds9 hkb with rfl | rfl | rfl | rfl | rfl | rfl | rfl | rfl | rfl
    · have h2 : l.length + (bytesTo nullT).length ≤ 400000000000 := h2
      rw [bytesTo_len] at h2
      exact wsK_eq _ (by omega)
    · have h2 : l.length + (bytesTo (boolT b1)).length ≤ 400000000000 := h2
      rw [bytesTo_len] at h2
      exact wsK_eq _ (by omega)
    · have h2 : l.length + (bytesTo (itS n1)).length ≤ 400000000000 := h2
      rw [bytesTo_len] at h2
      have hk : inB n1 = true := hkb
      show (bif itOk n1 then wsK l (itS n1) tR0 else none) = _
      rw [itOk_in hk, cond_true]
      exact wsK_eq _ (by omega)
    · have h2 : l.length + (bytesTo (fixT n1)).length ≤ 400000000000 := h2
      rw [bytesTo_len] at h2
      have hk : (inB n1 && (n1.tmod 65536) != 0) = true := hkb
      rw [Bool.and_eq_true] at hk
      show (bif inB n1 then wsK l (fixT n1) tR0 else none) = _
      rw [hk.1, cond_true]
      exact wsK_eq _ (by omega)
    · have h2 : l.length + (nameT s1).length ≤ 400000000000 := h2
      have hk : namedB s1 = true := hkb
      have := named_size hk
      show (bif nmOk s1 l.length then tR0 (l ++ nameT s1) else none) = _
      rw [nmOk_of (by omega) (by omega)]; rfl
    · have h2 : l.length + (txtT s1).length ≤ 400000000000 := h2
      have hk : decide ((s1.size : Int) ≤ 65536) = true := hkb
      have := of_decide_eq_true hk
      show (bif nmOk s1 l.length then tR0 (l ++ txtT s1) else none) = _
      rw [nmOk_of (by omega) (by omega)]; rfl
    · have h2 : l.length + ((Dat.int 91 :: sepT (txtO k) true l1) ++ [Dat.int 93]).length ≤ 400000000000 := h2
      rw [List.length_append, List.length_cons, List.length_singleton] at h2
      show wbK l 91 (fun l' => wrL1 (wrC k) m m l' l1 0) = _
      have e := write_loop1 (k := k) (m := m) q2 q3 l1.length 0 m (l ++ [Dat.int 91]) (by omega) (by omega) (by rw [List.drop_zero, List.length_append, List.length_singleton]; show _ + (sepT (txtO k) true l1).length ≤ _; omega)
      rw [List.drop_zero, show ((0 : Nat) : Int) = 0 from rfl] at e
      rw [wbK_eq _ (by omega), e]
      rfl
    · have h2 : l.length + (((bytesTo ⟨#[60, 60]⟩) ++ dicT (txtO k) true ks1 l1) ++ bytesTo ⟨#[62, 62]⟩).length ≤ 400000000000 := h2
      rw [List.length_append, List.length_append, bytesTo_len, bytesTo_len] at h2
      have h2 : l.length + (2 + (dicT (txtO k) true ks1 l1).length + 2) ≤ 400000000000 := h2
      obtain ⟨g1, g2⟩ := kb7 hkb
      show wsK l ⟨#[60, 60]⟩ (fun l' => wrL2 (wrC k) m m l' 7 n1 b1 s1 ks1 l1 0) = _
      have e := write_loop2 (k := k) (m := m) (k1 := 7) (n1 := n1) (b1 := b1) (s1 := s1) q2 q3 g1 g2 l1.length 0 m (l ++ bytesTo ⟨#[60, 60]⟩) (by omega) (by omega) (by rw [List.drop_zero, List.drop_zero, List.length_append, bytesTo_len]; show _ + 2 + (dicT (txtO k) true ks1 l1).length ≤ _; omega)
      rw [List.drop_zero, List.drop_zero, show ((0 : Nat) : Int) = 0 from rfl] at e
      rw [wsK_eq _ (by show _ + 2 ≤ _; omega), e]
      rfl
    · have h2 : l.length + (bytesTo (itS n1 ++ refT)).length ≤ 400000000000 := h2
      rw [bytesTo_len] at h2
      have hk : (decide (n1 ≥ 1) && decide (n1 ≤ 4096)) = true := hkb
      rw [Bool.and_eq_true, decide_eq_true_eq, decide_eq_true_eq] at hk
      show (bif itOk n1 then glueO (itS n1) refT (fun s => wsK l s tR0) else none) = _
      have hz : (itS n1).size + refT.size ≤ 400000000000 := by
        rw [ByteArray.size_append] at h2; omega
      rw [show itOk n1 = true by unfold itOk; rw [decide_eq_true (by omega), decide_eq_true (by omega)]; rfl, cond_true, glueO_eq _ (by omega)]
      exact wsK_eq _ (by omega)
  · rfl
theorem wrC0_sound : SoundCall PR wrC0 :=
  wb_sound (ws_sound (bl_sound (fb_sound (itoa_sound (dg_sound (name_sound (text_sound sound_none)))))))
theorem write_sound : ∀ k, SoundCall PR (wrC k) := by
  refine sound_rec (takes := TK) hmixP wrC0_sound _ (fn := (PR.funcs[45]?).getD default) (by kernel_rfl) (by kernel_rfl) writeE (fun xs bs out h => ?_) (fun k xs bs out h => ?_)
  · unfold writeE at h
    split at h
    · obtain ⟨_, h⟩ := bif_some h
      injection h with h
      injection h with h _
      exact (decP_of h).1
    · cases h
  · unfold writeE at h
    split at h
    · obtain ⟨hc, h⟩ := bif_some h
      injection h with h
      injection h with h1 h2
      obtain ⟨rfl, rfl, rfl⟩ := isBu_eq hc
      subst h2
      exact ⟨1000001, write_run (decP_of h1) (by omega)⟩
    · cases h
end Go.Proofs.YtckdgcpomkefpaaGreatDoor.En
end
section
set_option linter.unusedVariables false
set_option linter.unusedSimpArgs false
set_option maxRecDepth 100000
namespace Go.Proofs.YtckdgcpomkefpaaGreatDoor.En
open Go
def isBy (l : List Dat) : Prop := ∀ d ∈ l, ∃ b : UInt8, d = Dat.int b.toNat
theorem isBy.app {a b : List Dat} (ha : isBy a) (hb : isBy b) : isBy (a ++ b) := fun d hd => by
  rcases List.mem_append.1 hd with h | h
  · exact ha d h
  · exact hb d h
theorem isBy.nil : isBy [] := fun d hd => by cases hd
theorem isBy.cons {d : Dat} {l : List Dat} (b : UInt8) (h : d = Dat.int b.toNat) (hl : isBy l) : isBy (d :: l) := fun e he => by
  rcases List.mem_cons.1 he with rfl | he
  · exact ⟨b, h⟩
  · exact hl e he
theorem isBy_to (s : ByteArray) : isBy (bytesTo s) := fun d hd => by
  unfold bytesTo at hd
  obtain ⟨b, _, rfl⟩ := List.mem_map.1 hd
  exact ⟨b, rfl⟩
theorem isBy_flat {f : UInt8 → List Dat} (hf : ∀ b, isBy (f b)) : ∀ l : List UInt8, isBy (l.flatMap f)
  | [] => isBy.nil
  | b :: l => by
    rw [List.flatMap_cons]
    exact (hf b).app (isBy_flat hf l)
theorem isBy_esc (b : UInt8) : isBy (esc b) := by
  unfold esc
  cases plainB b.toNat
  · exact isBy.cons 35 rfl (isBy.cons _ rfl (isBy.cons _ rfl isBy.nil))
  · exact isBy.cons b rfl isBy.nil
theorem isBy_hex2 (b : UInt8) : isBy (hex2 b) := isBy.cons _ rfl (isBy.cons _ rfl isBy.nil)
theorem isBy_escP (b : UInt8) : isBy (escP b) := by
  unfold escP
  cases (((b.toNat : Int) == 40 || (b.toNat : Int) == 41) || (b.toNat : Int) == 92)
  · exact isBy.cons b rfl isBy.nil
  · exact isBy.cons 92 rfl (isBy.cons b rfl isBy.nil)
theorem isBy_name (s : ByteArray) : isBy (nameT s) := isBy.cons 47 rfl (isBy_flat isBy_esc _)
theorem isBy_txt (s : ByteArray) : isBy (txtT s) := by
  unfold txtT
  cases s.data.toList.all shB
  · exact (isBy.cons 60 rfl (isBy_flat isBy_hex2 _)).app (isBy.cons 62 rfl isBy.nil)
  · exact (isBy.cons 40 rfl (isBy_flat isBy_escP _)).app (isBy.cons 41 rfl isBy.nil)
theorem bytesOf_size (l : List Dat) : (bytesOf l).size = l.length := by
  unfold bytesOf
  simp [ByteArray.size]
theorem sepT_cons (f : Dat → List Dat) (first : Bool) (d : Dat) (r : List Dat) : sepT f first (d :: r) = ((bif first then [] else [Dat.int 32]) ++ f d) ++ sepT f false r := rfl
theorem dicT_cons (f : Dat → List Dat) (first : Bool) (key : Dat) (ks : List Dat) (d : Dat) (r : List Dat) : dicT f first (key :: ks) (d :: r) = ((((bif first then [] else [Dat.int 32]) ++ nameT (key.at 0).toS) ++ [Dat.int 32]) ++ f d) ++ dicT f false ks r := rfl
end Go.Proofs.YtckdgcpomkefpaaGreatDoor.En
end
section
set_option linter.unusedVariables false
set_option linter.unusedSimpArgs false
set_option maxRecDepth 100000
namespace Go.Proofs.YtckdgcpomkefpaaGreatDoor.En
open Go
theorem digF_len : ∀ (k u : Nat), (digF k u).length ≤ k
  | 0, u => by simp [digF]
  | k + 1, u => by
    unfold digF
    cases Nat.blt u 10
    · rw [cond_false, List.length_append, List.length_singleton]
      have := digF_len k (u / 10)
      omega
    · simp
theorem digF_pos (k u : Nat) : 0 < (digF (k + 1) u).length := by
  unfold digF
  cases Nat.blt u 10
  · rw [cond_false, List.length_append, List.length_singleton]; omega
  · simp
theorem itS_size (n : Int) : (itS n).size ≤ 21 ∧ 0 < (itS n).size := by
  have e : (itS n).size = (itoaF n).length := by unfold itS; simp [ByteArray.size]
  rw [e]
  unfold itoaF
  cases decide (n < 0)
  · have h1 : (digF 20 n.toNat).length ≤ 20 := digF_len 20 n.toNat
    have h2 : 0 < (digF 20 n.toNat).length := digF_pos 19 n.toNat
    rw [cond_false]
    exact ⟨by omega, h2⟩
  · rw [cond_true, List.length_cons]
    have := digF_len 20 n.natAbs
    omega
theorem fixT_size {x : Int} (h : inB x = true) : (fixT x).size ≤ 30 ∧ 0 < (fixT x).size := by
  obtain ⟨b1, b2⟩ := inB_of h
  unfold fixT
  rw [bs_size, List.length_append]
  unfold textBody
  rw [List.length_append, asU_length]
  have h1 := natDigits_length 7 (x.natAbs / 65536) (by omega)
  have h2 := natDigits_pos (x.natAbs / 65536)
  have h3 : (if x < 0 then ([45] : List UInt8) else []).length ≤ 1 := by split <;> simp
  have h4 : (if x.natAbs % 65536 = 0 then ([] : List UInt8) else 46 :: asU (fracD 16 (x.natAbs % 65536))).length ≤ 17 := by
    split
    · simp
    · rw [List.length_cons, asU_length]
      have := fracD_length 16 (x.natAbs % 65536)
      omega
  omega
theorem flat_len {f : UInt8 → List Dat} {c : Nat} (hf : ∀ b, (f b).length ≤ c) : ∀ l : List UInt8, (l.flatMap f).length ≤ c * l.length
  | [] => by simp
  | b :: l => by
    rw [List.flatMap_cons, List.length_append, List.length_cons]
    have h1 := hf b
    have h2 := flat_len hf l
    rw [Nat.mul_succ]; omega
theorem nameT_len (s : ByteArray) : (nameT s).length ≤ 3 * s.size + 1 ∧ 0 < (nameT s).length := by
  unfold nameT
  have := flat_len esc_len s.data.toList
  have hsz : s.data.toList.length = s.size := Array.length_toList
  rw [hsz] at this
  rw [List.length_cons]; omega
theorem txtT_len (s : ByteArray) : (txtT s).length ≤ 2 * s.size + 2 ∧ 0 < (txtT s).length := by
  have hsz : s.data.toList.length = s.size := Array.length_toList
  unfold txtT
  cases s.data.toList.all shB
  · have := flat_len (c := 2) (fun b => Nat.le_of_eq (hex2_len b)) s.data.toList
    rw [hsz] at this
    rw [cond_false]
    unfold hexT
    rw [List.length_append, List.length_cons, List.length_singleton]; omega
  · have := flat_len escP_len s.data.toList
    rw [hsz] at this
    rw [cond_true]
    unfold parT
    rw [List.length_append, List.length_cons, List.length_singleton]; omega
theorem isBy_sep {f : Dat → List Dat} (hf : ∀ d, isBy (f d)) : ∀ (l : List Dat) (first : Bool), isBy (sepT f first l)
  | [], first => isBy.nil
  | d :: r, first => by
    rw [sepT_cons]
    refine ((?_ : isBy _).app (hf d)).app (isBy_sep hf r false)
    cases first
    · exact isBy.cons 32 rfl isBy.nil
    · exact isBy.nil
theorem isBy_dic {f : Dat → List Dat} (hf : ∀ d, isBy (f d)) : ∀ (ks l : List Dat) (first : Bool), isBy (dicT f first ks l)
  | [], l, first => by unfold dicT; exact isBy.nil
  | key :: ks, [], first => by unfold dicT; exact isBy.nil
  | key :: ks, d :: r, first => by
    rw [dicT_cons]
    refine (((?_ : isBy _).app (isBy_name _)).app (isBy.cons 32 rfl isBy.nil)).app (hf d) |>.app (isBy_dic hf ks r false)
    cases first
    · exact isBy.cons 32 rfl isBy.nil
    · exact isBy.nil
theorem isBy_txtO : ∀ (k : Nat) (d : Dat), isBy (txtO k d)
  | 0, d => isBy.nil
  | k + 1, d => by
    unfold txtO txtK
    cases (d.at 0).toI == 0
    · cases (d.at 0).toI == 1
      · cases (d.at 0).toI == 2
        · cases (d.at 0).toI == 3
          · cases (d.at 0).toI == 4
            · cases (d.at 0).toI == 5
              · cases (d.at 0).toI == 6
                · cases (d.at 0).toI == 7
                  · cases (d.at 0).toI == 8
                    · exact isBy.nil
                    · exact isBy_to _
                  · exact ((isBy_to _).app (isBy_dic (isBy_txtO k) _ _ _)).app (isBy_to _)
                · exact (isBy.cons 91 rfl (isBy_sep (isBy_txtO k) _ _)).app (isBy.cons 93 rfl isBy.nil)
              · exact isBy_txt _
            · exact isBy_name _
          · exact isBy_to _
        · exact isBy_to _
      · exact isBy_to _
    · exact isBy_to _
theorem itemsG_mono {g : Dat → Int → Int} (hg : ∀ d n, 0 ≤ n → 0 ≤ g d n → n + 1 ≤ g d n) : ∀ (l : List Dat) (n : Int), 0 ≤ n → 0 ≤ itemsG g l n → n + l.length ≤ itemsG g l n
  | [], n, h0, h => by unfold itemsG; simp
  | d :: l, n, h0, h => by
    unfold itemsG at h ⊢
    by_cases hd : g d n < 0
    · rw [decide_eq_true hd] at h; simp at h
    · rw [decide_eq_false hd, cond_false] at h ⊢
      have h1 := hg d n h0 (by omega)
      have := itemsG_mono hg l (g d n) (by omega) h
      rw [List.length_cons]; omega
theorem goodO_mono : ∀ (k : Nat) (d : Dat) (nest ahead : Int), 0 ≤ ahead → 0 ≤ goodO k d nest ahead → ahead + 1 ≤ goodO k d nest ahead
  | 0, d, nest, ahead, _, h => by simp [goodO] at h
  | k + 1, d, nest, ahead, h0, h => by
    unfold goodO at h ⊢
    cases hc : decide (ahead + 1 > 65536) || !flatD d
    · rw [hc, cond_false] at h
      rw [cond_false]
      cases hk : (d.at 0).toI == 6 || (d.at 0).toI == 7
      · rw [hk, cond_false] at h
        rw [cond_false]
        have := itemsG_mono (g := fun e n => goodO k e nest n) (fun e n hn he => goodO_mono k e nest n hn he) _ _ (by omega) h
        omega
      · rw [hk, cond_true] at h
        rw [cond_true]
        cases hn : decide (nest + 1 > 32)
        · rw [hn, cond_false] at h
          rw [cond_false]
          have := itemsG_mono (g := fun e n => goodO k e (nest + 1) n) (fun e n hn he => goodO_mono k e (nest + 1) n hn he) _ _ (by omega) h
          omega
        · rw [hn] at h; simp at h
    · rw [hc] at h; simp at h
theorem itemsG_all {g : Dat → Int → Int} (hg : ∀ d n, 0 ≤ n → 0 ≤ g d n → n + 1 ≤ g d n) : ∀ (l : List Dat) (n : Int), 0 ≤ n → 0 ≤ itemsG g l n → ∀ d ∈ l, ∃ n', 0 ≤ n' ∧ 0 ≤ g d n'
  | [], n, h0, h, d, hd => by cases hd
  | e :: l, n, h0, h, d, hd => by
    unfold itemsG at h
    by_cases he : g e n < 0
    · rw [decide_eq_true he] at h; simp at h
    · rw [decide_eq_false he, cond_false] at h
      rcases List.mem_cons.1 hd with rfl | hd
      · exact ⟨n, h0, by omega⟩
      · have := hg e n h0 (by omega)
        exact itemsG_all hg l _ (by omega) h d hd
theorem goodO_fitW : ∀ (k : Nat) (d : Dat) (nest ahead : Int), 0 ≤ ahead → 0 ≤ goodO k d nest ahead → fitW k d
  | 0, d, nest, ahead, _, h => by simp [goodO] at h
  | k + 1, d, nest, ahead, h0, h => by
    have hb := (goodO_bd (k + 1) d nest ahead h0).2
    unfold goodO at h hb
    cases hc : decide (ahead + 1 > 65536) || !flatD d
    · rw [hc, cond_false] at h hb
      rw [Bool.or_eq_false_iff, Bool.not_eq_false'] at hc
      cases hk : (d.at 0).toI == 6 || (d.at 0).toI == 7
      · rw [hk, cond_false] at h hb
        have h1 := itemsG_mono (g := fun e n => goodO k e nest n) (fun e n hn he => goodO_mono k e nest n hn he) _ _ (by omega) h
        refine ⟨hc.2, by omega, fun e he => ?_⟩
        obtain ⟨n', a1, a2⟩ := itemsG_all (g := fun e n => goodO k e nest n) (fun e n hn he => goodO_mono k e nest n hn he) _ _ (by omega) h e he
        exact goodO_fitW k e nest n' a1 a2
      · rw [hk, cond_true] at h hb
        cases hn : decide (nest + 1 > 32)
        · rw [hn, cond_false] at h hb
          have h1 := itemsG_mono (g := fun e n => goodO k e (nest + 1) n) (fun e n hn he => goodO_mono k e (nest + 1) n hn he) _ _ (by omega) h
          refine ⟨hc.2, by omega, fun e he => ?_⟩
          obtain ⟨n', a1, a2⟩ := itemsG_all (g := fun e n => goodO k e (nest + 1) n) (fun e n hn he => goodO_mono k e (nest + 1) n hn he) _ _ (by omega) h e he
          exact goodO_fitW k e (nest + 1) n' a1 a2
        · rw [hn] at h; simp at h
    · rw [hc] at h; simp at h
theorem sepT_len {f : Dat → List Dat} {g : Dat → Int → Int} (hg : ∀ d n, 0 ≤ n → 0 ≤ g d n → n + 1 ≤ g d n) (hf : ∀ d n, 0 ≤ n → 0 ≤ g d n → ((f d).length : Int) + 1000 ≤ (g d n - n) * 200000) :
    ∀ (l : List Dat) (first : Bool) (n : Int), 0 ≤ n → 0 ≤ itemsG g l n → ((sepT f first l).length : Int) ≤ (itemsG g l n - n) * 200000
  | [], first, n, h0, h => by unfold sepT itemsG; simp
  | d :: l, first, n, h0, h => by
    rw [sepT_cons, List.length_append, List.length_append]
    unfold itemsG at h ⊢
    by_cases he : g d n < 0
    · rw [decide_eq_true he] at h; simp at h
    · rw [decide_eq_false he, cond_false] at h ⊢
      have h1 := hg d n h0 (by omega)
      have h2 := hf d n h0 (by omega)
      have h3 := sepT_len hg hf l false (g d n) (by omega) h
      have h4 : (bif first then ([] : List Dat) else [Dat.int 32]).length ≤ 1 := by cases first <;> simp
      omega
theorem dicT_len {f : Dat → List Dat} {g : Dat → Int → Int} (hg : ∀ d n, 0 ≤ n → 0 ≤ g d n → n + 1 ≤ g d n) (hf : ∀ d n, 0 ≤ n → 0 ≤ g d n → ((f d).length : Int) + 1000 ≤ (g d n - n) * 200000) :
    ∀ (ks l : List Dat) (first : Bool) (n : Int), (∀ d ∈ ks, (d.at 0).toS.size ≤ 127) → 0 ≤ n → 0 ≤ itemsG g l n → ((dicT f first ks l).length : Int) ≤ (itemsG g l n - n) * 200000
  | [], l, first, n, hk, h0, h => by
    have := itemsG_mono hg l n h0 h
    unfold dicT
    simp only [List.length_nil]
    omega
  | key :: ks, [], first, n, hk, h0, h => by unfold dicT itemsG; simp
  | key :: ks, d :: l, first, n, hk, h0, h => by
    rw [dicT_cons, List.length_append, List.length_append, List.length_append, List.length_append, List.length_singleton]
    unfold itemsG at h ⊢
    by_cases he : g d n < 0
    · rw [decide_eq_true he] at h; simp at h
    · rw [decide_eq_false he, cond_false] at h ⊢
      have h1 := hg d n h0 (by omega)
      have h2 := hf d n h0 (by omega)
      have h3 := dicT_len hg hf ks l false (g d n) (fun e he => hk e (by simp [he])) (by omega) h
      have h4 : (bif first then ([] : List Dat) else [Dat.int 32]).length ≤ 1 := by cases first <;> simp
      have h5 := (nameT_len (key.at 0).toS).1
      have h6 := hk key (by simp)
      omega
theorem txtO_len : ∀ (k : Nat) (d : Dat) (nest ahead : Int), 0 ≤ ahead → 0 ≤ goodO k d nest ahead → ((txtO k d).length : Int) + 1000 ≤ (goodO k d nest ahead - ahead) * 200000 ∧ 0 < (txtO k d).length
  | 0, d, nest, ahead, _, h => by simp [goodO] at h
  | k + 1, d, nest, ahead, h0, h => by
    have hm2 : (1 : Int) ≤ goodO (k + 1) d nest ahead - ahead := by have := goodO_mono (k + 1) d nest ahead h0 h; omega
    have small : ∀ t : List Dat, t.length ≤ 140000 → 0 < t.length → (t.length : Int) + 1000 ≤ (goodO (k + 1) d nest ahead - ahead) * 200000 ∧ 0 < t.length := fun t ht hp => ⟨by omega, hp⟩
    have h1 : ∀ c : Bool, (0 ≤ bif c then (-1 : Int) else goodO (k + 1) d nest ahead) → c = false := fun c hc => by cases c; rfl; simp at hc
    cases hc : decide (ahead + 1 > 65536) || !flatD d
    · have eg : goodO (k + 1) d nest ahead = bif (d.at 0).toI == 6 || (d.at 0).toI == 7 then (bif decide (nest + 1 > 32) then -1 else itemsG (fun e n => goodO k e (nest + 1) n) (d.at 5).toL (ahead + 1)) else itemsG (fun e n => goodO k e nest n) (d.at 5).toL (ahead + 1) := by
        show (bif decide (ahead + 1 > 65536) || !flatD d then -1 else _) = _
        rw [hc]; rfl
      rw [Bool.or_eq_false_iff, Bool.not_eq_false'] at hc
      have hkb := kindB_of (show flatB (d.at 0).toI (d.at 2).toI (d.at 1).toB (d.at 3).toS (d.at 4).toL (d.at 5).toL = true from hc.2)
      rw [eg] at small h ⊢
      clear hm2 h1 eg hc
      show ((txtK (txtO k) (d.at 0).toI (d.at 2).toI (d.at 1).toB (d.at 3).toS (d.at 4).toL (d.at 5).toL).length : Int) + 1000 ≤ _ ∧ 0 < (txtK (txtO k) (d.at 0).toI (d.at 2).toI (d.at 1).toB (d.at 3).toS (d.at 4).toL (d.at 5).toL).length
      revert small h
      revert hkb
      generalize (d.at 0).toI = k1
      generalize (d.at 2).toI = n1
      generalize (d.at 1).toB = b1
      generalize (d.at 3).toS = s1
      generalize (d.at 4).toL = ks1
      generalize (d.at 5).toL = l1
      intro hkb
      rcases kinds9 hkb with rfl | rfl | rfl | rfl | rfl | rfl | rfl | rfl | rfl
      · intro _ small
        exact small (bytesTo nullT) (by rw [bytesTo_len]; decide) (by rw [bytesTo_len]; decide)
      · intro _ small
        exact small (bytesTo (boolT b1)) (by rw [bytesTo_len]; cases b1 <;> decide) (by rw [bytesTo_len]; cases b1 <;> decide)
      · intro _ small
        have := itS_size n1
        exact small (bytesTo (itS n1)) (by rw [bytesTo_len]; omega) (by rw [bytesTo_len]; omega)
      · intro _ small
        have hk : (inB n1 && (n1.tmod 65536) != 0) = true := hkb
        rw [Bool.and_eq_true] at hk
        have := fixT_size hk.1
        exact small (bytesTo (fixT n1)) (by rw [bytesTo_len]; omega) (by rw [bytesTo_len]; omega)
      · intro _ small
        have hk : namedB s1 = true := hkb
        have h1 := named_size hk
        have := nameT_len s1
        exact small (nameT s1) (by omega) (by omega)
      · intro _ small
        have hk : decide ((s1.size : Int) ≤ 65536) = true := hkb
        have h1 := of_decide_eq_true hk
        have := txtT_len s1
        exact small (txtT s1) (by omega) (by omega)
      · intro h' _
        have h' : 0 ≤ (bif decide (nest + 1 > 32) then -1 else itemsG (fun e n => goodO k e (nest + 1) n) l1 (ahead + 1)) := h'
        show (((Dat.int 91 :: sepT (txtO k) true l1) ++ [Dat.int 93]).length : Int) + 1000 ≤ ((bif decide (nest + 1 > 32) then -1 else itemsG (fun e n => goodO k e (nest + 1) n) l1 (ahead + 1)) - ahead) * 200000 ∧ 0 < ((Dat.int 91 :: sepT (txtO k) true l1) ++ [Dat.int 93]).length
        cases hn : decide (nest + 1 > 32)
        · rw [hn, cond_false] at h'
          rw [cond_false, List.length_append, List.length_cons, List.length_singleton]
          have := sepT_len (f := txtO k) (g := fun e n => goodO k e (nest + 1) n) (fun e n hn he => goodO_mono k e (nest + 1) n hn he) (fun e n hn he => (txtO_len k e (nest + 1) n hn he).1) l1 true (ahead + 1) (by omega) h'
          omega
        · rw [hn] at h'; simp at h'
      · intro h' _
        have h' : 0 ≤ (bif decide (nest + 1 > 32) then -1 else itemsG (fun e n => goodO k e (nest + 1) n) l1 (ahead + 1)) := h'
        show (((bytesTo ⟨#[60, 60]⟩ ++ dicT (txtO k) true ks1 l1) ++ bytesTo ⟨#[62, 62]⟩).length : Int) + 1000 ≤ ((bif decide (nest + 1 > 32) then -1 else itemsG (fun e n => goodO k e (nest + 1) n) l1 (ahead + 1)) - ahead) * 200000 ∧ 0 < ((bytesTo ⟨#[60, 60]⟩ ++ dicT (txtO k) true ks1 l1) ++ bytesTo ⟨#[62, 62]⟩).length
        cases hn : decide (nest + 1 > 32)
        · rw [hn, cond_false] at h'
          rw [cond_false, List.length_append, List.length_append, bytesTo_len, bytesTo_len]
          have := dicT_len (f := txtO k) (g := fun e n => goodO k e (nest + 1) n) (fun e n hn he => goodO_mono k e (nest + 1) n hn he) (fun e n hn he => (txtO_len k e (nest + 1) n hn he).1) ks1 l1 true (ahead + 1) (kb7 hkb).2 (by omega) h'
          have e2 : (⟨#[60, 60]⟩ : ByteArray).size = 2 := rfl
          have e3 : (⟨#[62, 62]⟩ : ByteArray).size = 2 := rfl
          omega
        · rw [hn] at h'; simp at h'
      · intro _ small
        have := itS_size n1
        have e : (bytesTo (itS n1 ++ refT)).length = (itS n1).size + 4 := by rw [bytesTo_len, ByteArray.size_append]; rfl
        exact small (bytesTo (itS n1 ++ refT)) (by omega) (by omega)
    · have : goodO (k + 1) d nest ahead = -1 := by
        show (bif decide (ahead + 1 > 65536) || !flatD d then -1 else _) = _
        rw [hc]; rfl
      omega
theorem okWr_good {d : Dat} (h : goodO 101 d 0 0 > 0) : okWr 101 d [] := by
  refine ⟨goodO_fitW 101 d 0 0 (by omega) (by omega), ?_⟩
  have h1 := (txtO_len 101 d 0 0 (by omega) (by omega)).1
  have h2 := (goodO_bd 101 d 0 0 (by omega)).2
  simp only [List.length_nil]
  omega
end Go.Proofs.YtckdgcpomkefpaaGreatDoor.En
end
section
set_option linter.unusedVariables false
set_option linter.unusedSimpArgs false
set_option maxRecDepth 100000
namespace Go.Proofs.YtckdgcpomkefpaaGreatDoor.En
open Go
def ub (l : List Dat) : List UInt8 := l.map fun d => UInt8.ofNat (d.at 0).toI.toNat
theorem ub_app (a b : List Dat) : ub (a ++ b) = ub a ++ ub b := List.map_append
theorem ub_cons (d : Dat) (l : List Dat) : ub (d :: l) = UInt8.ofNat (d.at 0).toI.toNat :: ub l := rfl
theorem ub_len (l : List Dat) : (ub l).length = l.length := List.length_map _
theorem ub_to (s : ByteArray) : ub (bytesTo s) = s.data.toList := by
  unfold ub bytesTo
  rw [List.map_map]
  refine (List.map_congr_left fun c _ => ?_).trans (List.map_id _)
  exact UInt8.ofNat_toNat
theorem of_ub (l : List Dat) : bytesOf l = bs (ub l) := rfl
def txtU (k : Nat) (d : Dat) : List UInt8 := ub (txtO k d)
theorem isT_bs (l : List UInt8) (t : ByteArray) : isT (bs l) t = decide (l = t.data.toList) := by
  unfold isT
  rw [bs_toList, Lib.toList_data, Bool.eq_iff_iff, beq_iff_eq, decide_eq_true_iff]
def numC (c : UInt8) : Bool := c == 45 || (c == 46 || (Nat.ble 48 c.toNat && Nat.ble c.toNat 57))
theorem num_dig {c : UInt8} (h : digC c) : numC c = true := by
  unfold numC
  rw [Nat.ble_eq_true_of_le h.1, Nat.ble_eq_true_of_le h.2]
  simp
theorem num_wd {c : UInt8} (h : numC c = true) : wdU c = true := by
  have := byte_tab (fun c => !numC c || wdU c) (by decide +kernel) c
  rw [h] at this
  simpa using this
theorem itoa_num (n : Int) : (∀ c ∈ Lib.itoa n, numC c = true) ∧ Lib.itoa n ≠ [] := by
  rcases Int.lt_or_le n 0 with h | h
  · obtain ⟨u, rfl⟩ : ∃ u : Nat, n = -(u : Int) := ⟨n.natAbs, by omega⟩
    rw [Lib.itoa_neg u (by omega)]
    refine ⟨fun c hc => ?_, by simp⟩
    rcases List.mem_cons.1 hc with rfl | hc
    · rfl
    · exact num_dig ((dec_all u).1 c hc)
  · obtain ⟨u, rfl⟩ : ∃ u : Nat, n = (u : Int) := ⟨n.natAbs, by omega⟩
    rw [Lib.itoa_nonneg]
    exact ⟨fun c hc => num_dig ((dec_all u).1 c hc), (dec_all u).2.2.1⟩
theorem body_num (u : Nat) : (∀ c ∈ textBody u, numC c = true) ∧ textBody u ≠ [] := by
  have hq := asU_dig (natDigits_digits (u / 65536))
  have hf := asU_dig (fracD_digits 16 _ (Nat.mod_lt u (by omega : 65536 > 0)))
  unfold textBody
  refine ⟨fun c hc => ?_, fun h => ?_⟩
  · rcases List.mem_append.1 hc with h | h
    · exact num_dig (hq c h)
    · by_cases h0 : u % 65536 = 0
      · rw [if_pos h0] at h; cases h
      · rw [if_neg h0] at h
        rcases List.mem_cons.1 h with rfl | h
        · rfl
        · exact num_dig (hf c h)
  · have h1 := (List.append_eq_nil_iff.1 h).1
    have h2 := natDigits_pos (u / 65536)
    have h3 := asU_length (natDigits (u / 65536))
    rw [h1, List.length_nil] at h3
    omega
theorem fix_num (x : Int) : (∀ c ∈ (fixT x).data.toList, numC c = true) ∧ (fixT x).data.toList ≠ [] := by
  obtain ⟨h1, h2⟩ := body_num x.natAbs
  unfold fixT
  show (∀ c ∈ (if x < 0 then ([45] : List UInt8) else []) ++ textBody x.natAbs, numC c = true) ∧ (if x < 0 then ([45] : List UInt8) else []) ++ textBody x.natAbs ≠ []
  refine ⟨fun c hc => ?_, fun h => h2 (List.append_eq_nil_iff.1 h).2⟩
  rcases List.mem_append.1 hc with h | h
  · by_cases h0 : x < 0
    · rw [if_pos h0, List.mem_singleton] at h
      subst h
      rfl
    · rw [if_neg h0] at h; cases h
  · exact h1 c h
theorem num_none {w : List UInt8} (h : ∀ c ∈ w, numC c = true) : isT (bs w) nulT = false ∧ isT (bs w) trueT = false ∧ isT (bs w) falseT = false := by
  rw [isT_bs, isT_bs, isT_bs]
  refine ⟨decide_eq_false fun e => ?_, decide_eq_false fun e => ?_, decide_eq_false fun e => ?_⟩
  · have := h 110 (by rw [e]; simp [nulT]); cases this
  · have := h 116 (by rw [e]; simp [trueT]); cases this
  · have := h 102 (by rw [e]; simp [falseT]); cases this
theorem num_R {w : List UInt8} (h : ∀ c ∈ w, numC c = true) : w ≠ [82] := fun e => by
  have := h 82 (by rw [e]; simp)
  cases this
theorem atoi_itoa {n : Int} (h0 : -9223372036854775808 ≤ n) (h1 : n ≤ 9223372036854775807) : Lib.atoiAll (Lib.itoa n) = .ok n := by
  rcases Int.lt_or_le n 0 with h | h
  · obtain ⟨u, rfl⟩ : ∃ u : Nat, n = -(u : Int) := ⟨n.natAbs, by omega⟩
    obtain ⟨d1, d2, d3, d4⟩ := dec_all u
    rw [Lib.itoa_neg u (by omega), Lib.atoiAll_minus, mag_val d3 d1 (by rw [d2]; omega), d2]
    unfold Lib.signed
    simp only
    rw [if_neg (by omega)]
  · obtain ⟨u, rfl⟩ : ∃ u : Nat, n = (u : Int) := ⟨n.natAbs, by omega⟩
    obtain ⟨d1, d2, d3, d4⟩ := dec_all u
    have hm := mag_val d3 d1 (by rw [d2]; omega)
    rw [d2] at hm
    rw [Lib.itoa_nonneg]
    generalize Lib.decDigits u = l at d1 d3 hm
    cases l with
    | nil => exact (d3 rfl).elim
    | cons c r =>
      rw [plain_head (d1 c (by simp)), hm]
      unfold Lib.signless
      simp only
      rw [if_neg (by omega)]
theorem isI_of {n : Int} (h0 : -9223372036854775808 ≤ n) (h1 : n ≤ 9223372036854775807) : isI (bs (Lib.itoa n)) = true ∧ atV (bs (Lib.itoa n)) = n := by
  have e : Lib.atoiAll (bs (Lib.itoa n)).data.toList = .ok n := atoi_itoa h0 h1
  have e1 : atK (bs (Lib.itoa n)) = true := by unfold atK; rw [e]
  have e2 : atV (bs (Lib.itoa n)) = n := by unfold atV; rw [e]
  refine ⟨?_, e2⟩
  unfold isI
  rw [e1, e2, isT_itT h0 h1, Bool.true_and, decide_eq_true_iff]
  rfl
theorem itS_itoa {n : Int} (h0 : -9223372036854775808 ≤ n) (h1 : n ≤ 9223372036854775807) : itS n = bs (Lib.itoa n) := by
  unfold itS
  rw [itoaF_eq h0 h1]
  rfl
theorem dpF_fixT {x : Int} (h : inB x = true) : dpF (fixT x) = (true, x) := by
  obtain ⟨b0, b1⟩ := inB_bd h
  have e := (near_back x b0 b1).1
  unfold dpF nr1 nr2
  rw [e]
  simp
theorem isI_fixT {x : Int} (h0 : x.tmod 65536 ≠ 0) : isI (fixT x) = false := by
  cases hi : isI (fixT x)
  · rfl
  · exfalso
    have h1 := isI_itoa hi
    have hz : x.natAbs % 65536 ≠ 0 := fun e => h0 (by
      have e2 : (x.tmod 65536).natAbs = 0 := by rw [Int.natAbs_tmod]; exact e
      omega)
    have hp : (46 : UInt8) ∈ (fixT x).data.toList := by
      unfold fixT textBody
      rw [if_neg hz]
      simp [bs]
    rw [← h1] at hp
    exact no_point hp
theorem word_read {s : ByteArray} {a : Nat} {w r : List UInt8} (h : rest s a = w ++ r) (hw : ∀ c ∈ w, wdU c = true) (hr : endW r) :
    wdA s (a : Int) = ((a + w.length : Nat) : Int) ∧ sub' s (a : Int) (wdA s (a : Int)) = bs w := by
  have e : wdA s (a : Int) = ((a + w.length : Nat) : Int) := skA_rest wordB s w a r h hw hr
  exact ⟨e, by rw [e]; exact sub_rest h⟩
section
variable {s : ByteArray} {a : Nat} {r : List UInt8} (hr : safe r)
theorem null_wd : ∀ c ∈ nulT.data.toList, wdU c = true := by decide +kernel
theorem true_wd : ∀ c ∈ trueT.data.toList, wdU c = true := by decide +kernel
theorem false_wd : ∀ c ∈ falseT.data.toList, wdU c = true := by decide +kernel
include hr
theorem sd_null (h : rest s a = nulT.data.toList ++ r) (l : Int) : sdS dpF s (sub' s (a : Int) (wdA s (a : Int))) (wdA s (a : Int)) l = some (plO 0 0 false ⟨#[]⟩, ((a + 4 : Nat) : Int), l) := by
  obtain ⟨e1, e2⟩ := word_read h null_wd hr.1
  unfold sdS
  rw [e2, isT_bs, decide_eq_true rfl, cond_true, e1]
  rfl
theorem sd_true (h : rest s a = trueT.data.toList ++ r) (l : Int) : sdS dpF s (sub' s (a : Int) (wdA s (a : Int))) (wdA s (a : Int)) l = some (plO 1 0 true ⟨#[]⟩, ((a + 4 : Nat) : Int), l) := by
  obtain ⟨e1, e2⟩ := word_read h true_wd hr.1
  unfold sdS
  rw [e2, isT_bs, isT_bs, decide_eq_false (by decide), decide_eq_true rfl, cond_true, cond_false, e1]
  rfl
theorem sd_false (h : rest s a = falseT.data.toList ++ r) (l : Int) : sdS dpF s (sub' s (a : Int) (wdA s (a : Int))) (wdA s (a : Int)) l = some (plO 1 0 false ⟨#[]⟩, ((a + 5 : Nat) : Int), l) := by
  obtain ⟨e1, e2⟩ := word_read h false_wd hr.1
  unfold sdS
  rw [e2, isT_bs, isT_bs, isT_bs, decide_eq_false (by decide), decide_eq_false (by decide), decide_eq_true rfl, cond_true, cond_false, cond_false, e1]
  rfl
theorem sd_int {n : Int} (hn : inB n = true) (h : rest s a = Lib.itoa n ++ r) (l : Int) : sdS dpF s (sub' s (a : Int) (wdA s (a : Int))) (wdA s (a : Int)) l = some (plO 2 n false ⟨#[]⟩, ((a + (Lib.itoa n).length : Nat) : Int), l) := by
  obtain ⟨m1, m2⟩ := itoa_num n
  obtain ⟨e1, e2⟩ := word_read h (fun c hc => num_wd (m1 c hc)) hr.1
  obtain ⟨t1, t2, t3⟩ := num_none m1
  have hf := rfB_no (rest_app h) hr.2.2
  obtain ⟨b0, b1⟩ := inB_bd hn
  obtain ⟨i1, i2⟩ := isI_of (n := n) (by omega) (by omega)
  unfold sdS
  rw [e2, t1, t2, t3, i1, i2, e1, hf]
  rfl
theorem sd_fix {x : Int} (hx : inB x = true) (h0 : x.tmod 65536 ≠ 0) (h : rest s a = (fixT x).data.toList ++ r) (l : Int) : sdS dpF s (sub' s (a : Int) (wdA s (a : Int))) (wdA s (a : Int)) l = some (plO 3 x false ⟨#[]⟩, ((a + (fixT x).size : Nat) : Int), l) := by
  obtain ⟨m1, m2⟩ := fix_num x
  obtain ⟨e1, e2⟩ := word_read h (fun c hc => num_wd (m1 c hc)) hr.1
  obtain ⟨t1, t2, t3⟩ := num_none m1
  have e3 : bs (fixT x).data.toList = fixT x := bs_data _
  unfold sdS
  rw [e2, t1, t2, t3, e3, isI_fixT h0, dpF_fixT hx, e1]
  rfl
end
theorem ref_tail {s : ByteArray} {b : Nat} {r : List UInt8} (hr : endW r) (k1 : rest s b = 32 :: 48 :: 32 :: 82 :: r) : rfB s (b : Int) = true ∧ rf3 s (b : Int) = ((b + 4 : Nat) : Int) := by
  have k2 := rest_tl k1
  have k3 := rest_tl k2
  have k4 := rest_tl k3
  have w1 : blA s (b : Int) = ((b + 1 : Nat) : Int) := skA_rest blkB s [32] b _ k1 (by decide +kernel) (fun c r' e => by injection e with e _; rw [← e]; decide +kernel)
  have w2 : wdA s ((b + 1 : Nat) : Int) = ((b + 1 + 1 : Nat) : Int) := skA_rest wordB s [48] (b + 1) _ k2 (by decide +kernel) (fun c r' e => by injection e with e _; rw [← e]; decide +kernel)
  have w3 : blA s ((b + 1 + 1 : Nat) : Int) = ((b + 1 + 1 + 1 : Nat) : Int) := skA_rest blkB s [32] (b + 1 + 1) _ k3 (by decide +kernel) (fun c r' e => by injection e with e _; rw [← e]; decide +kernel)
  have w4 : wdA s ((b + 1 + 1 + 1 : Nat) : Int) = ((b + 1 + 1 + 1 + 1 : Nat) : Int) := skA_rest wordB s [82] (b + 1 + 1 + 1) _ k4 (by decide +kernel) hr
  have s1 : sub' s ((b + 1 : Nat) : Int) ((b + 1 + 1 : Nat) : Int) = bs [48] := sub_rest (l := [48]) k2
  have s2 : sub' s ((b + 1 + 1 + 1 : Nat) : Int) ((b + 1 + 1 + 1 + 1 : Nat) : Int) = bs [82] := sub_rest (l := [82]) k4
  unfold rfB rf3 rf2 rf1
  rw [w1, w2, w3, w4, s1, s2, bs_toList, bs_toList, decide_eq_true (by omega), decide_eq_true (by omega), Lib.toList_data, Lib.toList_data]
  exact ⟨rfl, rfl⟩
theorem sd_ref {s : ByteArray} {a : Nat} {r : List UInt8} (hr : endW r) {n : Int} (h1 : 1 ≤ n) (h2 : n ≤ 4096) (h : rest s a = (Lib.itoa n ++ [32, 48, 32, 82]) ++ r) (l : Int) :
    sdS dpF s (sub' s (a : Int) (wdA s (a : Int))) (wdA s (a : Int)) l = some (plO 8 n false ⟨#[]⟩, ((a + ((Lib.itoa n).length + 4) : Nat) : Int), l) := by
  obtain ⟨m1, m2⟩ := itoa_num n
  rw [List.append_assoc] at h
  obtain ⟨e1, e2⟩ := word_read h (fun c hc => num_wd (m1 c hc)) (fun c r' e => by injection e with e _; rw [← e]; decide +kernel)
  obtain ⟨t1, t2, t3⟩ := num_none m1
  obtain ⟨hf, h3⟩ := ref_tail hr (rest_app h)
  obtain ⟨i1, i2⟩ := isI_of (n := n) (by omega) (by omega)
  unfold sdS
  rw [e2, t1, t2, t3, i1, i2, e1, hf, h3]
  simp only [cond_false, cond_true]
  rw [← Nat.add_assoc]
end Go.Proofs.YtckdgcpomkefpaaGreatDoor.En
end
section
set_option linter.unusedVariables false
set_option linter.unusedSimpArgs false
set_option maxRecDepth 100000
namespace Go.Proofs.YtckdgcpomkefpaaGreatDoor.En
open Go
def escU (b : UInt8) : List UInt8 := ub (esc b)
def escPU (b : UInt8) : List UInt8 := ub (escP b)
def hexU (b : UInt8) : List UInt8 := ub (hex2 b)
def intU (t : List UInt8) : List Dat := t.map fun b => Dat.int b.toNat
theorem intU_of (t : List UInt8) : bytesOf (intU t) = bs t := by
  rw [of_ub]
  have : ub (intU t) = t := by
    unfold ub intU
    rw [List.map_map]
    refine (List.map_congr_left fun c _ => ?_).trans (List.map_id _)
    exact UInt8.ofNat_toNat
  rw [this]
theorem ub_flat {f : UInt8 → List Dat} : ∀ t : List UInt8, ub (t.flatMap f) = t.flatMap fun b => ub (f b)
  | [] => rfl
  | b :: t => by rw [List.flatMap_cons, ub_app, ub_flat t, List.flatMap_cons]
theorem ub_name (s : ByteArray) : ub (nameT s) = 47 :: s.data.toList.flatMap escU := by
  unfold nameT
  rw [ub_cons, ub_flat]
  rfl
def hiU (b : UInt8) : UInt8 := UInt8.ofNat (bt figs (hi4 b.toNat)).toNat
def loU (b : UInt8) : UInt8 := UInt8.ofNat (bt figs (lo4 b.toNat)).toNat
theorem escU_eq (b : UInt8) : escU b = bif plainB b.toNat then [b] else [35, hiU b, loU b] := by
  unfold escU esc
  cases plainB b.toNat
  · rfl
  · show [UInt8.ofNat b.toNat] = [b]
    rw [UInt8.ofNat_toNat]
theorem hexU_eq (b : UInt8) : hexU b = [hiU b, loU b] := rfl
def pairW (x y : Int) : Int := U8 (BitVec.ofInt IntKind.u8.bits (U8 (hexV x * 2 ^ (min (4 : Int).toNat IntKind.u8.bits))) ||| BitVec.ofInt IntKind.u8.bits (hexV y)).toNat
theorem pairV_eq (s : ByteArray) (a : Int) : pairV s a = pairW (bt s a) (bt s (a + 1)) := rfl
def hexOk (b : UInt8) : Bool := hexB (hiU b).toNat && (hexB (loU b).toNat && ((pairW (hiU b).toNat (loU b).toNat == b.toNat) && (((hiU b).toNat : Int) != 62 && (((hiU b).toNat : Int) != 60))))
theorem hex_ok (b : UInt8) : hexB (hiU b).toNat = true ∧ hexB (loU b).toNat = true ∧ pairW (hiU b).toNat (loU b).toNat = b.toNat ∧ ((((hiU b).toNat : Int) == 62) = false) ∧ (((hiU b).toNat : Int) == 60) = false := by
  have := byte_tab hexOk (by decide +kernel) b
  unfold hexOk at this
  simp only [Bool.and_eq_true, beq_iff_eq, bne_iff_ne] at this
  obtain ⟨h1, h2, h3, h4, h5⟩ := this
  exact ⟨h1, h2, h3, beq_eq_false_iff_ne.2 h4, beq_eq_false_iff_ne.2 h5⟩
theorem plain_ok {b : UInt8} (h : plainB b.toNat = true) : wdU b = true ∧ ((b.toNat : Int) == 35) = false := by
  have := byte_tab (fun b => !plainB b.toNat || (wdU b && !((b.toNat : Int) == 35))) (by decide +kernel) b
  rw [h] at this
  simpa using this
theorem nm_read {s : ByteArray} {r : List UInt8} (hr : endW r) : ∀ (t : List UInt8) (q a : Nat) (acc : List Dat), rest s a = t.flatMap escU ++ r → t.length < q → nmP s q (a : Int) acc = some (acc ++ intU t, ((a + (t.flatMap escU).length : Nat) : Int))
  | t, 0, a, acc, _, h => by omega
  | [], q + 1, a, acc, h, _ => by
    have h : rest s a = r := h
    have hc : (decide ((a : Int) < s.size) && wordB (bt s (a : Int))) = false := by
      cases r with
      | nil =>
        have := rest_nil h
        rw [decide_eq_false (by omega), Bool.false_and]
      | cons c r' =>
        have hw : wordB (c.toNat : Int) = false := hr c r' rfl
        rw [rest_bt h, hw, Bool.and_false]
    unfold nmP
    rw [hc, cond_false]
    show _ = some (acc ++ [], _)
    rw [List.append_nil]
    rfl
  | b :: t, q + 1, a, acc, h, hq => by
    rw [List.flatMap_cons, List.append_assoc] at h
    have ih := nm_read (s := s) hr t q
    rw [List.length_cons] at hq
    have e0 : intU (b :: t) = Dat.int b.toNat :: intU t := rfl
    rw [escU_eq] at h
    unfold nmP
    cases hp : plainB b.toNat
    · rw [hp, cond_false] at h
      have h : rest s a = 35 :: hiU b :: loU b :: (t.flatMap escU ++ r) := h
      obtain ⟨x1, x2, x3, _, _⟩ := hex_ok b
      have h1 := rest_tl h
      have h2 := rest_tl h1
      have h3 := rest_tl h2
      have s0 := rest_size h2
      have hw : wordB ((35 : UInt8).toNat : Int) = true := by decide +kernel
      have hpair : pairB s ((a : Int) + 1) = true := by
        unfold pairB
        rw [show (a : Int) + 1 = ((a + 1 : Nat) : Int) by omega, rest_bt h1, show ((a + 1 : Nat) : Int) + 1 = ((a + 1 + 1 : Nat) : Int) by omega, rest_bt h2, x1, x2, decide_eq_true (by omega)]
        rfl
      have hval : pairV s ((a : Int) + 1) = b.toNat := by
        rw [pairV_eq, show (a : Int) + 1 = ((a + 1 : Nat) : Int) by omega, rest_bt h1, show ((a + 1 : Nat) : Int) + 1 = ((a + 1 + 1 : Nat) : Int) by omega, rest_bt h2, x3]
      rw [rest_bt h, hw, decide_eq_true (by omega), hpair, hval, show (((35 : UInt8).toNat : Int) == 35) = true from rfl]
      simp only [cond_true, Bool.and_self]
      rw [show (a : Int) + 3 = ((a + 1 + 1 + 1 : Nat) : Int) by omega, ih _ _ h3 (by omega), e0, List.append_assoc, List.flatMap_cons, escU_eq, hp, List.length_append]
      congr 3
      show a + 1 + 1 + 1 + _ = a + (3 + _)
      omega
    · rw [hp, cond_true] at h
      have h : rest s a = b :: (t.flatMap escU ++ r) := h
      obtain ⟨x1, x2⟩ := plain_ok hp
      have x1 : wordB (b.toNat : Int) = true := x1
      have h1 := rest_tl h
      have s0 := rest_size h
      rw [rest_bt h, x1, x2, hp, decide_eq_true (by omega)]
      simp only [cond_true, cond_false, Bool.and_self]
      rw [show (a : Int) + 1 = ((a + 1 : Nat) : Int) by omega, ih _ _ h1 (by omega), e0, List.append_assoc, List.flatMap_cons, escU_eq, hp, List.length_append]
      congr 3
      show a + 1 + _ = a + (1 + _)
      omega
theorem nmA_read {s : ByteArray} {r : List UInt8} (hr : endW r) {t : List UInt8} {a : Nat} (h : rest s a = t.flatMap escU ++ r) : nmA s (a : Int) = some (intU t, ((a + (t.flatMap escU).length : Nat) : Int)) := by
  have hl := rest_length s a
  rw [h, List.length_append] at hl
  have ht : t.length ≤ (t.flatMap escU).length := by
    clear h hl
    induction t with
    | nil => simp
    | cons b t ih =>
      rw [List.flatMap_cons, List.length_append, List.length_cons]
      have : 1 ≤ (escU b).length := by rw [escU_eq]; cases plainB b.toNat <;> simp
      omega
  unfold nmA
  rw [nm_read hr t _ a [] h (by omega), List.nil_append]
theorem escPU_eq (b : UInt8) : escPU b = bif ((b.toNat : Int) == 40 || (b.toNat : Int) == 41) || (b.toNat : Int) == 92 then [92, b] else [b] := by
  unfold escPU escP
  have e : UInt8.ofNat ((Dat.int b.toNat).at 0).toI.toNat = b := UInt8.ofNat_toNat
  cases ((b.toNat : Int) == 40 || (b.toNat : Int) == 41) || (b.toNat : Int) == 92
  · rw [cond_false, cond_false, ub_cons, e]; rfl
  · rw [cond_true, cond_true, ub_cons, ub_cons, e]; rfl
def escBk (b : UInt8) : Bool := !(((b.toNat : Int) == 40 || (b.toNat : Int) == 41) || (b.toNat : Int) == 92) || (eB b.toNat && (eV b.toNat == b.toNat))
theorem esc_bk {b : UInt8} (h : (((b.toNat : Int) == 40 || (b.toNat : Int) == 41) || (b.toNat : Int) == 92) = true) : eB b.toNat = true ∧ eV b.toNat = b.toNat := by
  have := byte_tab escBk (by decide +kernel) b
  unfold escBk at this
  rw [h] at this
  simpa using this
theorem qu_read {s : ByteArray} {r : List UInt8} : ∀ (t : List UInt8) (q a : Nat) (acc : List Dat), rest s a = t.flatMap escPU ++ 41 :: r → t.length < q → quP s q (a : Int) 0 acc = some (acc ++ intU t, ((a + (t.flatMap escPU).length + 1 : Nat) : Int))
  | t, 0, a, acc, _, h => by omega
  | [], q + 1, a, acc, h, _ => by
    have h : rest s a = 41 :: r := h
    have s0 := rest_size h
    unfold quP
    rw [decide_eq_true (by omega), rest_bt h]
    show some (acc, (a : Int) + 1) = some (acc ++ [], _)
    rw [List.append_nil]
    rfl
  | b :: t, q + 1, a, acc, h, hq => by
    rw [List.flatMap_cons, List.append_assoc] at h
    have ih := qu_read (s := s) (r := r) t q
    rw [List.length_cons] at hq
    have e0 : intU (b :: t) = Dat.int b.toNat :: intU t := rfl
    rw [escPU_eq] at h
    unfold quP
    cases hp : ((b.toNat : Int) == 40 || (b.toNat : Int) == 41) || (b.toNat : Int) == 92
    · rw [hp, cond_false] at h
      have h : rest s a = b :: (t.flatMap escPU ++ 41 :: r) := h
      have h1 := rest_tl h
      have s0 := rest_size h
      rw [Bool.or_eq_false_iff, Bool.or_eq_false_iff] at hp
      obtain ⟨⟨p1, p2⟩, p3⟩ := hp
      rw [rest_bt h, p1, p2, p3, decide_eq_true (by omega)]
      simp only [cond_true, cond_false]
      rw [show (a : Int) + 1 = ((a + 1 : Nat) : Int) by omega, ih _ _ h1 (by omega), e0, List.append_assoc, List.flatMap_cons, escPU_eq, p1, p2, p3, List.length_append]
      congr 3
      show a + 1 + _ + 1 = a + (1 + _) + 1
      omega
    · rw [hp, cond_true] at h
      have h : rest s a = 92 :: b :: (t.flatMap escPU ++ 41 :: r) := h
      have h1 := rest_tl h
      have h2 := rest_tl h1
      have s0 := rest_size h1
      obtain ⟨x1, x2⟩ := esc_bk hp
      have hok : escOk s ((a : Int) + 1) = true := by
        unfold escOk
        rw [show (a : Int) + 1 = ((a + 1 : Nat) : Int) by omega, rest_bt h1, x1, decide_eq_true (by omega)]
        rfl
      have hv : escV s ((a : Int) + 1) = b.toNat := by
        unfold escV
        rw [show (a : Int) + 1 = ((a + 1 : Nat) : Int) by omega, rest_bt h1, x1, cond_true, x2]
      have hpos : esP s ((a : Int) + 1) = ((a + 1 + 1 : Nat) : Int) := by
        unfold esP
        rw [show (a : Int) + 1 = ((a + 1 : Nat) : Int) by omega, rest_bt h1, x1, cond_true]
        omega
      rw [rest_bt h, hok, hv, hpos, decide_eq_true (by omega)]
      show quP s q ((a + 1 + 1 : Nat) : Int) 0 (acc ++ [Dat.int b.toNat]) = _
      rw [ih _ _ h2 (by omega), e0, List.append_assoc, List.flatMap_cons, escPU_eq, hp, List.length_append]
      congr 3
      show a + 1 + 1 + _ + 1 = a + (2 + _) + 1
      omega
theorem txA_read {s : ByteArray} {r t : List UInt8} {a : Nat} (h : rest s a = t.flatMap escPU ++ 41 :: r) : txA s (a : Int) = some (intU t, ((a + (t.flatMap escPU).length + 1 : Nat) : Int)) := by
  have hl := rest_length s a
  rw [h, List.length_append] at hl
  have ht : t.length ≤ (t.flatMap escPU).length := by
    clear h hl
    induction t with
    | nil => simp
    | cons b t ih =>
      rw [List.flatMap_cons, List.length_append, List.length_cons]
      have : 1 ≤ (escPU b).length := by rw [escPU_eq]; cases ((b.toNat : Int) == 40 || (b.toNat : Int) == 41) || (b.toNat : Int) == 92 <;> simp
      omega
  unfold txA
  rw [qu_read t _ a [] h (by omega), List.nil_append]
theorem hx_read {s : ByteArray} {r : List UInt8} : ∀ (t : List UInt8) (q a : Nat) (acc : List Dat), rest s a = t.flatMap hexU ++ 62 :: r → t.length < q → hxP s q (a : Int) acc = some (acc ++ intU t, ((a + (t.flatMap hexU).length + 1 : Nat) : Int))
  | t, 0, a, acc, _, h => by omega
  | [], q + 1, a, acc, h, _ => by
    have h : rest s a = 62 :: r := h
    unfold hxP
    rw [isB_rest h]
    show some (acc, (a : Int) + 1) = some (acc ++ [], _)
    rw [List.append_nil]
    rfl
  | b :: t, q + 1, a, acc, h, hq => by
    rw [List.flatMap_cons, List.append_assoc] at h
    have ih := hx_read (s := s) (r := r) t q
    rw [List.length_cons] at hq
    have e0 : intU (b :: t) = Dat.int b.toNat :: intU t := rfl
    have h : rest s a = hiU b :: loU b :: (t.flatMap hexU ++ 62 :: r) := h
    obtain ⟨x1, x2, x3, x4, _⟩ := hex_ok b
    have h1 := rest_tl h
    have h2 := rest_tl h1
    have s0 := rest_size h1
    have hpair : pairB s (a : Int) = true := by
      unfold pairB
      rw [rest_bt h, show (a : Int) + 1 = ((a + 1 : Nat) : Int) by omega, rest_bt h1, x1, x2, decide_eq_true (by omega)]
      rfl
    have hval : pairV s (a : Int) = b.toNat := by
      rw [pairV_eq, rest_bt h, show (a : Int) + 1 = ((a + 1 : Nat) : Int) by omega, rest_bt h1, x3]
    unfold hxP
    rw [isB_rest h, x4, hpair, hval, cond_false, cond_true, show (a : Int) + 2 = ((a + 1 + 1 : Nat) : Int) by omega, ih _ _ h2 (by omega), e0, List.append_assoc, List.flatMap_cons, hexU_eq, List.length_append]
    congr 3
    show a + 1 + 1 + _ + 1 = a + (2 + _) + 1
    omega
theorem hxA_read {s : ByteArray} {r t : List UInt8} {a : Nat} (h : rest s a = t.flatMap hexU ++ 62 :: r) : hxA s (a : Int) = some (intU t, ((a + (t.flatMap hexU).length + 1 : Nat) : Int)) := by
  have hl := rest_length s a
  rw [h, List.length_append] at hl
  have ht : t.length ≤ (t.flatMap hexU).length := by
    clear h hl
    induction t with
    | nil => simp
    | cons b t ih =>
      rw [List.flatMap_cons, List.length_append, List.length_cons, hexU_eq]
      simp only [List.length_cons, List.length_nil]
      omega
  unfold hxA
  rw [hx_read t _ a [] h (by omega), List.nil_append]
theorem ub_txt (s : ByteArray) : ub (txtT s) = bif s.data.toList.all shB then 40 :: (s.data.toList.flatMap escPU ++ [41]) else 60 :: (s.data.toList.flatMap hexU ++ [62]) := by
  unfold txtT
  cases s.data.toList.all shB
  · rw [cond_false, cond_false]
    unfold hexT
    rw [ub_app, ub_cons, ub_flat]
    rfl
  · rw [cond_true, cond_true]
    unfold parT
    rw [ub_app, ub_cons, ub_flat]
    rfl
end Go.Proofs.YtckdgcpomkefpaaGreatDoor.En
end
