/- The program's 'all' (is a text digits alone?) and its 'doubled' (a fraction's digits, doubled seventeen times): what their calls come to, for every text. -/
import Derived.Test.YtekifiblehmafaaDoorXE1
import Derived.Lib.OthersKept
import Derived.Lib.DecodeN
import Derived.Lib.ConvBytes
import Derived.Lib.Hide
namespace Go.Proofs.YtekifiblehmafaaDoor.X
open Go.RowKit Go.Proofs.YtekifiblehmafaaDoorW.PrintWords Go.Proofs.YtekifiblehmafaaDoorW.PrintLast Go.Proofs.YtekifiblehmafaaDoorW.PrintMore
set_option linter.unusedVariables false
set_option linter.unusedSimpArgs false

theorem decode_high (s : ByteArray) (pos : Nat) (h : pos < s.size) (ha : 128 ≤ (s[pos]'h).toNat) : 128 ≤ (Utf8.decode s pos).1 := by
  rw [Lib.decode_at]
  have e : s.get! pos = s[pos]'h := by
    obtain ⟨⟨l⟩⟩ := s
    exact getElem!_pos (c := (⟨l⟩ : Array UInt8)) pos h
  rw [e]
  generalize (s[pos]'h).toNat = b0 at *
  generalize (s.get! (pos + 1)).toNat = b1
  generalize (s.get! (pos + 2)).toNat = b2
  generalize (s.get! (pos + 3)).toNat = b3
  unfold Lib.decodeN
  repeat' split
  all_goals first | omega | (simp; omega)

def isDig (c : UInt8) : Bool := 48 ≤ c.toNat && c.toNat ≤ 57
def allDig (s : ByteArray) : Bool := s.size != 0 && s.data.toList.all isDig

theorem allDig_no (s : ByteArray) (j : Nat) (h : j < s.size) (hn : isDig (s[j]'h) = false) : allDig s = false := by
  unfold allDig
  rw [Bool.and_eq_false_iff]; right
  rw [List.all_eq_false]
  exact ⟨s[j]'h, by
    obtain ⟨⟨l⟩⟩ := s
    exact List.getElem_mem h, by simp [hn]⟩
theorem allDig_end (s : ByteArray) (h : ∀ j (hj : j < s.size), isDig (s[j]'hj) = true) : allDig s = (s.size != 0) := by
  unfold allDig
  rw [Bool.and_eq_left_iff_imp]
  intro _
  rw [List.all_eq_true]
  intro x hx
  obtain ⟨j, hj, rfl⟩ := List.getElem_of_mem hx
  exact h j (by
    obtain ⟨⟨l⟩⟩ := s
    exact hj)

theorem not_empty_size (s : ByteArray) : (!s.toList.isEmpty) = (s.size != 0) := by
  rw [Lib.toList_data, ← data_length]
  cases s.data.toList <;> simp

set_option maxHeartbeats 1000000 in
theorem all_walk (s : ByteArray) (w : World) :
    Calls Tryd.prog 50 #[.string s] w fun e w' => e = .returned (.bool (allDig s)) ∧ Below w.heap.size w w' := by
  go_enter Tryd.func50, Tryd.ntmps50
  go_wp2
  go_loopw [] (fun wr => ∃ pos : Nat, pos ≤ s.size ∧ wr.heap[w.heap.size]? = some (.stringIter s pos) ∧ Below w.heap.size w wr ∧ Hid (∀ j (hj : j < s.size), j < pos → isDig (s[j]'hj) = true)) (fun wr => s.size - wr.iterPos w.heap.size)
  case atStart =>
    refine ⟨0, by omega, ?_, (Below.refl _ w).alloc (Nat.le_refl _) _, Lib.hid (fun j hj h => absurd h (by omega))⟩
    have := World.iter_heap w s 0
    simpa using this
  case round =>
    obtain ⟨pos, hps, hit, hbw, hall⟩ := hrel
    have hsz : w.heap.size < wr.heap.size := (Array.getElem?_eq_some_iff.1 hit).1
    by_cases hp : pos < s.size
    · obtain ⟨c, hc⟩ : ∃ c : Nat, c = (Utf8.decode s pos).1 := ⟨_, rfl⟩
      obtain ⟨wd, hwd⟩ : ∃ d : Nat, d = (Utf8.decode s pos).2 := ⟨_, rfl⟩
      have hc2 : c ≤ 2147483647 := by rw [hc]; exact decode_le s pos
      have hnx : ∀ ty, (Instr.next (.pointer (some ⟨w.heap.size, 0, none⟩)) true ty).run Tryd.prog wr = .ok (.tuple #[.bool true, .int .i64 pos, .int .i32 c]) (wr.iterAt w.heap.size s (pos + wd)) := fun ty => by
        rw [hc, hwd]; exact Lib.run_next_any_at wr w.heap.size s pos ty hit hp
      have hbw2 := Lib.below_iterAt hbw (k := w.heap.size) (Nat.le_refl _) s (pos + wd)
      have hit2 := Lib.iterAt_heap wr w.heap.size s pos (pos + wd) hit
      by_cases hd : isDig (s[pos]'hp) = true
      · have hlt : (s[pos]'hp).toNat < 128 := by unfold isDig at hd; simp at hd; omega
        have ha := decode_ascii s pos hp hlt
        have hc3 : 48 ≤ c ∧ c ≤ 57 := by rw [hc, ha]; unfold isDig at hd; simpa using hd
        have hw1 : wd = 1 := by rw [hwd, ha]
        subst hw1
        have k1 : decide ((c : Int) < 48) = false := decide_eq_false (by omega)
        have k2 : decide ((57 : Int) < (c : Int)) = false := decide_eq_false (by omega)
        have k3 : decide (c < 48) = false := decide_eq_false (by omega)
        have k4 : decide (57 < c) = false := decide_eq_false (by omega)
        have Hd := Lib.hid hd
        clear hc hwd ha hd hc3 hlt
        go_wp2
        go_roundw
        case rel => exact ⟨pos + 1, by omega, hit2, hbw2, Lib.hid (fun j hj h => by
          by_cases e : j = pos
          · subst e; exact Hd.out
          · exact hall.out j hj (by omega))⟩
        case measure => simp only [World.iterPos, hit2, hit]; omega
      · have hfin : allDig s = false := allDig_no s pos hp (by simpa using hd)
        have hc3 : c < 48 ∨ 57 < c := by
          by_cases hlt : (s[pos]'hp).toNat < 128
          · rw [hc, decode_ascii s pos hp hlt]; unfold isDig at hd; simp at hd; omega
          · have := decode_high s pos hp (by omega); omega
        have Hf := Lib.hid hfin
        clear hc hwd hd hfin
        rcases hc3 with h3 | h3
        · have k1 : decide ((c : Int) < 48) = true := decide_eq_true (by omega)
          have k3 : decide (c < 48) = true := decide_eq_true (by omega)
          clear h3
          go_wp2
          go_ret
          exact ⟨by rw [Hf.out]; rfl, hbw2⟩
        · have k1 : decide ((c : Int) < 48) = false := decide_eq_false (by omega)
          have k3 : decide (c < 48) = false := decide_eq_false (by omega)
          have k2 : decide ((57 : Int) < (c : Int)) = true := decide_eq_true (by omega)
          have k4 : decide (57 < c) = true := decide_eq_true (by omega)
          clear h3
          go_wp2
          go_ret
          exact ⟨by rw [Hf.out]; rfl, hbw2⟩
    · have hnx : ∀ ty, (Instr.next (.pointer (some ⟨w.heap.size, 0, none⟩)) true ty).run Tryd.prog wr = _ := fun ty => Lib.run_next_end_at wr w.heap.size s pos ty hit hp
      have Hf := Lib.hid (allDig_end s (fun j hj => hall.out j hj (by omega)))
      go_wp2
      go_ret
      exact ⟨by rw [Hf.out, ← not_empty_size]; rfl, hbw⟩

/-! ### doubled -/
def dbl : List Nat → List Nat × Nat
  | [] => ([], 0)
  | a :: l => ((2 * a + (dbl l).2) % 10 :: (dbl l).1, (2 * a + (dbl l).2) / 10)
theorem dbl_length : ∀ l, (dbl l).1.length = l.length
  | [] => rfl
  | a :: l => by simp [dbl, dbl_length l]
theorem dbl_carry : ∀ l : List Nat, (∀ d ∈ l, d < 10) → (dbl l).2 ≤ 1
  | [], _ => by simp [dbl]
  | a :: l, h => by
    have h1 := dbl_carry l (fun d hd => h d (List.mem_cons_of_mem _ hd))
    have h2 := h a List.mem_cons_self
    show (2 * a + (dbl l).2) / 10 ≤ 1
    omega
theorem dbl_digits : ∀ l : List Nat, ∀ d ∈ (dbl l).1, d < 10
  | [], d, h => by simp [dbl] at h
  | a :: l, d, h => by
    simp only [dbl, List.mem_cons] at h
    rcases h with rfl | h
    · omega
    · exact dbl_digits l d h
def drounds : Nat → List Nat × Nat → List Nat × Nat
  | 0, p => p
  | k + 1, p => let q := drounds k p; ((dbl q.1).1, 2 * q.2 + (dbl q.1).2)
theorem drounds_length (l : List Nat) (n : Nat) : ∀ k, (drounds k (l, n)).1.length = l.length
  | 0 => rfl
  | k + 1 => by simp [drounds, dbl_length, drounds_length l n k]
theorem drounds_digits (l : List Nat) (n : Nat) (h : ∀ d ∈ l, d < 10) : ∀ k, ∀ d ∈ (drounds k (l, n)).1, d < 10
  | 0 => h
  | k + 1 => dbl_digits _
theorem drounds_bound (l : List Nat) (h : ∀ d ∈ l, d < 10) : ∀ k, (drounds k (l, 0)).2 < 2 ^ k
  | 0 => by simp [drounds]
  | k + 1 => by
    have h1 := drounds_bound l h k
    have h2 := dbl_carry _ (drounds_digits l 0 h k)
    show 2 * (drounds k (l, 0)).2 + (dbl (drounds k (l, 0)).1).2 < 2 ^ (k + 1)
    rw [Nat.pow_succ]; omega
def digs (s : ByteArray) : List Nat := s.data.toList.map fun c => c.toNat - 48
def asc (l : List Nat) : List Value := l.map fun d : Nat => .int .u8 (48 + (d : Int))
/-- The row of digits in the world: behind the bytes zeros; one mark behind the row's end. -/
def RowD (b : Nat) (w0 wr : World) (l : List Nat) : Prop := ∃ C : Array Value, wr.heap[b]? = some (.cells C 5 (C.size, C.size + 1)) ∧ l.length ≤ C.size ∧ C.toList.take l.length = asc l ∧ Below b w0 wr

def dblOut (s : ByteArray) : Int × Int :=
  let p := drounds 17 (digs s, 0)
  ((p.2 / 2 : Nat), if p.2 % 2 = 0 then -1 else if p.1.all (· == 0) then 0 else 1)

theorem asc_length (l : List Nat) : (asc l).length = l.length := by simp [asc]
theorem digs_length (s : ByteArray) : (digs s).length = s.size := by simp [digs, data_length]
theorem digs_small (s : ByteArray) (h : s.data.toList.all isDig = true) : ∀ d ∈ digs s, d < 10 := by
  intro d hd
  simp only [digs, List.mem_map] at hd
  obtain ⟨c, hc, rfl⟩ := hd
  have := List.all_eq_true.1 h c hc
  unfold isDig at this; simp at this; omega

theorem RowD.begin_ (s : ByteArray) (w : World) (h : s.data.toList.all isDig = true) : RowD w.heap.size w (Lib.bytesWorld w 5 s) (digs s) := by
  refine ⟨_, Lib.bytesWorld_at_new w 5 s, ?_, ?_, ?_⟩
  · rw [digs_length]
    have : s.data.size = s.size := rfl
    simp [Lib.bytesCells, this]
  · have e : s.data.size = s.size := rfl
    rw [digs_length]
    simp only [Lib.bytesCells, Array.toList_append, Array.toList_map]
    rw [List.take_append_of_le_length (by simp [e]), List.take_of_length_le (by simp [e])]
    simp only [asc, digs, List.map_map]
    refine List.map_congr_left fun c hc => ?_
    have := List.all_eq_true.1 h c hc
    unfold isDig at this; simp at this
    simp only [Function.comp]
    congr 1
    omega
  · exact ⟨rfl, rfl, rfl, by rw [Lib.bytesWorld_size]; omega, fun i hi => Lib.bytesWorld_at_old w 5 s i hi⟩

theorem RowD.size {b : Nat} {w wr : World} {l : List Nat} (h : RowD b w wr l) : b < wr.heap.size := by
  obtain ⟨C, h1, _⟩ := h
  exact (Array.getElem?_eq_some_iff.1 h1).1
theorem RowD.cell {b : Nat} {w wr : World} {l : List Nat} (h : RowD b w wr l) (k : Nat) (hk : k < l.length) : wr.cell? ⟨b, k, none⟩ = some (.int .u8 (48 + (l[k] : Int))) := by
  obtain ⟨C, h1, h2, h3, _⟩ := h
  have : C.toList[k]? = some (.int .u8 (48 + (l[k] : Int))) := by
    have h4 : (C.toList.take l.length)[k]? = C.toList[k]? := by rw [List.getElem?_take]; simp [hk]
    rw [← h4, h3]
    simp [asc, hk]
  simp only [World.cell?, h1]
  simpa using this
theorem RowD.unfrozen {b : Nat} {w wr : World} {l : List Nat} (h : RowD b w wr l) (k : Nat) (hk : k < l.length) : wr.frozen? ⟨b, k, none⟩ = false := by
  obtain ⟨C, h1, h2, h3, _⟩ := h
  simp [World.frozen?, h1]
  omega
theorem RowD.set {b : Nat} {w wr : World} {l : List Nat} (h : RowD b w wr l) (hb : w.heap.size ≤ b) (k : Nat) (hk : k < l.length) (d : Nat) : RowD b w (wr.setCell ⟨b, k, none⟩ (.int .u8 (48 + (d : Int)))) (l.set k d) := by
  have hsz := h.size
  obtain ⟨C, h1, h2, h3, h4⟩ := h
  refine ⟨C.setIfInBounds k (.int .u8 (48 + (d : Int))), ?_, ?_, ?_, ?_⟩
  · simp [World.setCell, Array.getElem?_modify, h1]
  · simp only [List.length_set, Array.size_setIfInBounds]; exact h2
  · simp only [List.length_set, Array.toList_setIfInBounds, asc, List.map_set]
    rw [List.take_set, h3]
    rfl
  · exact Below.setCell h4 (Nat.le_refl _) _

theorem dbl_step (L : List Nat) (k d c : Nat) (hk : k < L.length) (hd : d = L[k]'hk) (hc : c = (dbl (L.drop (k + 1))).2) :
    dbl (L.drop k) = ((2 * d + c) % 10 :: (dbl (L.drop (k + 1))).1, (2 * d + c) / 10) := by
  subst hd hc
  rw [List.drop_eq_getElem_cons hk]
  rfl
theorem dbl_set (L : List Nat) (k d c : Nat) (hk : k < L.length) (hd : d = L[k]'hk) (hc : c = (dbl (L.drop (k + 1))).2) :
    (L.take (k + 1) ++ (dbl (L.drop (k + 1))).1).set k ((2 * d + c) % 10) = L.take k ++ (dbl (L.drop k)).1 := by
  rw [dbl_step L k d c hk hd hc]
  generalize (dbl (L.drop (k + 1))).1 = T
  rw [List.take_succ_eq_append_getElem hk, List.append_assoc, List.set_append_right _ _ (by rw [List.length_take]; omega)]
  congr 1
  rw [List.length_take, Nat.min_eq_left (by omega), Nat.sub_self]
  rfl

theorem dblOut_eq (s : ByteArray) : dblOut s = ((((drounds 17 (digs s, 0)).2 / 2 : Nat) : Int), if (drounds 17 (digs s, 0)).2 % 2 = 0 then -1 else if (drounds 17 (digs s, 0)).1.all (· == 0) then 0 else 1) := rfl
attribute [irreducible] dblOut
theorem dropWhile_nil_iff (l : List UInt8) (c : UInt8) : l.dropWhile (· == c) = [] ↔ ∀ x ∈ l, x = c := by
  induction l with
  | nil => simp
  | cons a l ih =>
    by_cases h : a = c
    · subst h; simp [ih]
    · simp [h]
theorem trimB_nil_iff (l : List UInt8) (c : UInt8) : Lib.trimB l c = [] ↔ ∀ x ∈ l, x = c := by
  unfold Lib.trimB Lib.trimLeftB Lib.trimRightB
  rw [dropWhile_nil_iff]
  constructor
  · intro h x hx
    by_cases hn : l.reverse.dropWhile (· == c) = []
    · exact (dropWhile_nil_iff _ _).1 hn x (by simpa using hx)
    · exfalso
      have h1 := List.head_dropWhile_not (fun y : UInt8 => y == c) hn
      have h2 := h _ (List.mem_reverse.2 (List.head_mem hn))
      rw [h2] at h1
      simp at h1
  · intro h x hx
    have := (List.dropWhile_sublist (fun y : UInt8 => y == c) (l := l.reverse)).subset (List.mem_reverse.1 hx)
    exact h x (by simpa using this)
theorem zeros_iff (L : List Nat) (h : ∀ d ∈ L, d < 10) : Lib.trimB (strOfNums (L.map fun d : Nat => 48 + (d : Int))).data.toList 48 = [] ↔ L.all (· == 0) = true := by
  rw [trimB_nil_iff, strOfNums_data, List.all_eq_true]
  simp only [List.map_map, List.mem_map, Function.comp]
  constructor
  · intro hh d hd
    have h1 := hh _ ⟨d, hd, rfl⟩
    have h2 := h d hd
    have h3 := congrArg UInt8.toNat h1
    simp at h3
    simp; omega
  · rintro hh x ⟨d, hd, rfl⟩
    have h1 := hh d hd
    simp at h1
    subst h1
    rfl
theorem isEmpty_mk (T : List UInt8) : (ByteArray.mk T.toArray).toList.isEmpty = T.isEmpty := by rw [Lib.toList_data]
theorem RowD.below {b : Nat} {w wr : World} {l : List Nat} (h : RowD b w wr l) : Below b w wr := by
  obtain ⟨_, _, _, _, h⟩ := h
  exact h
theorem trim_below {b : Nat} {w wr w' : World} (h : Below b w wr) (hw : w' = wr ∨ w' = wr.drew) : Below b w w' := by
  rcases hw with rfl | rfl
  · exact h
  · exact below_drew h
theorem and1 (n : Nat) (h : n < 131072) : Go.bits .and .i64 (n : Int) 1 = ((n % 2 : Nat) : Int) := by
  have := bits_mask .i64 62 (by decide) (fun m h0 h1 => by rw [IntKind.wrap_i64]; omega) 1 (by decide) (n : Int) (by omega) (by omega)
  simpa using this

set_option maxHeartbeats 2000000 in
theorem doubled_walk (s : ByteArray) (w : World) (hs : s.size ≤ 100) (hd : s.data.toList.all isDig = true) :
    Calls Tryd.prog 52 #[.string s] w fun e w' => e = .returned (.tuple #[.int .i64 (dblOut s).1, .int .i64 (dblOut s).2]) ∧ Below w.heap.size w w' := by
  have Hb := Lib.hid (RowD.begin_ s w hd)
  have Hd := Lib.hid (digs_small s hd)
  clear hd
  have hcv : ∀ w, (convert 9 54 (.string s)).run Tryd.prog w = _ := fun w => Lib.run_convert_string_bytes w 9 54 5 s Tryd.underlying9 Tryd.underlying54 Tryd.underlying5
  go_enter Tryd.func52, Tryd.ntmps52
  go_wp2
  go_loopw [5, 12] (fun n t wr => ∃ j : Nat, j ≤ 17 ∧ t = .int .i64 j ∧ n = .int .i64 ((drounds j (digs s, 0)).2 : Nat) ∧ Hid (RowD w.heap.size w wr (drounds j (digs s, 0)).1)) (fun _ t _ => 17 - (intOf t).toNat)
  case atStart => exact ⟨0, by omega, rfl, rfl, Hb⟩
  case round =>
    obtain ⟨j, hj, rfl, rfl, HR⟩ := hrel
    have hlen : (drounds j (digs s, 0)).1.length = s.size := by rw [drounds_length, digs_length]
    have hnb : (drounds j (digs s, 0)).2 < 131072 := Nat.lt_of_lt_of_le (drounds_bound _ Hd.out j) (Nat.pow_le_pow_right (by omega) hj)
    have Hdig := Lib.hid (drounds_digits (digs s) 0 Hd.out j)
    obtain ⟨L, hL⟩ : ∃ L, L = (drounds j (digs s, 0)).1 := ⟨_, rfl⟩
    obtain ⟨nn, hnn⟩ : ∃ nn, nn = (drounds j (digs s, 0)).2 := ⟨_, rfl⟩
    rw [← hL] at HR hlen Hdig
    rw [← hnn] at hnb
    rw [show ((drounds j (digs s, 0)).2 : Int) = (nn : Int) from by rw [hnn]]
    have HL := Lib.hid hL
    have HN := Lib.hid hnn
    clear hL hnn
    have Hlen := Lib.hid hlen
    clear hlen
    by_cases hlt : j < 17
    · have hsz := HR.out.size
      go_wp2
      obtain ⟨wo, rfl⟩ : ∃ wo : World, wo = wr := ⟨_, rfl⟩
      go_loopw [6, 7] (fun cv iv wr => ∃ i : Nat, i ≤ s.size ∧ iv = .int .i64 ((i : Int) - 1) ∧ cv = .int .u8 ((dbl (L.drop i)).2 : Nat) ∧ Hid (RowD w.heap.size w wr (L.take i ++ (dbl (L.drop i)).1))) (fun _ iv _ => (intOf iv + 1).toNat)
      case atStart =>
        refine ⟨s.size, Nat.le_refl _, rfl, ?_, Lib.hid ?_⟩
        · rw [List.drop_of_length_le (by rw [Hlen.out]; exact Nat.le_refl _)]; rfl
        · rw [List.drop_of_length_le (by rw [Hlen.out]; exact Nat.le_refl _), List.take_of_length_le (by rw [Hlen.out]; exact Nat.le_refl _)]
          simpa [dbl] using HR.out
      case round =>
        obtain ⟨i, hi, rfl, rfl, HR2⟩ := hrel
        cases i with
        | zero =>
          rw [show (((0 : Nat) : Int) - 1) = (-1 : Int) from rfl]
          have hc1 := dbl_carry (L.drop 0) (fun d hd => Hdig.out d (List.mem_of_mem_drop hd))
          obtain ⟨c, Hc1⟩ : ∃ c, Hid (c = (dbl (L.drop 0)).2) := ⟨_, Lib.hid rfl⟩
          rw [← Hc1.out] at hc1
          rw [← Hc1.out]
          go_wp2
          refine ⟨⟨j + 1, by omega, by go_num, ?_, Lib.hid ?_⟩, by simp [intOf]; omega⟩
          · have e : (drounds (j + 1) (digs s, 0)).2 = 2 * nn + c := by
              rw [HN.out, Hc1.out, List.drop_zero, HL.out]; rfl
            rw [e]; go_num
          · have e : (drounds (j + 1) (digs s, 0)).1 = (dbl L).1 := by rw [HL.out]; rfl
            rw [e]; simpa using HR2.out
        | succ k =>
          rw [show (((k + 1 : Nat) : Int) - 1) = (k : Int) from by omega]
          have hkL : k < L.length := by rw [Hlen.out]; omega
          have hk2 : k < (L.take (k + 1) ++ (dbl (L.drop (k + 1))).1).length := by rw [List.length_append, List.length_take]; omega
          have hcell := HR2.out.cell k hk2
          have hfz := HR2.out.unfrozen k hk2
          have hd10 := Hdig.out (L[k]'hkL) (List.getElem_mem hkL)
          have hc1 := dbl_carry (L.drop (k + 1)) (fun d hd => Hdig.out d (List.mem_of_mem_drop hd))
          have He : Hid ((L.take (k + 1) ++ (dbl (L.drop (k + 1))).1)[k]'hk2 = L[k]'hkL) := Lib.hid (by
            rw [List.getElem_append_left (by rw [List.length_take]; omega), List.getElem_take])
          rw [He.out] at hcell
          obtain ⟨d, Hd1⟩ : ∃ d, Hid (d = L[k]'hkL) := ⟨_, Lib.hid rfl⟩
          obtain ⟨c, Hc1⟩ : ∃ c, Hid (c = (dbl (L.drop (k + 1))).2) := ⟨_, Lib.hid rfl⟩
          rw [← Hd1.out] at hcell hd10
          rw [← Hc1.out] at hc1
          rw [← Hc1.out]
          have hsz2 := HR2.out.size
          have hk1 : k < s.size := by omega
          clear He hk2
          go_wp2
          refine ⟨⟨k, by omega, rfl, ?_, Lib.hid ?_⟩, by simp [intOf]⟩
          · rw [dbl_step L k d c hkL Hd1.out Hc1.out]
            congr 1
            show (2 * (48 + (d : Int) - 48) + (c : Int)) / 10 = (((2 * d + c) / 10 : Nat) : Int)
            omega
          · have h1 := HR2.out.set (Nat.le_refl _) k (by rw [List.length_append, List.length_take]; omega) ((2 * d + c) % 10)
            rw [dbl_set L k d c hkL Hd1.out Hc1.out] at h1
            rw [show (2 * (48 + (d : Int) - 48) + (c : Int)) % 10 = (((2 * d + c) % 10 : Nat) : Int) from by omega]
            exact h1
    · obtain rfl : j = 17 := by omega
      have hb := and1 nn hnb
      rcases Nat.mod_two_eq_zero_or_one nn with h2 | h2
      · rw [h2] at hb
        have H2 := Lib.hid h2
        clear h2
        go_wp2
        go_ret2
        refine ⟨?_, by obtain ⟨_, _, _, _, h⟩ := HR.out; exact h⟩
        have e1 : (dblOut s).1 = (nn : Int) / 2 := by rw [dblOut_eq, ← HN.out]; rfl
        have e2 : (dblOut s).2 = -1 := by rw [dblOut_eq, ← HN.out, if_pos H2.out]
        rw [e1, e2]; rfl
      · rw [h2] at hb
        have H2 := Lib.hid h2
        clear h2
        have hcv2 := run_convert_bytes_arg (P := Tryd.prog) wr 54 5 Tryd.underlying54 Tryd.underlying5 w.heap.size 0 s.size (grownCap w s.size 0 5) (L.map fun d : Nat => 48 + (d : Int)) (by rw [List.length_map, Hlen.out]) (fun i hi => by
          have := HR.out.cell i (by rw [Hlen.out]; exact hi)
          rw [Nat.zero_add, this]
          have h3 : i < L.length := by rw [Hlen.out]; exact hi
          simp [List.getD, h3]) 9 Tryd.underlying9
        have hbel := HR.out.below
        have e1 : (dblOut s).1 = (nn : Int) / 2 := by rw [dblOut_eq, ← HN.out]; rfl
        have e2 : (dblOut s).2 = if L.all (· == 0) then 0 else 1 := by rw [dblOut_eq, ← HN.out, if_neg (by rw [H2.out]; decide), ← HL.out]
        have E1 := Lib.hid e1
        have E2 := Lib.hid e2
        have Hz := Lib.hid (zeros_iff L Hdig.out)
        clear e1 e2
        obtain ⟨T, HT⟩ : ∃ T, Hid (T = ByteArray.mk (Lib.trimB (strOfNums (L.map fun d : Nat => 48 + (d : Int))).data.toList 48).toArray) := ⟨_, Lib.hid rfl⟩
        have hsz3 : (strOfNums (L.map fun d : Nat => 48 + (d : Int))).size ≤ 9223372036854775807 := by rw [strOfNums_size, List.length_map, Hlen.out]; omega
        by_cases hT : L.all (· == 0) = true
        · have hTe : T.toList.isEmpty = true := by rw [HT.out, isEmpty_mk, Hz.out.2 hT]; rfl
          have E3 : Hid ((dblOut s).2 = 0) := Lib.hid (by rw [E2.out, if_pos hT])
          clear hT
          go_wp2_with (go_at_call 78; refine (Tryd.strings_Trim_one _ 48 (by decide) wr hsz3).mono ?_; rintro e w' ⟨rfl, hw⟩; rw [← HT.out]; have Hb2 := Lib.hid (trim_below hbel hw); clear hw hcv hcv2)
          go_ret2
          exact ⟨by rw [E1.out, E3.out]; rfl, Hb2.out⟩
        · have hTe : T.toList.isEmpty = false := by
            rw [HT.out, isEmpty_mk]
            cases hTT : Lib.trimB (strOfNums (L.map fun d : Nat => 48 + (d : Int))).data.toList 48 with
            | nil => exact absurd (Hz.out.1 hTT) hT
            | cons a l => rfl
          have E3 : Hid ((dblOut s).2 = 1) := Lib.hid (by rw [E2.out, if_neg hT])
          clear hT
          go_wp2_with (go_at_call 78; refine (Tryd.strings_Trim_one _ 48 (by decide) wr hsz3).mono ?_; rintro e w' ⟨rfl, hw⟩; rw [← HT.out]; have Hb2 := Lib.hid (trim_below hbel hw); clear hw hcv hcv2)
          go_ret2
          exact ⟨by rw [E1.out, E3.out]; rfl, Hb2.out⟩

end Go.Proofs.YtekifiblehmafaaDoor.X
