/- Part 8 of a proof: what it needs of the program's functions as plain Lean functions, with the proof that the machine's calls come to them, and of plain laws; put together out of smaller texts. No conditions besides those that each statement names. -/
import Derived.BigQuiet
import Derived.Deep.QuietTactic
import Derived.Deep.RegionWith
import Derived.IntWalk
import Derived.Laws.AppendOwn
import Derived.Laws.BitsLemmas
import Derived.Laws.BytesArg
import Derived.Laws.RangeAny
import Derived.Laws.RangeString
import Derived.Lib.ConvBytes
import Derived.Lib.DecodeN
import Derived.Lib.Hide
import Derived.Lib.ItoaMem
import Derived.Lib.OthersKept
import Derived.OwnWalk
import Derived.Test.YtckdgcpomkefpaaGreatDoorPa0
import Derived.Test.YtckdgcpomkefpaaGreatDoorPa7
import Derived.WalkKit
section
set_option linter.unusedVariables false
set_option linter.unusedSimpArgs false
set_option maxRecDepth 100000
namespace Go.Proofs.YtckdgcpomkefpaaGreatDoor.En
open Go
def bs (l : List UInt8) : ByteArray := ⟨l.toArray⟩
theorem bs_size (l : List UInt8) : (bs l).size = l.length := by simp [bs, ByteArray.size]
def asU (l : List Nat) : List UInt8 := l.map fun d => UInt8.ofNat (48 + d)
theorem asU_append (a b : List Nat) : asU (a ++ b) = asU a ++ asU b := by simp [asU]
theorem asU_length (a : List Nat) : (asU a).length = a.length := by simp [asU]
theorem ba_inj {a b : ByteArray} (h : a.data.toList = b.data.toList) : a = b := by
  cases a; cases b; simp only [Array.toList_inj] at h; subst h; rfl
theorem bs_append (a b : List UInt8) : bs a ++ bs b = bs (a ++ b) := ba_inj (by
  show (bs a ++ bs b).data.toList = _
  rw [ByteArray.data_append, Array.toList_append]; rfl)
theorem decDigits_asU (u : Nat) : Lib.decDigits u = asU (natDigits u) := by
  induction u using Nat.strongRecOn with
  | _ u ih =>
    rw [Lib.decDigits]
    by_cases h : u < 10
    · rw [dif_pos h, natDigits_small h]; rfl
    · rw [dif_neg h, natDigits_big h, asU_append, ih (u / 10) (by omega)]; rfl
theorem itS_nat (u : Nat) (h : u ≤ 9223372036854775807) : itS (u : Int) = bs (asU (natDigits u)) := by
  unfold itS
  rw [itoaF_eq (by omega) (by omega), Lib.itoa_nonneg, decDigits_asU]; rfl
theorem itOk_nat {u : Nat} (h : u ≤ 9223372036854775807) : itOk (u : Int) = true := by
  unfold itOk
  rw [decide_eq_true (by omega), decide_eq_true (by omega)]; rfl
theorem glueO_eq {β : Type} {a b : ByteArray} (k : ByteArray → Option β) (h : a.size + b.size ≤ 4611686018427387904) : glueO a b k = k (a ++ b) := by
  unfold glueO
  rw [decide_eq_true h]; rfl
theorem glue_bs {β : Type} {a b : List UInt8} (k : ByteArray → Option β) (h : a.length + b.length ≤ 1000000) : glueO (bs a) (bs b) k = k (bs (a ++ b)) := by
  rw [glueO_eq _ (by rw [bs_size, bs_size]; omega), bs_append]
theorem sh16_nat (u : Nat) : sh16 (u : Int) = ((u / 65536 : Nat) : Int) := by
  unfold sh16
  rw [show (2 : Int) ^ (min (16 : Int).toNat IntKind.i64.bits) = 65536 from rfl, Int.fdiv_eq_ediv_of_nonneg _ (by omega)]
  omega
theorem an16_nat (u : Nat) (h : u < 4611686018427387904) : an16 (u : Int) = ((u % 65536 : Nat) : Int) := by
  unfold an16
  have e : (BitVec.ofInt IntKind.i64.bits (u : Int) &&& BitVec.ofInt IntKind.i64.bits 65535).toNat = u % 65536 := by
    rw [BitVec.toNat_and, BitVec.toNat_ofInt, BitVec.toNat_ofInt]
    have e1 : ((u : Int) % ((2 ^ IntKind.i64.bits : Nat) : Int)).toNat = u := by
      show ((u : Int) % 18446744073709551616).toNat = u
      omega
    have e2 : ((65535 : Int) % ((2 ^ IntKind.i64.bits : Nat) : Int)).toNat = 2 ^ 16 - 1 := rfl
    rw [e1, e2, Nat.and_two_pow_sub_one_eq_mod]
  rw [e]
  exact IntWalk.i64_in _ (by omega)
def textBody (u : Nat) : List UInt8 := asU (natDigits (u / 65536)) ++ if u % 65536 = 0 then [] else 46 :: asU (fracD 16 (u % 65536))
def fixT (x : Int) : ByteArray := bs ((if x < 0 then [45] else []) ++ textBody x.natAbs)
theorem trimRight_asU (l : List Nat) (h : ∀ d ∈ l, d < 10) : Lib.trimRightB (asU l) 48 = asU (trimZ l) := by
  unfold Lib.trimRightB trimZ asU
  rw [← List.map_reverse]
  have h' : ∀ d ∈ l.reverse, d < 10 := fun d hd => h d (List.mem_reverse.1 hd)
  generalize l.reverse = m at h' ⊢
  rw [List.map_reverse]
  congr 1
  induction m with
  | nil => rfl
  | cons a m ih =>
    have ha := h' a List.mem_cons_self
    simp only [List.map_cons, List.dropWhile_cons]
    have e : (UInt8.ofNat (48 + a) == 48) = (a == 0) := by
      rw [Bool.eq_iff_iff, beq_iff_eq, beq_iff_eq]
      constructor
      · intro h1
        have := congrArg UInt8.toNat h1
        simp at this; omega
      · rintro rfl; rfl
    rw [e]
    split
    · exact ih (fun d hd => h' d (List.mem_cons_of_mem _ hd))
    · rfl
theorem repeat_asU (n : Nat) : Lib.repeatL [48] n = asU (List.replicate n 0) := by
  induction n with
  | zero => rfl
  | succ n ih => rw [Lib.repeatL, ih]; rfl
theorem padded (r : Nat) (hr : r < 65536) : List.replicate (16 - (natDigits (r * 152587890625)).length) 0 ++ natDigits (r * 152587890625) = full 16 r := by
  have hl : (natDigits (r * 152587890625)).length ≤ 16 := natDigits_length 15 _ (by omega)
  apply val_inj
  · rw [List.length_append, List.length_replicate, full_length]; omega
  · intro d hd
    rcases List.mem_append.1 hd with h | h
    · rw [List.eq_of_mem_replicate h]; omega
    · exact natDigits_digits _ d h
  · exact full_digits 16 r hr
  · rw [val_replicate, val_natDigits, (rem16 r hr).2]
theorem part_len (r : Nat) (hr : r < 65536) : (natDigits (r * 152587890625)).length ≤ 16 := natDigits_length 15 _ (by omega)
theorem cut0_eq (l : List UInt8) : cut0 (bs l) = bs (Lib.trimRightB l 48) := rfl
theorem zeros_eq (n : Nat) : zeros (n : Int) = bs (asU (List.replicate n 0)) := by
  unfold zeros
  rw [Int.toNat_natCast, repeat_asU]; rfl
theorem repOk_nat {n : Nat} (h : n ≤ 16) : repOk (n : Int) = true := by
  unfold repOk
  rw [decide_eq_true (by omega), decide_eq_true (by omega), Nat.ble_eq_true_of_le (by rw [Int.toNat_natCast]; omega)]; rfl
theorem dgK_run (u : Nat) (hu : u ≤ 1099511627776) (p : List UInt8) (hp : p.length ≤ 1) : dgK (bs p) (u : Int) = dR (bs (p ++ textBody u)) true := by
  have hl1 : (natDigits (u / 65536)).length ≤ 8 := natDigits_length 7 _ (by omega)
  unfold dgK
  rw [sh16_nat, itOk_nat (by omega), cond_true, itS_nat _ (by omega), glue_bs _ (by rw [asU_length]; omega), an16_nat u (by omega)]
  by_cases h0 : u % 65536 = 0
  · rw [h0]
    unfold textBody
    rw [if_pos h0, List.append_nil]; rfl
  · have hr : u % 65536 < 65536 := Nat.mod_lt _ (by omega)
    rw [show (((u % 65536 : Nat) : Int) != 0) = true by rw [bne_iff_ne]; omega, cond_true]
    unfold textBody
    rw [if_neg h0]
    generalize u % 65536 = r at hr ⊢
    have hpad := padded r hr
    have hl := part_len r hr
    have hl0 := natDigits_pos (r * 152587890625)
    rw [W_in (n := (r : Int) * 152587890625) (by omega), show (r : Int) * 152587890625 = ((r * 152587890625 : Nat) : Int) by omega, itOk_nat (by omega), cond_true, itS_nat _ (by omega)]
    generalize natDigits (r * 152587890625) = D at hpad hl hl0 ⊢
    generalize natDigits (u / 65536) = V at hl1 ⊢
    have hl3 := fracD_length 16 r
    have e5 : cut0 (bs (asU (full 16 r))) = bs (asU (fracD 16 r)) := by
      rw [cut0_eq, trimRight_asU _ (full_digits 16 _ hr), trimZ_full 16 _ hr (rem16 _ hr).1]
    have hfl := full_length 16 r
    generalize full 16 r = F at hpad e5 hfl
    generalize fracD 16 r = G at e5 hl3 ⊢
    rw [bs_size, asU_length, W_in (n := (16 : Int) - (D.length : Int)) (by omega), show (16 : Int) - (D.length : Int) = ((16 - D.length : Nat) : Int) by omega, repOk_nat (by omega), cond_true, zeros_eq,
      glue_bs _ (by rw [asU_length, asU_length, List.length_replicate]; omega), ← asU_append, hpad, bs_size, asU_length, hfl, e5, show Nat.ble 16 9223372036854775807 = true from rfl, cond_true]
    rw [show (⟨#[46]⟩ : ByteArray) = bs [46] from rfl, glue_bs _ (by rw [asU_length, List.length_singleton]; omega), glue_bs _ (by simp only [List.length_append, asU_length, List.length_cons, List.length_nil]; omega), List.append_assoc]
    rfl
theorem inB_of {x : Int} (h : inB x = true) : -1099511627776 ≤ x ∧ x ≤ 1099511627776 := by
  unfold inB at h
  rw [Bool.and_eq_true, decide_eq_true_eq, decide_eq_true_eq] at h
  exact h
def fixE : List AV → Bx → Option (Bool × Out)
  | [.v (.int .i64 x)], [none] => some (inB x, .ret (.tup [S (fixT x), B true]) [none])
  | _, _ => none
theorem dg_sound {ext : CallF} (hext : SoundCall PR ext) : SoundCall PR (addF 68 fixE ext) := by
  refine sound_both (sound_add (takes := TK) hmixP (in_sound (itoa_sound (rep_sound (trim_sound sound_none)))) _ (fn := (PR.funcs[68]?).getD default) (by kernel_rfl) (by kernel_rfl) fixE fun xs bs out h => ?_) hext
  unfold fixE at h
  split at h
  · rename_i x
    injection h with h
    injection h with h1 h2
    subst h2
    refine ⟨0, (dg_0 _ _ _).trans ?_⟩
    obtain ⟨b1, b2⟩ := inB_of h1
    rw [h1, Bool.not_true, cond_false]
    unfold fixT
    by_cases h3 : x < 0
    · rw [decide_eq_true h3, cond_true, if_pos h3, W_in (n := 0 - x) (by omega), show 0 - x = (x.natAbs : Int) by omega]
      exact dgK_run x.natAbs (by omega) [45] (by simp)
    · rw [decide_eq_false h3, cond_false, if_neg h3]
      have := dgK_run x.natAbs (by omega) [] (by simp)
      rw [show (x.natAbs : Int) = x by omega] at this
      exact this
  · cases h
theorem decF_nat : ∀ (k u : Nat), u < 10 ^ k → u < 1000000000000000000 → 0 < k → decF k (u : Int) = bs (asU (natDigits u))
  | 0, u, h, _, h0 => by omega
  | k + 1, u, h, hu, _ => by
    unfold decF
    by_cases h1 : u < 10
    · rw [decide_eq_true (show (u : Int) < 10 by omega), cond_true, natDigits_small h1, W_in (n := 48 + (u : Int)) (by omega)]
      have : IntKind.u8.wrap (48 + (u : Int)) = ((48 + u : Nat) : Int) := by
        rw [IntKind.wrap_u8]; omega
      rw [this]; rfl
    · have e1 : (u : Int).tdiv 10 = ((u / 10 : Nat) : Int) := by rw [Int.tdiv_eq_ediv_of_nonneg (by omega)]; omega
      have e2 : (u : Int).tmod 10 = ((u % 10 : Nat) : Int) := by rw [Int.tmod_eq_emod_of_nonneg (by omega)]; omega
      have : IntKind.u8.wrap (48 + ((u % 10 : Nat) : Int)) = ((48 + u % 10 : Nat) : Int) := by
        rw [IntKind.wrap_u8]; omega
      have hk : 0 < k := by
        cases k with
        | zero => omega
        | succ k => omega
      rw [decide_eq_false (show ¬ (u : Int) < 10 by omega), cond_false, natDigits_big h1, e1, e2, W_in (n := ((u / 10 : Nat) : Int)) (by omega), W_in (n := 48 + ((u % 10 : Nat) : Int)) (by omega), this, decF_nat k (u / 10) (by rw [Nat.pow_succ] at h; omega) (by omega) hk, asU_append, ← bs_append]
      rfl
theorem decOk_of {k : Nat} {n : Int} (h : decOk k n = true) : 0 < k ∧ k ≤ 18 ∧ ∃ u : Nat, n = (u : Int) ∧ u < 10 ^ k ∧ u < 1000000000000000000 := by
  unfold decOk at h
  rw [Bool.and_eq_true, Bool.and_eq_true, Bool.and_eq_true, decide_eq_true_eq, decide_eq_true_eq] at h
  obtain ⟨h1, h2, h3, h4⟩ := h
  have h1 := Nat.le_of_ble_eq_true h1
  have h2 := Nat.le_of_ble_eq_true h2
  obtain ⟨u, rfl⟩ := Int.eq_ofNat_of_zero_le h3
  have h4 : u < 10 ^ k := by exact_mod_cast h4
  have h5 : (10 : Nat) ^ k ≤ 10 ^ 18 := Nat.pow_le_pow_right (by omega) h2
  exact ⟨h1, h2, u, rfl, h4, by omega⟩
theorem decOk_nat {k u : Nat} (h0 : 0 < k) (hk : k ≤ 18) (h : u < 10 ^ k) : decOk k (u : Int) = true := by
  unfold decOk
  rw [Nat.ble_eq_true_of_le (show 1 ≤ k from h0), Nat.ble_eq_true_of_le hk, decide_eq_true (show (0 : Int) ≤ (u : Int) by omega), decide_eq_true (show (u : Int) < 10 ^ k by exact_mod_cast h)]; rfl
theorem dec_sound {ext : CallF} (hext : SoundCall PR ext) : ∀ k, SoundCall PR (addF 59 (decE k) ext) := by
  refine sound_rec (takes := TK) hmixP hext _ (fn := (PR.funcs[59]?).getD default) (by kernel_rfl) (by kernel_rfl) decE (fun xs bs out h => ?_) (fun k xs bs out h => ?_)
  · unfold decE at h
    split at h
    · injection h with h
      injection h with h _
      have := (decOk_of h).1
      omega
    · cases h
  · unfold decE at h
    split at h
    · rename_i n
      injection h with h
      injection h with h1 h2
      subst h2
      obtain ⟨g1, g2, u, rfl, g3, g4⟩ := decOk_of h1
      refine ⟨0, (dec_0 _ _ _ _).trans ?_⟩
      rw [show decF (k + 1) (u : Int) = bif decide ((u : Int) < 10) then bytesOf [.int (IntKind.u8.wrap (W (48 + (u : Int))))] else decF k (W ((u : Int).tdiv 10)) ++ bytesOf [.int (IntKind.u8.wrap (W (48 + (u : Int).tmod 10)))] from rfl]
      by_cases h1 : u < 10
      · rw [decide_eq_true (show (u : Int) < 10 by omega)]; rfl
      · have e1 : (u : Int).tdiv 10 = ((u / 10 : Nat) : Int) := by rw [Int.tdiv_eq_ediv_of_nonneg (by omega)]; omega
        have hk : 0 < k := by
          cases k with
          | zero => omega
          | succ k => omega
        have hlt : u / 10 < 10 ^ k := by rw [Nat.pow_succ] at g3; omega
        have hs := decF_nat k (u / 10) hlt (by omega) hk
        have hl : (natDigits (u / 10)).length ≤ k := by
          obtain ⟨j, rfl⟩ : ∃ j, k = j + 1 := ⟨k - 1, by omega⟩
          exact natDigits_length j _ hlt
        rw [decide_eq_false (show ¬ (u : Int) < 10 by omega), cond_false, cond_false, e1, W_in (n := ((u / 10 : Nat) : Int)) (by omega), decOk_nat hk (by omega) hlt, cond_true, glueO_eq]
        rw [hs, bs_size, asU_length]
        show _ + 1 ≤ _
        omega
    · cases h
noncomputable def decC : CallF := addF 59 (decE 18) fun _ _ _ => none
theorem decC_sound : SoundCall PR decC := dec_sound sound_none 18
theorem dec18 {u : Nat} (h : u ≤ 10000000000000000) : decOk 18 (u : Int) = true ∧ decF 18 (u : Int) = bs (asU (natDigits u)) ∧ (natDigits u).length ≤ 17 := by
  have h1 : u < 10 ^ 18 := by omega
  exact ⟨decOk_nat (by omega) (by omega) h1, decF_nat 18 u h1 (by omega) (by omega), natDigits_length 16 u (by omega)⟩
noncomputable def rdC : CallF := addF 101 inE decC
noncomputable def rdL (call : CallF) (m r : Nat) (s : ByteArray) (p : Int) := loopF PR TK call m 73 [none] [true, true, true, true, true, true, true, false] r (sp 39 [(4, S s), (5, I p)] [])
noncomputable def rdK (m : Nat) (sg : ByteArray) (x : Int) : Option Out :=
  bif decOk 18 (W (x.tdiv 65536)) then glueO sg (decF 18 (W (x.tdiv 65536))) fun s => bif (x.tmod 65536) != 0 then glueO s ⟨#[46]⟩ fun s => rdL rdC m m s (x.tmod 65536) else rdL rdC m m s (x.tmod 65536) else none
theorem rdg_0 (m : Nat) (x : Int) : evFn PR TK rdC m 73 [I x] [none] =
  bif !inB x then dR ⟨#[]⟩ false else bif decide (x < 0) then rdK m ⟨#[45]⟩ (W (0 - x)) else rdK m ⟨#[]⟩ x := by kernel_rfl
theorem rdg_1 (m r : Nat) (s : ByteArray) (p : Int) : rdL rdC m (r + 1) s p = bif p != 0 then glueO s (bytesOf [.int (IntKind.u8.wrap (W (48 + W ((W (p * 10)).tdiv 65536))))]) fun s => rdL rdC m r s ((W (p * 10)).tmod 65536) else dR s true := by kernel_rfl
theorem rd_loop {m : Nat} : ∀ (k p r : Nat) (s : List UInt8), p < 65536 → remk k p = 0 → k < r → s.length + k ≤ 1000 → rdL rdC m r (bs s) (p : Int) = dR (bs (s ++ asU (fracD k p))) true := by
  intro k
  induction k with
  | zero =>
    intro p r s hp h hr hs
    rw [remk_zero] at h
    subst h
    cases r with
    | zero => omega
    | succ r => rw [rdg_1, fracD_zero]; simp [asU]
  | succ k ih =>
    intro p r s hp h hr hs
    cases r with
    | zero => omega
    | succ r =>
      by_cases h0 : p = 0
      · subst h0
        rw [rdg_1, fracD_zero]; simp [asU]
      · rw [remk_succ] at h
        have hd : p * 10 / 65536 < 10 := by omega
        have e1 : (((p * 10 : Nat) : Int)).tdiv 65536 = ((p * 10 / 65536 : Nat) : Int) := by rw [Int.tdiv_eq_ediv_of_nonneg (by omega)]; omega
        have e2 : (((p * 10 : Nat) : Int)).tmod 65536 = ((p * 10 % 65536 : Nat) : Int) := by rw [Int.tmod_eq_emod_of_nonneg (by omega)]; omega
        have e3 : IntKind.u8.wrap (48 + ((p * 10 / 65536 : Nat) : Int)) = ((48 + p * 10 / 65536 : Nat) : Int) := by rw [IntKind.wrap_u8]; omega
        have e4 : bytesOf [.int ((48 + p * 10 / 65536 : Nat) : Int)] = bs (asU [p * 10 / 65536]) := rfl
        rw [rdg_1, show ((p : Int) != 0) = true by rw [bne_iff_ne]; omega, cond_true, W_in (n := (p : Int) * 10) (by omega), show (p : Int) * 10 = ((p * 10 : Nat) : Int) by omega, e1, e2, W_in (n := ((p * 10 / 65536 : Nat) : Int)) (by omega), W_in (n := 48 + ((p * 10 / 65536 : Nat) : Int)) (by omega), e3, e4,
          glue_bs _ (by rw [asU_length, List.length_singleton]; omega), ih (p * 10 % 65536) r _ (Nat.mod_lt _ (by omega)) h (by omega) (by rw [List.length_append, asU_length, List.length_singleton]; omega), fracD_succ, if_neg h0, List.append_assoc, ← asU_append]
        rfl
theorem rdK_run {m : Nat} (hm : 100 ≤ m) (u : Nat) (hu : u ≤ 1099511627776) (p : List UInt8) (hp : p.length ≤ 1) : rdK m (bs p) (u : Int) = dR (bs (p ++ textBody u)) true := by
  have e1 : (u : Int).tdiv 65536 = ((u / 65536 : Nat) : Int) := by rw [Int.tdiv_eq_ediv_of_nonneg (by omega)]; omega
  have e2 : (u : Int).tmod 65536 = ((u % 65536 : Nat) : Int) := by rw [Int.tmod_eq_emod_of_nonneg (by omega)]; omega
  obtain ⟨d1, d2, d3⟩ := dec18 (u := u / 65536) (by omega)
  have hr : u % 65536 < 65536 := Nat.mod_lt _ (by omega)
  unfold rdK
  rw [e1, e2, W_in (n := ((u / 65536 : Nat) : Int)) (by omega), d1, cond_true, d2, glue_bs _ (by rw [asU_length]; omega)]
  unfold textBody
  by_cases h0 : u % 65536 = 0
  · rw [h0, if_pos rfl, rd_loop 0 0 m _ (by omega) (by rw [remk_zero]) (by omega) (by rw [List.length_append, asU_length]; omega), fracD_zero]
    simp [asU]
  · rw [if_neg h0, show (((u % 65536 : Nat) : Int) != 0) = true by rw [bne_iff_ne]; omega, cond_true, show (⟨#[46]⟩ : ByteArray) = bs [46] from rfl, glue_bs _ (by rw [List.length_append, asU_length, List.length_singleton]; omega),
      rd_loop 16 (u % 65536) m _ hr (rem16 _ hr).1 (by omega) (by simp only [List.length_append, asU_length, List.length_singleton]; omega)]
    simp
theorem rdC_sound : SoundCall PR rdC := by
  refine sound_both (rin_sound sound_none) decC_sound
theorem rdg_sound {ext : CallF} (hext : SoundCall PR ext) : SoundCall PR (addF 73 fixE ext) := by
  refine sound_both (sound_add (takes := TK) hmixP rdC_sound _ (fn := (PR.funcs[73]?).getD default) (by kernel_rfl) (by kernel_rfl) fixE fun xs bs out h => ?_) hext
  unfold fixE at h
  split at h
  · rename_i x
    injection h with h
    injection h with h1 h2
    subst h2
    refine ⟨100, (rdg_0 _ _).trans ?_⟩
    obtain ⟨b1, b2⟩ := inB_of h1
    rw [h1, Bool.not_true, cond_false]
    unfold fixT
    by_cases h3 : x < 0
    · rw [decide_eq_true h3, cond_true, if_pos h3, W_in (n := 0 - x) (by omega), show 0 - x = (x.natAbs : Int) by omega]
      exact rdK_run (by omega) x.natAbs (by omega) [45] (by simp)
    · rw [decide_eq_false h3, cond_false, if_neg h3]
      have := rdK_run (m := 100) (by omega) x.natAbs (by omega) [] (by simp)
      rw [show (x.natAbs : Int) = x by omega] at this
      exact this
  · cases h
end Go.Proofs.YtckdgcpomkefpaaGreatDoor.En
end
section
namespace Go.Proofs.YtckdgcpomkefpaaGreatDoor.Dg
open Go.RowKit
set_option linter.unusedVariables false
set_option linter.unusedSimpArgs false
structure Aside0 (p : Prop) : Prop where mk :: (out : p)
theorem data_length (s : ByteArray) : s.data.toList.length = s.size := by rw [Array.length_toList]; rfl
theorem below_alloc {w W : World} (h : Below w.heap.size w W) (o : Obj) : Below w.heap.size w (W.alloc o) := h.alloc h.size o
theorem below_drew {B : Nat} {w W : World} (h : Below B w W) : Below B w W.drew := ⟨h.os, h.tape, h.output, h.size, h.block⟩
theorem below_drew1 {B : Nat} {w W : World} (h : Below B w W) : Below B w W.drew := below_drew h
theorem pw_below_drewN {B : Nat} {w W : World} (h : Below B w W) (n : Nat) : Below B w (W.drewN n) := ⟨h.os, h.tape, h.output, h.size, h.block⟩
theorem below_step {w W w2 : World} (h : Below w.heap.size w W) (k : Below W.heap.size W w2) : Below w.heap.size w w2 :=
  h.trans ⟨k.os, k.tape, k.output, k.size, fun i hi => k.block i (Nat.lt_of_lt_of_le hi h.size)⟩
theorem decode_high (s : ByteArray) (pos : Nat) (h : pos < s.size) (ha : 128 ≤ (s[pos]'h).toNat) : 128 ≤ (Utf8.decode s pos).1 := by
  rw [Lib.decode_at]
  have e : s.get! pos = s[pos]'h := by
    obtain ⟨⟨l⟩⟩ := s
    exact getElem!_pos (c := (⟨l⟩ : Array UInt8)) pos h
  rw [e]
  generalize (s[pos]'h).toNat = b0 at *
  generalize (s.get! (pos + 1)).toNat = b1
  generalize (s.get! (pos + 2)).toNat = b2
  generalize (s.get! (pos + 3)).toNat = b3
  unfold Lib.decodeN
  repeat' split
  all_goals first | omega | (simp; omega)
def isDig (c : UInt8) : Bool := 48 ≤ c.toNat && c.toNat ≤ 57
def allDig (s : ByteArray) : Bool := s.size != 0 && s.data.toList.all isDig
theorem allDig_no (s : ByteArray) (j : Nat) (h : j < s.size) (hn : isDig (s[j]'h) = false) : allDig s = false := by
  unfold allDig
  rw [Bool.and_eq_false_iff]; right
  rw [List.all_eq_false]
  exact ⟨s[j]'h, by
    obtain ⟨⟨l⟩⟩ := s
    exact List.getElem_mem h, by simp [hn]⟩
theorem allDig_end (s : ByteArray) (h : ∀ j (hj : j < s.size), isDig (s[j]'hj) = true) : allDig s = (s.size != 0) := by
  unfold allDig
  rw [Bool.and_eq_left_iff_imp]
  intro _
  rw [List.all_eq_true]
  intro x hx
  obtain ⟨j, hj, rfl⟩ := List.getElem_of_mem hx
  exact h j (by
    obtain ⟨⟨l⟩⟩ := s
    exact hj)
theorem not_empty_size (s : ByteArray) : (!s.toList.isEmpty) = (s.size != 0) := by
  rw [Lib.toList_data, ← data_length]
  cases s.data.toList <;> simp
set_option maxHeartbeats 1000000 in
theorem all_walk (s : ByteArray) (w : World) :
    Calls Tryz.prog 150 #[.string s] w fun e w' => e = .returned (.bool (allDig s)) ∧ Below w.heap.size w w' := by
  go_enter Tryz.func150, Tryz.ntmps150
  go_wp2
  go_loopw [] (fun wr => ∃ pos : Nat, pos ≤ s.size ∧ wr.heap[w.heap.size]? = some (.stringIter s pos) ∧ Below w.heap.size w wr ∧ Hid (∀ j (hj : j < s.size), j < pos → isDig (s[j]'hj) = true)) (fun wr => s.size - wr.iterPos w.heap.size)
  case atStart =>
    refine ⟨0, by omega, ?_, (Below.refl _ w).alloc (Nat.le_refl _) _, Lib.hid (fun j hj h => absurd h (by omega))⟩
    have := World.iter_heap w s 0
    simpa using this
  case round =>
    obtain ⟨pos, hps, hit, hbw, hall⟩ := hrel
    have hsz : w.heap.size < wr.heap.size := (Array.getElem?_eq_some_iff.1 hit).1
    by_cases hp : pos < s.size
    · obtain ⟨c, hc⟩ : ∃ c : Nat, c = (Utf8.decode s pos).1 := ⟨_, rfl⟩
      obtain ⟨wd, hwd⟩ : ∃ d : Nat, d = (Utf8.decode s pos).2 := ⟨_, rfl⟩
      have hc2 : c ≤ 2147483647 := by rw [hc]; exact decode_le s pos
      have hnx : ∀ ty, (Instr.next (.pointer (some ⟨w.heap.size, 0, none⟩)) true ty).run Tryz.prog wr = .ok (.tuple #[.bool true, .int .i64 pos, .int .i32 c]) (wr.iterAt w.heap.size s (pos + wd)) := fun ty => by
        rw [hc, hwd]; exact Lib.run_next_any_at wr w.heap.size s pos ty hit hp
      have hbw2 := Lib.below_iterAt hbw (k := w.heap.size) (Nat.le_refl _) s (pos + wd)
      have hit2 := Lib.iterAt_heap wr w.heap.size s pos (pos + wd) hit
      by_cases hd : isDig (s[pos]'hp) = true
      · have hlt : (s[pos]'hp).toNat < 128 := by unfold isDig at hd; simp at hd; omega
        have ha := decode_ascii s pos hp hlt
        have hc3 : 48 ≤ c ∧ c ≤ 57 := by rw [hc, ha]; unfold isDig at hd; simpa using hd
        have hw1 : wd = 1 := by rw [hwd, ha]
        subst hw1
        have k1 : decide ((c : Int) < 48) = false := decide_eq_false (by omega)
        have k2 : decide ((57 : Int) < (c : Int)) = false := decide_eq_false (by omega)
        have k3 : decide (c < 48) = false := decide_eq_false (by omega)
        have k4 : decide (57 < c) = false := decide_eq_false (by omega)
        have Hd := Lib.hid hd
        clear hc hwd ha hd hc3 hlt
        go_wp2
        go_roundw
        case rel => exact ⟨pos + 1, by omega, hit2, hbw2, Lib.hid (fun j hj h => by
          by_cases e : j = pos
          · subst e; exact Hd.out
          · exact hall.out j hj (by omega))⟩
        case measure => simp only [World.iterPos, hit2, hit]; omega
      · have hfin : allDig s = false := allDig_no s pos hp (by simpa using hd)
        have hc3 : c < 48 ∨ 57 < c := by
          by_cases hlt : (s[pos]'hp).toNat < 128
          · rw [hc, decode_ascii s pos hp hlt]; unfold isDig at hd; simp at hd; omega
          · have := decode_high s pos hp (by omega); omega
        have Hf := Lib.hid hfin
        clear hc hwd hd hfin
        rcases hc3 with h3 | h3
        · have k1 : decide ((c : Int) < 48) = true := decide_eq_true (by omega)
          have k3 : decide (c < 48) = true := decide_eq_true (by omega)
          clear h3
          go_wp2
          go_ret
          exact ⟨by rw [Hf.out]; rfl, hbw2⟩
        · have k1 : decide ((c : Int) < 48) = false := decide_eq_false (by omega)
          have k3 : decide (c < 48) = false := decide_eq_false (by omega)
          have k2 : decide ((57 : Int) < (c : Int)) = true := decide_eq_true (by omega)
          have k4 : decide (57 < c) = true := decide_eq_true (by omega)
          clear h3
          go_wp2
          go_ret
          exact ⟨by rw [Hf.out]; rfl, hbw2⟩
    · have hnx : ∀ ty, (Instr.next (.pointer (some ⟨w.heap.size, 0, none⟩)) true ty).run Tryz.prog wr = _ := fun ty => Lib.run_next_end_at wr w.heap.size s pos ty hit hp
      have Hf := Lib.hid (allDig_end s (fun j hj => hall.out j hj (by omega)))
      go_wp2
      go_ret
      exact ⟨by rw [Hf.out, ← not_empty_size]; rfl, hbw⟩
def dbl : List Nat → List Nat × Nat
  | [] => ([], 0)
  | a :: l => ((2 * a + (dbl l).2) % 10 :: (dbl l).1, (2 * a + (dbl l).2) / 10)
theorem dbl_length : ∀ l, (dbl l).1.length = l.length
  | [] => rfl
  | a :: l => by simp [dbl, dbl_length l]
theorem dbl_carry : ∀ l : List Nat, (∀ d ∈ l, d < 10) → (dbl l).2 ≤ 1
  | [], _ => by simp [dbl]
  | a :: l, h => by
    have h1 := dbl_carry l (fun d hd => h d (List.mem_cons_of_mem _ hd))
    have h2 := h a List.mem_cons_self
    show (2 * a + (dbl l).2) / 10 ≤ 1
    omega
theorem dbl_digits : ∀ l : List Nat, ∀ d ∈ (dbl l).1, d < 10
  | [], d, h => by simp [dbl] at h
  | a :: l, d, h => by
    simp only [dbl, List.mem_cons] at h
    rcases h with rfl | h
    · omega
    · exact dbl_digits l d h
def drounds : Nat → List Nat × Nat → List Nat × Nat
  | 0, p => p
  | k + 1, p => let q := drounds k p; ((dbl q.1).1, 2 * q.2 + (dbl q.1).2)
theorem drounds_length (l : List Nat) (n : Nat) : ∀ k, (drounds k (l, n)).1.length = l.length
  | 0 => rfl
  | k + 1 => by simp [drounds, dbl_length, drounds_length l n k]
theorem drounds_digits (l : List Nat) (n : Nat) (h : ∀ d ∈ l, d < 10) : ∀ k, ∀ d ∈ (drounds k (l, n)).1, d < 10
  | 0 => h
  | k + 1 => dbl_digits _
theorem drounds_bound (l : List Nat) (h : ∀ d ∈ l, d < 10) : ∀ k, (drounds k (l, 0)).2 < 2 ^ k
  | 0 => by simp [drounds]
  | k + 1 => by
    have h1 := drounds_bound l h k
    have h2 := dbl_carry _ (drounds_digits l 0 h k)
    show 2 * (drounds k (l, 0)).2 + (dbl (drounds k (l, 0)).1).2 < 2 ^ (k + 1)
    rw [Nat.pow_succ]; omega
def digs (s : ByteArray) : List Nat := s.data.toList.map fun c => c.toNat - 48
def asc (l : List Nat) : List Value := l.map fun d : Nat => .int .u8 (48 + (d : Int))
def RowD (b : Nat) (w0 wr : World) (l : List Nat) : Prop := ∃ C : Array Value, wr.heap[b]? = some (.cells C 5 (C.size, C.size + 1)) ∧ l.length ≤ C.size ∧ C.toList.take l.length = asc l ∧ Below b w0 wr
def dblOut (s : ByteArray) : Int × Int :=
  let p := drounds 17 (digs s, 0)
  ((p.2 / 2 : Nat), if p.2 % 2 = 0 then -1 else if p.1.all (· == 0) then 0 else 1)
theorem digs_length (s : ByteArray) : (digs s).length = s.size := by simp [digs, data_length]
theorem digs_small (s : ByteArray) (h : s.data.toList.all isDig = true) : ∀ d ∈ digs s, d < 10 := by
  intro d hd
  simp only [digs, List.mem_map] at hd
  obtain ⟨c, hc, rfl⟩ := hd
  have := List.all_eq_true.1 h c hc
  unfold isDig at this; simp at this; omega
theorem RowD.begin_ (s : ByteArray) (w : World) (h : s.data.toList.all isDig = true) : RowD w.heap.size w (Lib.bytesWorld w 5 s) (digs s) := by
  refine ⟨_, Lib.bytesWorld_at_new w 5 s, ?_, ?_, ?_⟩
  · rw [digs_length]
    have : s.data.size = s.size := rfl
    simp [Lib.bytesCells, this]
  · have e : s.data.size = s.size := rfl
    rw [digs_length]
    simp only [Lib.bytesCells, Array.toList_append, Array.toList_map]
    rw [List.take_append_of_le_length (by simp [e]), List.take_of_length_le (by simp [e])]
    simp only [asc, digs, List.map_map]
    refine List.map_congr_left fun c hc => ?_
    have := List.all_eq_true.1 h c hc
    unfold isDig at this; simp at this
    simp only [Function.comp]
    congr 1
    omega
  · exact ⟨rfl, rfl, rfl, by rw [Lib.bytesWorld_size]; omega, fun i hi => Lib.bytesWorld_at_old w 5 s i hi⟩
theorem RowD.size {b : Nat} {w wr : World} {l : List Nat} (h : RowD b w wr l) : b < wr.heap.size := by
  obtain ⟨C, h1, _⟩ := h
  exact (Array.getElem?_eq_some_iff.1 h1).1
theorem RowD.cell {b : Nat} {w wr : World} {l : List Nat} (h : RowD b w wr l) (k : Nat) (hk : k < l.length) : wr.cell? ⟨b, k, none⟩ = some (.int .u8 (48 + (l[k] : Int))) := by
  obtain ⟨C, h1, h2, h3, _⟩ := h
  have : C.toList[k]? = some (.int .u8 (48 + (l[k] : Int))) := by
    have h4 : (C.toList.take l.length)[k]? = C.toList[k]? := by rw [List.getElem?_take]; simp [hk]
    rw [← h4, h3]
    simp [asc, hk]
  simp only [World.cell?, h1]
  simpa using this
theorem RowD.unfrozen {b : Nat} {w wr : World} {l : List Nat} (h : RowD b w wr l) (k : Nat) (hk : k < l.length) : wr.frozen? ⟨b, k, none⟩ = false := by
  obtain ⟨C, h1, h2, h3, _⟩ := h
  simp [World.frozen?, h1]
  omega
theorem RowD.set {b : Nat} {w wr : World} {l : List Nat} (h : RowD b w wr l) (hb : w.heap.size ≤ b) (k : Nat) (hk : k < l.length) (d : Nat) : RowD b w (wr.setCell ⟨b, k, none⟩ (.int .u8 (48 + (d : Int)))) (l.set k d) := by
  have hsz := h.size
  obtain ⟨C, h1, h2, h3, h4⟩ := h
  refine ⟨C.setIfInBounds k (.int .u8 (48 + (d : Int))), ?_, ?_, ?_, ?_⟩
  · simp [World.setCell, Array.getElem?_modify, h1]
  · simp only [List.length_set, Array.size_setIfInBounds]; exact h2
  · simp only [List.length_set, Array.toList_setIfInBounds, asc, List.map_set]
    rw [List.take_set, h3]
    rfl
  · exact Below.setCell h4 (Nat.le_refl _) _
theorem dbl_step (L : List Nat) (k d c : Nat) (hk : k < L.length) (hd : d = L[k]'hk) (hc : c = (dbl (L.drop (k + 1))).2) :
    dbl (L.drop k) = ((2 * d + c) % 10 :: (dbl (L.drop (k + 1))).1, (2 * d + c) / 10) := by
  subst hd hc
  rw [List.drop_eq_getElem_cons hk]
  rfl
theorem dbl_set (L : List Nat) (k d c : Nat) (hk : k < L.length) (hd : d = L[k]'hk) (hc : c = (dbl (L.drop (k + 1))).2) :
    (L.take (k + 1) ++ (dbl (L.drop (k + 1))).1).set k ((2 * d + c) % 10) = L.take k ++ (dbl (L.drop k)).1 := by
  rw [dbl_step L k d c hk hd hc]
  generalize (dbl (L.drop (k + 1))).1 = T
  rw [List.take_succ_eq_append_getElem hk, List.append_assoc, List.set_append_right _ _ (by rw [List.length_take]; omega)]
  congr 1
  rw [List.length_take, Nat.min_eq_left (by omega), Nat.sub_self]
  rfl
theorem dblOut_eq (s : ByteArray) : dblOut s = ((((drounds 17 (digs s, 0)).2 / 2 : Nat) : Int), if (drounds 17 (digs s, 0)).2 % 2 = 0 then -1 else if (drounds 17 (digs s, 0)).1.all (· == 0) then 0 else 1) := rfl
attribute [irreducible] dblOut
theorem dropWhile_nil_iff (l : List UInt8) (c : UInt8) : l.dropWhile (· == c) = [] ↔ ∀ x ∈ l, x = c := by
  induction l with
  | nil => simp
  | cons a l ih =>
    by_cases h : a = c
    · subst h; simp [ih]
    · simp [h]
theorem trimB_nil_iff (l : List UInt8) (c : UInt8) : Lib.trimB l c = [] ↔ ∀ x ∈ l, x = c := by
  unfold Lib.trimB Lib.trimLeftB Lib.trimRightB
  rw [dropWhile_nil_iff]
  constructor
  · intro h x hx
    by_cases hn : l.reverse.dropWhile (· == c) = []
    · exact (dropWhile_nil_iff _ _).1 hn x (by simpa using hx)
    · exfalso
      have h1 := List.head_dropWhile_not (fun y : UInt8 => y == c) hn
      have h2 := h _ (List.mem_reverse.2 (List.head_mem hn))
      rw [h2] at h1
      simp at h1
  · intro h x hx
    have := (List.dropWhile_sublist (fun y : UInt8 => y == c) (l := l.reverse)).subset (List.mem_reverse.1 hx)
    exact h x (by simpa using this)
theorem zeros_iff (L : List Nat) (h : ∀ d ∈ L, d < 10) : Lib.trimB (strOfNums (L.map fun d : Nat => 48 + (d : Int))).data.toList 48 = [] ↔ L.all (· == 0) = true := by
  rw [trimB_nil_iff, strOfNums_data, List.all_eq_true]
  simp only [List.map_map, List.mem_map, Function.comp]
  constructor
  · intro hh d hd
    have h1 := hh _ ⟨d, hd, rfl⟩
    have h2 := h d hd
    have h3 := congrArg UInt8.toNat h1
    simp at h3
    simp; omega
  · rintro hh x ⟨d, hd, rfl⟩
    have h1 := hh d hd
    simp at h1
    subst h1
    rfl
theorem isEmpty_mk (T : List UInt8) : (ByteArray.mk T.toArray).toList.isEmpty = T.isEmpty := by rw [Lib.toList_data]
theorem RowD.below {b : Nat} {w wr : World} {l : List Nat} (h : RowD b w wr l) : Below b w wr := by
  obtain ⟨_, _, _, _, h⟩ := h
  exact h
theorem trim_below {b : Nat} {w wr w' : World} (h : Below b w wr) (hw : w' = wr ∨ w' = wr.drew) : Below b w w' := by
  rcases hw with rfl | rfl
  · exact h
  · exact below_drew h
theorem and1 (n : Nat) (h : n < 131072) : Go.bits .and .i64 (n : Int) 1 = ((n % 2 : Nat) : Int) := by
  have := bits_mask .i64 62 (by decide) (fun m h0 h1 => by rw [IntKind.wrap_i64]; omega) 1 (by decide) (n : Int) (by omega) (by omega)
  simpa using this
set_option maxHeartbeats 2000000 in
theorem doubled_walk (s : ByteArray) (w : World) (hs : s.size ≤ 100) (hd : s.data.toList.all isDig = true) :
    Calls Tryz.prog 152 #[.string s] w fun e w' => e = .returned (.tuple #[.int .i64 (dblOut s).1, .int .i64 (dblOut s).2]) ∧ Below w.heap.size w w' := by
  have Hb := Lib.hid (RowD.begin_ s w hd)
  have Hd := Lib.hid (digs_small s hd)
  clear hd
  have hcv : ∀ w, (convert 9 57 (.string s)).run Tryz.prog w = _ := fun w => Lib.run_convert_string_bytes w 9 57 5 s Tryz.underlying9 Tryz.underlying57 Tryz.underlying5
  go_enter Tryz.func152, Tryz.ntmps152
  go_wp2
  go_loopw [5, 12] (fun n t wr => ∃ j : Nat, j ≤ 17 ∧ t = .int .i64 j ∧ n = .int .i64 ((drounds j (digs s, 0)).2 : Nat) ∧ Hid (RowD w.heap.size w wr (drounds j (digs s, 0)).1)) (fun _ t _ => 17 - (intOf t).toNat)
  case atStart => exact ⟨0, by omega, rfl, rfl, Hb⟩
  case round =>
    obtain ⟨j, hj, rfl, rfl, HR⟩ := hrel
    have hlen : (drounds j (digs s, 0)).1.length = s.size := by rw [drounds_length, digs_length]
    have hnb : (drounds j (digs s, 0)).2 < 131072 := Nat.lt_of_lt_of_le (drounds_bound _ Hd.out j) (Nat.pow_le_pow_right (by omega) hj)
    have Hdig := Lib.hid (drounds_digits (digs s) 0 Hd.out j)
    obtain ⟨L, hL⟩ : ∃ L, L = (drounds j (digs s, 0)).1 := ⟨_, rfl⟩
    obtain ⟨nn, hnn⟩ : ∃ nn, nn = (drounds j (digs s, 0)).2 := ⟨_, rfl⟩
    rw [← hL] at HR hlen Hdig
    rw [← hnn] at hnb
    rw [show ((drounds j (digs s, 0)).2 : Int) = (nn : Int) from by rw [hnn]]
    have HL := Lib.hid hL
    have HN := Lib.hid hnn
    clear hL hnn
    have Hlen := Lib.hid hlen
    clear hlen
    by_cases hlt : j < 17
    · have hsz := HR.out.size
      go_wp2
      obtain ⟨wo, rfl⟩ : ∃ wo : World, wo = wr := ⟨_, rfl⟩
      go_loopw [6, 7] (fun cv iv wr => ∃ i : Nat, i ≤ s.size ∧ iv = .int .i64 ((i : Int) - 1) ∧ cv = .int .u8 ((dbl (L.drop i)).2 : Nat) ∧ Hid (RowD w.heap.size w wr (L.take i ++ (dbl (L.drop i)).1))) (fun _ iv _ => (intOf iv + 1).toNat)
      case atStart =>
        refine ⟨s.size, Nat.le_refl _, rfl, ?_, Lib.hid ?_⟩
        · rw [List.drop_of_length_le (by rw [Hlen.out]; exact Nat.le_refl _)]; rfl
        · rw [List.drop_of_length_le (by rw [Hlen.out]; exact Nat.le_refl _), List.take_of_length_le (by rw [Hlen.out]; exact Nat.le_refl _)]
          simpa [dbl] using HR.out
      case round =>
        obtain ⟨i, hi, rfl, rfl, HR2⟩ := hrel
        cases i with
        | zero =>
          rw [show (((0 : Nat) : Int) - 1) = (-1 : Int) from rfl]
          have hc1 := dbl_carry (L.drop 0) (fun d hd => Hdig.out d (List.mem_of_mem_drop hd))
          obtain ⟨c, Hc1⟩ : ∃ c, Hid (c = (dbl (L.drop 0)).2) := ⟨_, Lib.hid rfl⟩
          rw [← Hc1.out] at hc1
          rw [← Hc1.out]
          go_wp2
          refine ⟨⟨j + 1, by omega, by go_num, ?_, Lib.hid ?_⟩, by simp [intOf]; omega⟩
          · have e : (drounds (j + 1) (digs s, 0)).2 = 2 * nn + c := by
              rw [HN.out, Hc1.out, List.drop_zero, HL.out]; rfl
            rw [e]; go_num
          · have e : (drounds (j + 1) (digs s, 0)).1 = (dbl L).1 := by rw [HL.out]; rfl
            rw [e]; simpa using HR2.out
        | succ k =>
          rw [show (((k + 1 : Nat) : Int) - 1) = (k : Int) from by omega]
          have hkL : k < L.length := by rw [Hlen.out]; omega
          have hk2 : k < (L.take (k + 1) ++ (dbl (L.drop (k + 1))).1).length := by rw [List.length_append, List.length_take]; omega
          have hcell := HR2.out.cell k hk2
          have hfz := HR2.out.unfrozen k hk2
          have hd10 := Hdig.out (L[k]'hkL) (List.getElem_mem hkL)
          have hc1 := dbl_carry (L.drop (k + 1)) (fun d hd => Hdig.out d (List.mem_of_mem_drop hd))
          have He : Hid ((L.take (k + 1) ++ (dbl (L.drop (k + 1))).1)[k]'hk2 = L[k]'hkL) := Lib.hid (by
            rw [List.getElem_append_left (by rw [List.length_take]; omega), List.getElem_take])
          rw [He.out] at hcell
          obtain ⟨d, Hd1⟩ : ∃ d, Hid (d = L[k]'hkL) := ⟨_, Lib.hid rfl⟩
          obtain ⟨c, Hc1⟩ : ∃ c, Hid (c = (dbl (L.drop (k + 1))).2) := ⟨_, Lib.hid rfl⟩
          rw [← Hd1.out] at hcell hd10
          rw [← Hc1.out] at hc1
          rw [← Hc1.out]
          have hsz2 := HR2.out.size
          have hk1 : k < s.size := by omega
          clear He hk2
          go_wp2
          refine ⟨⟨k, by omega, rfl, ?_, Lib.hid ?_⟩, by simp [intOf]⟩
          · rw [dbl_step L k d c hkL Hd1.out Hc1.out]
            congr 1
            show (2 * (48 + (d : Int) - 48) + (c : Int)) / 10 = (((2 * d + c) / 10 : Nat) : Int)
            omega
          · have h1 := HR2.out.set (Nat.le_refl _) k (by rw [List.length_append, List.length_take]; omega) ((2 * d + c) % 10)
            rw [dbl_set L k d c hkL Hd1.out Hc1.out] at h1
            rw [show (2 * (48 + (d : Int) - 48) + (c : Int)) % 10 = (((2 * d + c) % 10 : Nat) : Int) from by omega]
            exact h1
    · obtain rfl : j = 17 := by omega
      have hb := and1 nn hnb
      rcases Nat.mod_two_eq_zero_or_one nn with h2 | h2
      · rw [h2] at hb
        have H2 := Lib.hid h2
        clear h2
        go_wp2
        go_ret2
        refine ⟨?_, by obtain ⟨_, _, _, _, h⟩ := HR.out; exact h⟩
        have e1 : (dblOut s).1 = (nn : Int) / 2 := by rw [dblOut_eq, ← HN.out]; rfl
        have e2 : (dblOut s).2 = -1 := by rw [dblOut_eq, ← HN.out, if_pos H2.out]
        rw [e1, e2]; rfl
      · rw [h2] at hb
        have H2 := Lib.hid h2
        clear h2
        have hcv2 := run_convert_bytes_arg (P := Tryz.prog) wr 57 5 Tryz.underlying57 Tryz.underlying5 w.heap.size 0 s.size (grownCap w s.size 0 5) (L.map fun d : Nat => 48 + (d : Int)) (by rw [List.length_map, Hlen.out]) (fun i hi => by
          have := HR.out.cell i (by rw [Hlen.out]; exact hi)
          rw [Nat.zero_add, this]
          have h3 : i < L.length := by rw [Hlen.out]; exact hi
          simp [List.getD, h3]) 9 Tryz.underlying9
        have hbel := HR.out.below
        have e1 : (dblOut s).1 = (nn : Int) / 2 := by rw [dblOut_eq, ← HN.out]; rfl
        have e2 : (dblOut s).2 = if L.all (· == 0) then 0 else 1 := by rw [dblOut_eq, ← HN.out, if_neg (by rw [H2.out]; decide), ← HL.out]
        have E1 := Lib.hid e1
        have E2 := Lib.hid e2
        have Hz := Lib.hid (zeros_iff L Hdig.out)
        clear e1 e2
        obtain ⟨T, HT⟩ : ∃ T, Hid (T = ByteArray.mk (Lib.trimB (strOfNums (L.map fun d : Nat => 48 + (d : Int))).data.toList 48).toArray) := ⟨_, Lib.hid rfl⟩
        have hsz3 : (strOfNums (L.map fun d : Nat => 48 + (d : Int))).size ≤ 9223372036854775807 := by rw [strOfNums_size, List.length_map, Hlen.out]; omega
        by_cases hT : L.all (· == 0) = true
        · have hTe : T.toList.isEmpty = true := by rw [HT.out, isEmpty_mk, Hz.out.2 hT]; rfl
          have E3 : Hid ((dblOut s).2 = 0) := Lib.hid (by rw [E2.out, if_pos hT])
          clear hT
          go_wp2_with (go_at_call 173; refine (Tryz.strings_Trim_one _ 48 (by decide) wr hsz3).mono ?_; rintro e w' ⟨rfl, hw⟩; rw [← HT.out]; have Hb2 := Lib.hid (trim_below hbel hw); clear hw hcv hcv2)
          go_ret2
          exact ⟨by rw [E1.out, E3.out]; rfl, Hb2.out⟩
        · have hTe : T.toList.isEmpty = false := by
            rw [HT.out, isEmpty_mk]
            cases hTT : Lib.trimB (strOfNums (L.map fun d : Nat => 48 + (d : Int))).data.toList 48 with
            | nil => exact absurd (Hz.out.1 hTT) hT
            | cons a l => rfl
          have E3 : Hid ((dblOut s).2 = 1) := Lib.hid (by rw [E2.out, if_neg hT])
          clear hT
          go_wp2_with (go_at_call 173; refine (Tryz.strings_Trim_one _ 48 (by decide) wr hsz3).mono ?_; rintro e w' ⟨rfl, hw⟩; rw [← HT.out]; have Hb2 := Lib.hid (trim_below hbel hw); clear hw hcv hcv2)
          go_ret2
          exact ⟨by rw [E1.out, E3.out]; rfl, Hb2.out⟩
end Go.Proofs.YtckdgcpomkefpaaGreatDoor.Dg
end
section
namespace Go.Proofs.YtckdgcpomkefpaaGreatDoor.Dg
open Go.RowKit
set_option linter.unusedVariables false
set_option linter.unusedSimpArgs false
theorem infoI : (Tryz.prog.info? 3).map (fun i => (i.zero, i.size, i.bytes)) = some (some (.int .i64 0), 1, 8) := by kernel_rfl
def ints (l : List Nat) : List Value := l.map fun d : Nat => .int .i64 (d : Int)
theorem ints_length (l : List Nat) : (ints l).length = l.length := by simp [ints]
structure RowI (b : Nat) (w0 wr : World) (A : Option Addr) (cap : Nat) (l : List Nat) : Prop where
  own : wr.ownsRow b 3 1 (.slice A l.length cap) l.length (ints l)
  below : Below b w0 wr
theorem own_slice {wr : World} {b n : Nat} {e : TypeId} {v : Value} {xs : List Value} (h : wr.ownsRow b e 1 v n xs) : ∃ A cap, v = .slice A n cap := by
  rcases h.2 with ⟨rfl, rfl⟩ | ⟨g, cap, cur, rfl, _⟩
  · exact ⟨none, 0, rfl⟩
  · exact ⟨_, _, rfl⟩
theorem RowI.at {b : Nat} {w0 wr : World} {A : Option Addr} {cap : Nat} {l : List Nat} (h : RowI b w0 wr A cap l) (k : Nat) (hk : k < l.length) :
    ∃ g, A = some ⟨g, 0, none⟩ ∧ b ≤ g ∧ g < wr.heap.size ∧ wr.cell? ⟨g, k, none⟩ = some (.int .i64 ((l[k]'hk : Nat) : Int)) ∧ wr.frozen? ⟨g, k, none⟩ = false ∧
      ∀ d : Nat, RowI b w0 (wr.setCell ⟨g, k, none⟩ (.int .i64 (d : Int))) A cap (l.set k d) := by
  obtain ⟨h1, h2⟩ := h.own
  rcases h2 with ⟨_, h2⟩ | ⟨g, cap', cur, e, hb, hg, hn, hc, hs, ht⟩
  · omega
  · injection e with e1 e2 e3
    subst e1 e3
    have hlt : g < wr.heap.size := (Array.getElem?_eq_some_iff.1 hg).1
    have hcell : wr.cell? ⟨g, k, none⟩ = some (.int .i64 ((l[k]'hk : Nat) : Int)) := by
      have h4 : (cur.toList.take (l.length * 1))[k]? = cur.toList[k]? := by rw [List.getElem?_take]; simp [hk]
      have h5 : cur.toList[k]? = some (.int .i64 ((l[k]'hk : Nat) : Int)) := by
        rw [← h4, ht]
        simp [ints, hk]
      simp only [World.cell?, hg]
      simpa using h5
    refine ⟨g, rfl, hb, hlt, hcell, by simp [World.frozen?, hg], fun d => ⟨⟨by rw [ints_length, List.length_set]; omega, .inr ⟨g, cap, cur.setIfInBounds k (.int .i64 (d : Int)), by rw [List.length_set], hb, ?_, by rw [List.length_set]; exact hn, hc, by rw [Array.size_setIfInBounds]; exact hs, ?_⟩⟩, Below.setCell h.below hb _⟩⟩
    · simp [World.setCell, Array.getElem?_modify, hg]
    · rw [Array.toList_setIfInBounds, List.length_set, List.take_set, ht]
      unfold ints
      rw [List.map_set]
theorem byte_at (s : ByteArray) (j : Nat) (h : j < s.size) (hd : s.data.toList.all isDig = true) : ∃ d : Nat, d < 10 ∧ (digs s)[j]? = some d ∧ ((s[j]'h).toNat : Int) = 48 + d := by
  have hl : j < s.data.toList.length := by rw [data_length]; exact h
  have hm : s.data.toList[j] ∈ s.data.toList := List.getElem_mem hl
  have := List.all_eq_true.1 hd _ hm
  unfold isDig at this
  simp at this
  refine ⟨s.data.toList[j].toNat - 48, by have := this; simp only [Array.getElem_toList]; omega, ?_, ?_⟩
  · unfold digs
    rw [List.getElem?_map, List.getElem?_eq_getElem hl]
    rfl
  · show ((s.data.toList[j].toNat : Nat) : Int) = _
    have := this
    simp only [Array.getElem_toList]
    omega
set_option maxHeartbeats 4000000 in
set_option maxRecDepth 20000 in
theorem bits_walk (s : ByteArray) (w : World) (hs : s.size ≤ 100) (hd : s.data.toList.all isDig = true) :
    Calls Tryz.prog 154 #[.string s] w fun e w' => ∃ A cap, e = .returned (.tuple #[.int .i64 ((drounds 16 (digs s, 0)).2 : Nat), .slice A s.size cap]) ∧ RowI w.heap.size w w' A cap (drounds 16 (digs s, 0)).1 := by
  obtain ⟨i0, hi, hz0, hz1, hz2⟩ := info_parts infoI
  have Hd := Lib.hid (digs_small s hd)
  have HB := Lib.hid hd
  clear hd
  go_enter Tryz.func154, Tryz.ntmps154
  go_wp2
  go_loopw [4, 5] (fun v iv wr => ∃ j : Nat, j ≤ s.size ∧ iv = .int .i64 j ∧ Hid (wr.ownsRow w.heap.size 3 1 v j (ints ((digs s).take j))) ∧ Hid (Below w.heap.size w wr)) (fun _ iv _ => s.size - (intOf iv).toNat)
  case atStart => exact ⟨0, by omega, rfl, Lib.hid (World.ownsRow_nil _ _ _ _), Lib.hid (Below.refl _ _)⟩
  case round =>
    obtain ⟨j, hj, rfl, HO, HW⟩ := hrel
    by_cases hlt : j < s.size
    · obtain ⟨d, hd1, hd2, hd3⟩ := byte_at s j hlt HB.out
      have Hd2 := Lib.hid hd2
      clear hd2
      have hsz := HW.out.size
      go_wp2_with (at_builtin; refine wpList_append_own _ rfl _ _ 31 rfl w.heap.size 3 i0 (.int .i64 0) 1 8 Tryz.underlying31 hi hz0 hz1 hz2 rfl (by decide) _ _ _ rfl (HO.out.alloc _) ⟨wr.heap.size, 0, none⟩ 1 1 [.int .i64 (48 + (d : Int) - 48)] rfl rfl ?c1 ?c2 ?c3 ?c4 ?c5 ?_)
      case c1 => intro i u hu; match i, hu with | 0, hu => simp at hu; subst hu; simp [Addr.add]
      case c2 => intro u hu; rw [List.mem_singleton] at hu; subst hu; rfl
      case c3 => unfold maxLen; omega
      case c4 => omega
      case c5 => simp; omega
      intro v' w' hown hgrow hnil
      have HO2 := Lib.hid hown
      have HG := Lib.hid hgrow
      clear hown hgrow hnil
      go_wp2
      go_roundw
      case rel =>
        refine ⟨j + 1, by omega, rfl, Lib.hid ?_, Lib.hid (Below.grown (HW.out.alloc HW.out.size _) HG.out (by simp; omega) fun k hk => (HO.out.lt k hk).1)⟩
        have e : ints (List.take (j + 1) (digs s)) = ints (List.take j (digs s)) ++ [.int .i64 (48 + (d : Int) - 48)] := by
          have hl : j < (digs s).length := (List.getElem?_eq_some_iff.1 Hd2.out).1
          rw [List.take_succ_eq_append_getElem hl, (List.getElem?_eq_some_iff.1 Hd2.out).2]
          unfold ints
          rw [List.map_append, show 48 + (d : Int) - 48 = d by omega]
          rfl
        rw [e]
        exact HO2.out
      case measure => simp [intOf]; omega
    · obtain ⟨A, cap, rfl⟩ := own_slice HO.out
      obtain rfl : j = s.size := by omega
      have HR : Hid (RowI w.heap.size w wr A cap (digs s)) := Lib.hid ⟨by
        have := HO.out
        rw [List.take_of_length_le (by rw [digs_length]; exact Nat.le_refl _)] at this
        rw [digs_length]
        exact this, HW.out⟩
      clear HO HW hlt hj
      go_wp2
      go_loopw [6, 7] (fun n t wr => ∃ j : Nat, j ≤ 16 ∧ t = .int .i64 j ∧ n = .int .i64 ((drounds j (digs s, 0)).2 : Nat) ∧ Hid (RowI w.heap.size w wr A cap (drounds j (digs s, 0)).1)) (fun _ t _ => 16 - (intOf t).toNat)
      case atStart => exact ⟨0, by omega, rfl, rfl, HR⟩
      case round =>
        clear HR
        obtain ⟨j, hj, rfl, rfl, HR⟩ := hrel
        have hlen : (drounds j (digs s, 0)).1.length = s.size := by rw [drounds_length, digs_length]
        have hnb : (drounds j (digs s, 0)).2 < 65536 := Nat.lt_of_lt_of_le (drounds_bound _ Hd.out j) (Nat.pow_le_pow_right (by omega) hj)
        have Hdig := Lib.hid (drounds_digits (digs s) 0 Hd.out j)
        obtain ⟨L, hL⟩ : ∃ L, L = (drounds j (digs s, 0)).1 := ⟨_, rfl⟩
        obtain ⟨nn, hnn⟩ : ∃ nn, nn = (drounds j (digs s, 0)).2 := ⟨_, rfl⟩
        rw [← hL] at HR hlen Hdig
        rw [← hnn] at hnb
        rw [show ((drounds j (digs s, 0)).2 : Int) = (nn : Int) from by rw [hnn]]
        have HL := Lib.hid hL
        have HN := Lib.hid hnn
        clear hL hnn
        have Hlen := Lib.hid hlen
        clear hlen
        by_cases hlt : j < 16
        · go_wp2
          go_loopw [8, 9] (fun cv iv wr => ∃ i : Nat, i ≤ s.size ∧ iv = .int .i64 ((i : Int) - 1) ∧ cv = .int .i64 ((dbl (L.drop i)).2 : Nat) ∧ Hid (RowI w.heap.size w wr A cap (L.take i ++ (dbl (L.drop i)).1))) (fun _ iv _ => (intOf iv + 1).toNat)
          case atStart =>
            refine ⟨s.size, Nat.le_refl _, rfl, ?_, Lib.hid ?_⟩
            · rw [List.drop_of_length_le (by rw [Hlen.out]; exact Nat.le_refl _)]; rfl
            · rw [List.drop_of_length_le (by rw [Hlen.out]; exact Nat.le_refl _), List.take_of_length_le (by rw [Hlen.out]; exact Nat.le_refl _)]
              simpa [dbl] using HR.out
          case round =>
            obtain ⟨i, hi2, rfl, rfl, HR2⟩ := hrel
            cases i with
            | zero =>
              rw [show (((0 : Nat) : Int) - 1) = (-1 : Int) from rfl]
              have hc1 := dbl_carry (L.drop 0) (fun d hd => Hdig.out d (List.mem_of_mem_drop hd))
              obtain ⟨c, Hc1⟩ : ∃ c, Hid (c = (dbl (L.drop 0)).2) := ⟨_, Lib.hid rfl⟩
              rw [← Hc1.out] at hc1
              rw [← Hc1.out]
              go_wp2
              refine ⟨⟨j + 1, by omega, by go_num, ?_, Lib.hid ?_⟩, by simp [intOf]; omega⟩
              · have e : (drounds (j + 1) (digs s, 0)).2 = 2 * nn + c := by
                  rw [HN.out, Hc1.out, List.drop_zero, HL.out]; rfl
                rw [e]; go_num
              · have e : (drounds (j + 1) (digs s, 0)).1 = (dbl L).1 := by rw [HL.out]; rfl
                rw [e]; simpa using HR2.out
            | succ k =>
              rw [show (((k + 1 : Nat) : Int) - 1) = (k : Int) from by omega]
              have hkL : k < L.length := by rw [Hlen.out]; omega
              have hk2 : k < (L.take (k + 1) ++ (dbl (L.drop (k + 1))).1).length := by rw [List.length_append, List.length_take]; omega
              obtain ⟨g, rfl, hgb, hgs, hcell, hfz, hset⟩ := HR2.out.at k hk2
              have hd10 := Hdig.out (L[k]'hkL) (List.getElem_mem hkL)
              have hc1 := dbl_carry (L.drop (k + 1)) (fun d hd => Hdig.out d (List.mem_of_mem_drop hd))
              have He : Hid ((L.take (k + 1) ++ (dbl (L.drop (k + 1))).1)[k]'hk2 = L[k]'hkL) := Lib.hid (by
                rw [List.getElem_append_left (by rw [List.length_take]; omega), List.getElem_take])
              rw [He.out] at hcell
              obtain ⟨d, Hd1⟩ : ∃ d, Hid (d = L[k]'hkL) := ⟨_, Lib.hid rfl⟩
              obtain ⟨c, Hc1⟩ : ∃ c, Hid (c = (dbl (L.drop (k + 1))).2) := ⟨_, Lib.hid rfl⟩
              rw [← Hd1.out] at hcell hd10
              rw [← Hc1.out] at hc1
              rw [← Hc1.out]
              have hk1 : k < s.size := by omega
              have HS := Lib.hid hset
              clear He hk2 hset
              go_wp2
              refine ⟨⟨k, by omega, rfl, ?_, Lib.hid ?_⟩, by simp [intOf]⟩
              · rw [dbl_step L k d c hkL Hd1.out Hc1.out]
                congr 1
              · have h1 := HS.out ((2 * d + c) % 10)
                rw [dbl_set L k d c hkL Hd1.out Hc1.out] at h1
                rw [show (2 * (d : Int) + (c : Int)) % 10 = (((2 * d + c) % 10 : Nat) : Int) from by omega]
                exact h1
        · obtain rfl : j = 16 := by omega
          go_wp2
          go_ret2
          exact ⟨A, cap, by rw [← HN.out]; rfl, by rw [← HL.out]; exact HR.out⟩
end Go.Proofs.YtckdgcpomkefpaaGreatDoor.Dg
end
section
namespace Go.Proofs.YtckdgcpomkefpaaGreatDoor.Dg
open Go.RowKit
set_option linter.unusedVariables false
set_option linter.unusedSimpArgs false
def decVal (l : List UInt8) : Nat := l.foldl (fun n c => 10 * n + (c.toNat - 48)) 0
def bs (l : List UInt8) : ByteArray := ⟨l.toArray⟩
def signless (s : ByteArray) : ByteArray := bs (Lib.trimPrefix s.data.toList [45])
def signed (s : ByteArray) : Bool := Lib.hasPrefix s.data.toList [45]
def wholeOf (t : ByteArray) : ByteArray := bs (Lib.cut t.data.toList [46]).1
def partOf (t : ByteArray) : ByteArray := bs (Lib.cut t.data.toList [46]).2.1
def pointed (t : ByteArray) : Bool := (Lib.cut t.data.toList [46]).2.2
def bare (t : ByteArray) : ByteArray := bs (Lib.trimLeftB t.data.toList 48)
def lenOf (below : Bool) (whole part : ByteArray) : Int :=
  let n : Int := (decVal whole.data.toList : Int) * 65536 + (dblOut part).1
  if (dblOut part).2 > 0 ∨ ((dblOut part).2 = 0 ∧ below = false) then n + 1 else n
def nearEnd (below : Bool) (n : Int) : Int × Int :=
  if n ≤ 1099511627776 then (if below then -n else n, 0) else (0, 3)
def nearOut (s : ByteArray) : Int × Int :=
  if s.size > 40 then (0, 2)
  else if allDig (wholeOf (signless s)) = false ∨ (pointed (signless s) = true ∧ allDig (partOf (signless s)) = false) then (0, 20)
  else if (bare (wholeOf (signless s))).size > 8 then (0, 3)
  else nearEnd (signed s) (lenOf (signed s) (bare (wholeOf (signless s))) (partOf (signless s)))
theorem decVal_append (l : List UInt8) (c : UInt8) : decVal (l ++ [c]) = 10 * decVal l + (c.toNat - 48) := by simp [decVal]
theorem decVal_snoc (v : ByteArray) (pos : Nat) (hp : pos < v.size) : decVal (v.data.toList.take (pos + 1)) = 10 * decVal (v.data.toList.take pos) + ((v[pos]'hp).toNat - 48) := by
  rw [List.take_succ_eq_append_getElem (by rw [data_length]; exact hp), decVal_append]
  rfl
theorem decVal_bound_from : ∀ (l : List UInt8) (n k : Nat), n < 10 ^ k → (∀ c ∈ l, isDig c = true) → l.foldl (fun n c => 10 * n + (c.toNat - 48)) n < 10 ^ (k + l.length)
  | [], n, k, hn, _ => by simpa using hn
  | c :: l, n, k, hn, h => by
    have h2 := h c (by simp)
    unfold isDig at h2; simp at h2
    have h3 := decVal_bound_from l (10 * n + (c.toNat - 48)) (k + 1) (by rw [Nat.pow_succ]; omega) (fun x hx => h x (by simp [hx]))
    simp only [List.foldl_cons, List.length_cons]
    rw [show k + (l.length + 1) = k + 1 + l.length from by omega]
    exact h3
theorem decVal_bound (l : List UInt8) (h : ∀ c ∈ l, isDig c = true) : decVal l < 10 ^ l.length := by
  have := decVal_bound_from l 0 0 (by simp) h
  simpa [decVal] using this
theorem dblOut_bound (s : ByteArray) (h : s.data.toList.all isDig = true) : 0 ≤ (dblOut s).1 ∧ (dblOut s).1 < 65536 ∧ ((dblOut s).2 = -1 ∨ (dblOut s).2 = 0 ∨ (dblOut s).2 = 1) := by
  have hb := drounds_bound _ (digs_small s h) 17
  rw [dblOut_eq]
  generalize (drounds 17 (digs s, 0)).2 = n at *
  refine ⟨by simp only; omega, by simp only; omega, ?_⟩
  simp only
  repeat' split
  all_goals simp
theorem bs_size (l : List UInt8) : (bs l).size = l.length := rfl
theorem signless_size (s : ByteArray) : (signless s).size ≤ s.size := by
  unfold signless Lib.trimPrefix
  rw [bs_size, ← data_length s]
  split
  · rw [List.length_drop]; omega
  · exact Nat.le_refl _
theorem partOf_size (s : ByteArray) : (partOf s).size ≤ s.size := by
  unfold partOf Lib.cut
  rw [bs_size, ← data_length s]
  split
  · rw [List.length_drop]; omega
  · simp
theorem partOf_none (t : ByteArray) (h : false = pointed t) : (partOf t).data.toList = [] := by
  unfold pointed Lib.cut at h
  unfold partOf Lib.cut
  split at h
  · cases h
  · rename_i hh; rw [if_neg hh]; rfl
theorem allDig_all (s : ByteArray) (h : allDig s = true) : s.data.toList.all isDig = true := by
  unfold allDig at h
  rw [Bool.and_eq_true] at h
  exact h.2
theorem bare_digits (wh : ByteArray) (h : allDig wh = true) : ∀ j (hj : j < (bare wh).size), isDig ((bare wh)[j]'hj) = true := by
  intro j hj
  have h1 := List.all_eq_true.1 (allDig_all wh h)
  exact h1 _ ((List.dropWhile_sublist (fun y : UInt8 => y == 48) (l := wh.data.toList)).subset (List.getElem_mem (l := Lib.trimLeftB wh.data.toList 48) hj))
def lenR (below : Bool) (n r : Int) : Int := if r > 0 ∨ (r = 0 ∧ below = false) then n + 1 else n
theorem len_at (below : Bool) (v pa : ByteArray) (nn : Nat) (m r : Int) (h1 : nn = decVal v.data.toList) (h2 : m = (dblOut pa).1) (h3 : r = (dblOut pa).2) : lenOf below v pa = lenR below ((nn : Int) * 65536 + m) r := by
  subst h1 h2 h3; rfl
theorem len_low (below : Bool) (n : Int) : lenR below n (-1) = n := by simp [lenR]
theorem len_up (below : Bool) (n : Int) : lenR below n 1 = n + 1 := by simp [lenR]
theorem len_half_f (n : Int) : lenR false n 0 = n + 1 := by simp [lenR]
theorem len_half_t (n : Int) : lenR true n 0 = n := by simp [lenR]
theorem near_in_f (n : Int) (h : n ≤ 1099511627776) : nearEnd false n = (n, 0) := by simp [nearEnd, h]
theorem near_in_t (n : Int) (h : n ≤ 1099511627776) : nearEnd true n = (-n, 0) := by simp [nearEnd, h]
theorem near_out (b : Bool) (n : Int) (h : ¬ n ≤ 1099511627776) : nearEnd b n = (0, 3) := by simp [nearEnd, h]
theorem in_yes (n : Int) (w : World) (h0 : 0 ≤ n) (h1 : n ≤ 1099511627776) : Calls Tryz.prog 62 #[.int .i64 n] w fun e w' => e = .returned (.bool true) ∧ w = w' := by
  have k1 : decide (-1099511627776 ≤ n) = true := decide_eq_true (by omega)
  have k2 : decide (n ≤ 1099511627776) = true := decide_eq_true h1
  go_enter Tryz.func62, Tryz.ntmps62
  go_wp2
  go_ret
  exact ⟨by first | rfl | simp [*], rfl⟩
theorem in_no (n : Int) (w : World) (h1 : 1099511627776 < n) : Calls Tryz.prog 62 #[.int .i64 n] w fun e w' => e = .returned (.bool false) ∧ w = w' := by
  have k1 : decide (-1099511627776 ≤ n) = true := decide_eq_true (by omega)
  have k2 : decide (n ≤ 1099511627776) = false := decide_eq_false (by omega)
  go_enter Tryz.func62, Tryz.ntmps62
  go_wp2
  go_ret
  exact ⟨by first | rfl | simp [*], rfl⟩
set_option maxHeartbeats 40000000 in
theorem near_walk (s : ByteArray) (w : World) (hG : Aside0 (En.GW w)) :
    Calls Tryz.prog 130 #[.string s] w fun e w' => e = .returned (.tuple #[.int .i64 (nearOut s).1, .int .i64 (nearOut s).2]) ∧ Below w.heap.size w w' := by
  by_cases h40 : s.size > 40
  · have e : Hid (nearOut s = (0, 2)) := Lib.hid (by unfold nearOut; rw [if_pos h40])
    go_enter Tryz.func130, Tryz.ntmps130
    go_wp2
    go_ret2
    exact ⟨by rw [e.out]; rfl, Below.refl _ _⟩
  · obtain ⟨t, Ht⟩ : ∃ t, Hid (t = signless s) := ⟨_, Lib.hid rfl⟩
    obtain ⟨below, Hb⟩ : ∃ b, Hid (b = signed s) := ⟨_, Lib.hid rfl⟩
    obtain ⟨wh, Hw⟩ : ∃ b, Hid (b = wholeOf t) := ⟨_, Lib.hid rfl⟩
    obtain ⟨pa, Hp⟩ : ∃ b, Hid (b = partOf t) := ⟨_, Lib.hid rfl⟩
    obtain ⟨pt, Hpt⟩ : ∃ b, Hid (b = pointed t) := ⟨_, Lib.hid rfl⟩
    have hts : t.size ≤ 40 := by rw [Ht.out]; exact Nat.le_trans (signless_size s) (by omega)
    have hcp : ∀ w, Calls Tryz.prog 148 #[.string s, .string ⟨#[45]⟩] w fun e w' => e = .returned (.tuple #[.string t, .bool below]) ∧ w = w' := fun w => by
      refine (Tryz.strings_CutPrefix s ⟨#[45]⟩ w).mono fun e w' h => ?_
      rw [Ht.out, Hb.out]
      exact ⟨h.1, h.2.symm⟩
    have hcut : ∀ w, En.GW w → Calls Tryz.prog 149 #[.string t, .string ⟨#[46]⟩] w fun e w' => e = .returned (.tuple #[.string wh, .string pa, .bool pt]) ∧ ∃ n, w' = w.drewN n := fun w hg => by
      obtain ⟨m, hm⟩ := hg.len
      refine (Tryz.strings_Cut t ⟨#[46]⟩ m w (by omega) hm).mono fun e w' h => ?_
      rw [Hw.out, Hp.out, Hpt.out]
      exact h
    have Hcp := Lib.hid hcp
    have Hcut := Lib.hid hcut
    clear hcp hcut
    obtain ⟨A, HA⟩ : ∃ b, Hid (b = allDig wh) := ⟨_, Lib.hid rfl⟩
    obtain ⟨P, HP⟩ : ∃ b, Hid (b = allDig pa) := ⟨_, Lib.hid rfl⟩
    have Hall1 : Hid (∀ w, Calls Tryz.prog 150 #[.string wh] w fun e w' => e = .returned (.bool A) ∧ Below w.heap.size w w') := Lib.hid fun w => by rw [HA.out]; exact all_walk wh w
    have Hall2 : Hid (∀ w, Calls Tryz.prog 150 #[.string pa] w fun e w' => e = .returned (.bool P) ∧ Below w.heap.size w w') := Lib.hid fun w => by rw [HP.out]; exact all_walk pa w
    have HB := Aside0.mk (Below.refl w.heap.size w)
    cases A with
    | false =>
      have e : Hid (nearOut s = (0, 20)) := Lib.hid (by unfold nearOut; rw [if_neg h40, if_pos (.inl (by rw [← Ht.out, ← Hw.out, HA.out]))])
      go_enter Tryz.func130, Tryz.ntmps130
      go_wp2_with (first | (go_at_call 148; refine (Hcp.out _).mono ?_; rintro e w' ⟨rfl, rfl⟩) | (go_at_call 149; refine (Hcut.out _ hG.out).mono ?_; rintro e w' ⟨rfl, nd, rfl⟩) | (go_at_call 150; refine (Hall1.out _).mono ?_; rintro e w1 ⟨rfl, hb⟩; have n0_ := Aside0.mk (below_step (by repeat (first | exact HB.out | apply below_alloc | apply pw_below_drewN | apply below_drew1)) hb); clear HB; have HB := n0_; clear n0_ hb))
      go_ret2
      exact ⟨by rw [e.out]; rfl, HB.out⟩
    | true =>
      by_cases hbad : pt = true ∧ P = false
      · have e : Hid (nearOut s = (0, 20)) := Lib.hid (by
          unfold nearOut
          rw [if_neg h40, if_pos (.inr ⟨by rw [← Ht.out, ← Hpt.out]; exact hbad.1, by rw [← Ht.out, ← Hp.out, ← HP.out]; exact hbad.2⟩)])
        obtain ⟨rfl, rfl⟩ := hbad
        go_enter Tryz.func130, Tryz.ntmps130
        go_wp2_with (first | (go_at_call 148; ((with_reducible refine (Hcp.out _).mono ?_); rintro e w' ⟨rfl, rfl⟩)) | (go_at_call 149; ((with_reducible refine (Hcut.out _ hG.out).mono ?_); rintro e w' ⟨rfl, nd, rfl⟩)) | (go_at_call 150; ((with_reducible refine (Hall1.out _).mono ?_); rintro e w1 ⟨rfl, hb⟩; have n0_ := Aside0.mk (below_step (by repeat (first | exact HB.out | apply below_alloc | apply pw_below_drewN | apply below_drew1)) hb); clear HB; have HB := n0_; clear n0_ hb)) | (go_at_call 150; ((with_reducible refine (Hall2.out _).mono ?_); rintro e w1 ⟨rfl, hb⟩; have n0_ := Aside0.mk (below_step (by repeat (first | exact HB.out | apply below_alloc | apply pw_below_drewN | apply below_drew1)) hb); clear HB; have HB := n0_; clear n0_ hb)) | (go_at_call 151; ((with_reducible refine (Hbare.out _).mono ?_); rintro e w1 ⟨rfl, rfl⟩)))
        go_ret2
        exact ⟨by rw [e.out]; rfl, HB.out⟩
      · obtain ⟨v, Hv⟩ : ∃ v, Hid (v = bare wh) := ⟨_, Lib.hid rfl⟩
        have Hbare : Hid (∀ w, Calls Tryz.prog 151 #[.string wh, .string ⟨#[48]⟩] w fun e w' => e = .returned (.string v) ∧ w = w') := Lib.hid fun w => by
          refine (Tryz.strings_TrimLeft_one wh 48 (by decide) w).mono fun e w' h => ?_
          rw [Hv.out]
          exact ⟨h.1, h.2.symm⟩
        have Hnb : Hid (¬ (allDig (wholeOf (signless s)) = false ∨ (pointed (signless s) = true ∧ allDig (partOf (signless s)) = false))) := Lib.hid (by
          rw [← Ht.out, ← Hw.out, ← Hp.out, ← Hpt.out, ← HA.out, ← HP.out]
          rintro (h | h)
          · cases h
          · exact hbad h)
        by_cases h8 : v.size > 8
        · have e : Hid (nearOut s = (0, 3)) := Lib.hid (by
            unfold nearOut
            rw [if_neg h40, if_neg Hnb.out, if_pos (by rw [← Ht.out, ← Hw.out, ← Hv.out]; exact h8)])
          go_enter Tryz.func130, Tryz.ntmps130
          cases pt
          · go_wp2_with (first | (go_at_call 148; ((with_reducible refine (Hcp.out _).mono ?_); rintro e w' ⟨rfl, rfl⟩)) | (go_at_call 149; ((with_reducible refine (Hcut.out _ hG.out).mono ?_); rintro e w' ⟨rfl, nd, rfl⟩)) | (go_at_call 150; ((with_reducible refine (Hall1.out _).mono ?_); rintro e w1 ⟨rfl, hb⟩; have n0_ := Aside0.mk (below_step (by repeat (first | exact HB.out | apply below_alloc | apply pw_below_drewN | apply below_drew1)) hb); clear HB; have HB := n0_; clear n0_ hb)) | (go_at_call 150; ((with_reducible refine (Hall2.out _).mono ?_); rintro e w1 ⟨rfl, hb⟩; have n0_ := Aside0.mk (below_step (by repeat (first | exact HB.out | apply below_alloc | apply pw_below_drewN | apply below_drew1)) hb); clear HB; have HB := n0_; clear n0_ hb)) | (go_at_call 151; ((with_reducible refine (Hbare.out _).mono ?_); rintro e w1 ⟨rfl, rfl⟩)))
            go_ret2
            exact ⟨by rw [e.out]; rfl, HB.out⟩
          · obtain rfl : P = true := by cases P <;> simp_all
            go_wp2_with (first | (go_at_call 148; ((with_reducible refine (Hcp.out _).mono ?_); rintro e w' ⟨rfl, rfl⟩)) | (go_at_call 149; ((with_reducible refine (Hcut.out _ hG.out).mono ?_); rintro e w' ⟨rfl, nd, rfl⟩)) | (go_at_call 150; ((with_reducible refine (Hall1.out _).mono ?_); rintro e w1 ⟨rfl, hb⟩; have n0_ := Aside0.mk (below_step (by repeat (first | exact HB.out | apply below_alloc | apply pw_below_drewN | apply below_drew1)) hb); clear HB; have HB := n0_; clear n0_ hb)) | (go_at_call 150; ((with_reducible refine (Hall2.out _).mono ?_); rintro e w1 ⟨rfl, hb⟩; have n0_ := Aside0.mk (below_step (by repeat (first | exact HB.out | apply below_alloc | apply pw_below_drewN | apply below_drew1)) hb); clear HB; have HB := n0_; clear n0_ hb)) | (go_at_call 151; ((with_reducible refine (Hbare.out _).mono ?_); rintro e w1 ⟨rfl, rfl⟩)))
            go_ret2
            exact ⟨by rw [e.out]; rfl, HB.out⟩
        · have h8' : v.size ≤ 8 := by omega
          have Hvd : Hid (∀ j (hj : j < v.size), isDig (v[j]'hj) = true) := Lib.hid (by rw [Hv.out]; exact bare_digits wh HA.out.symm)
          have Hpd : Hid (pa.data.toList.all isDig = true) := Lib.hid (by
            cases hpt : pt with
            | false => rw [Hp.out, partOf_none t (by rw [← Hpt.out, hpt])]; rfl
            | true =>
              have hPP : P = true := by cases hq : P <;> simp_all
              have := HP.out; rw [hPP] at this; exact allDig_all pa this.symm)
          have hps : pa.size ≤ 40 := by rw [Hp.out]; exact Nat.le_trans (partOf_size t) hts
          clear h8
          have HF : Hid (nearOut s = nearEnd below (lenOf below v pa)) := Lib.hid (by
            unfold nearOut
            rw [if_neg h40, if_neg Hnb.out, if_neg (by rw [← Ht.out, ← Hw.out, ← Hv.out]; omega), ← Hb.out, ← Ht.out, ← Hw.out, ← Hv.out, ← Hp.out])
          have hPt : pt = false ∨ (pt = true ∧ P = true) := by cases pt <;> cases P <;> simp_all
          clear hbad
          go_enter Tryz.func130, Tryz.ntmps130
          rcases hPt with rfl | ⟨rfl, rfl⟩
          · go_wp2_with (first | (go_at_call 148; ((with_reducible refine (Hcp.out _).mono ?_); rintro e w' ⟨rfl, rfl⟩)) | (go_at_call 149; ((with_reducible refine (Hcut.out _ hG.out).mono ?_); rintro e w' ⟨rfl, nd, rfl⟩)) | (go_at_call 150; ((with_reducible refine (Hall1.out _).mono ?_); rintro e w1 ⟨rfl, hb⟩; have n0_ := Aside0.mk (below_step (by repeat (first | exact HB.out | apply below_alloc | apply pw_below_drewN | apply below_drew1)) hb); clear HB; have HB := n0_; clear n0_ hb)) | (go_at_call 150; ((with_reducible refine (Hall2.out _).mono ?_); rintro e w1 ⟨rfl, hb⟩; have n0_ := Aside0.mk (below_step (by repeat (first | exact HB.out | apply below_alloc | apply pw_below_drewN | apply below_drew1)) hb); clear HB; have HB := n0_; clear n0_ hb)) | (go_at_call 151; ((with_reducible refine (Hbare.out _).mono ?_); rintro e w1 ⟨rfl, rfl⟩)))
            have HW := Aside0.mk HB.out.size
            go_loopw [9] (fun n wr => ∃ pos : Nat, pos ≤ v.size ∧ n = .int .i64 ((decVal (v.data.toList.take pos) : Nat) : Int) ∧ wr.heap[w1.heap.size]? = some (.stringIter v pos) ∧ Aside0 (Below w.heap.size w wr)) (fun _ wr => v.size - wr.iterPos w1.heap.size)
            case atStart =>
              refine ⟨0, by omega, rfl, ?_, ⟨HB.out.alloc HB.out.size _⟩⟩
              have := World.iter_heap w1 v 0
              simpa using this
            case round =>
              clear HB
              obtain ⟨pos, hps2, rfl, hit, HB⟩ := hrel
              have hsz : w1.heap.size < wr.heap.size := (Array.getElem?_eq_some_iff.1 hit).1
              have hnb := decVal_bound (v.data.toList.take pos) (fun c hc => by
                obtain ⟨j, hj, rfl⟩ := List.getElem_of_mem (List.mem_of_mem_take hc)
                exact Hvd.out j hj)
              have hn8 : decVal (v.data.toList.take pos) < 100000000 := Nat.lt_of_lt_of_le hnb (Nat.pow_le_pow_right (n := 10) (by omega) (Nat.le_trans (List.length_take_le _ _) (by omega : pos ≤ 8)))
              clear hnb
              obtain ⟨nn, Hn⟩ : ∃ nn, Hid (nn = decVal (v.data.toList.take pos)) := ⟨_, Lib.hid rfl⟩
              rw [← Hn.out] at hn8
              rw [← Hn.out]
              by_cases hp : pos < v.size
              · have hd := Hvd.out pos hp
                obtain ⟨c, Hc⟩ : ∃ c : Nat, Hid (c = (v[pos]'hp).toNat) := ⟨_, Lib.hid rfl⟩
                have hc3 : 48 ≤ c ∧ c ≤ 57 := by rw [Hc.out]; unfold isDig at hd; simpa using hd
                obtain ⟨hc1, hc2⟩ := hc3
                have hnx : ∀ ty, (Instr.next (.pointer (some ⟨w1.heap.size, 0, none⟩)) true ty).run Tryz.prog wr = .ok (.tuple #[.bool true, .int .i64 pos, .int .i32 c]) (wr.iterAt w1.heap.size v (pos + 1)) := fun ty => by
                  rw [Hc.out]; exact Lib.run_next_ascii_at wr w1.heap.size v pos ty hit hp (by rw [← Hc.out]; omega)
                have Hbw2 := Aside0.mk (Lib.below_iterAt HB.out (k := w1.heap.size) HW.out v (pos + 1))
                have hit2 := Lib.iterAt_heap wr w1.heap.size v pos (pos + 1) hit
                clear hd
                go_wp2
                go_roundw
                case rel => exact ⟨pos + 1, by omega, by
                  rw [decVal_snoc v pos hp, ← Hn.out, ← Hc.out]; go_num, hit2, Hbw2⟩
                case measure => simp only [World.iterPos, hit2, hit]; omega
              · have hnx : ∀ ty, (Instr.next (.pointer (some ⟨w1.heap.size, 0, none⟩)) true ty).run Tryz.prog wr = _ := fun ty => Lib.run_next_end_at wr w1.heap.size v pos ty hit hp
                have Hn2 : Hid (nn = decVal v.data.toList) := Lib.hid (by rw [Hn.out, List.take_of_length_le (by rw [data_length]; omega)])
                clear Hn
                obtain ⟨m, Hm⟩ : ∃ m, Hid (m = (dblOut pa).1) := ⟨_, Lib.hid rfl⟩
                obtain ⟨r, Hr⟩ : ∃ m, Hid (m = (dblOut pa).2) := ⟨_, Lib.hid rfl⟩
                have hmr := dblOut_bound pa Hpd.out
                rw [← Hm.out, ← Hr.out] at hmr
                obtain ⟨hm0, hm1, hr⟩ := hmr
                have Hdw : Hid (∀ w, Calls Tryz.prog 152 #[.string pa] w fun e w' => e = .returned (.tuple #[.int .i64 m, .int .i64 r]) ∧ Below w.heap.size w w') := Lib.hid fun w => by rw [Hm.out, Hr.out]; exact doubled_walk pa w (by omega) Hpd.out
                rcases hr with rfl | rfl | rfl
                · skip
                  have hL : Hid (nearOut s = nearEnd below ((nn : Int) * 65536 + m)) := Lib.hid (by rw [HF.out, len_at _ _ _ _ _ _ Hn2.out Hm.out Hr.out]; first | rw [len_low] | rw [len_up] | rw [len_half_f] | rw [len_half_t])
                  by_cases hin : (nn : Int) * 65536 + m ≤ 1099511627776
                  · cases below
                    · have e : Hid (nearOut s = ((nn : Int) * 65536 + m, 0)) := Lib.hid (by rw [hL.out]; first | rw [near_in_f _ hin] | rw [near_in_t _ hin])
                      go_wp2_with (first | (go_at_call 152; ((with_reducible refine (Hdw.out _).mono ?_); rintro e w2 ⟨rfl, hb⟩; have n0_ := Aside0.mk (below_step (by repeat (first | exact HB.out | apply below_alloc | apply pw_below_drewN | apply below_drew1)) hb); clear HB; have HB := n0_; clear n0_ hb)) | (go_at_call 62; ((with_reducible refine (in_yes _ _ (by omega) hin).mono ?_); rintro e w2 ⟨rfl, rfl⟩)))
                      go_ret2
                      exact ⟨by rw [e.out]; rfl, HB.out⟩
                    · have e : Hid (nearOut s = (-((nn : Int) * 65536 + m), 0)) := Lib.hid (by rw [hL.out]; first | rw [near_in_f _ hin] | rw [near_in_t _ hin])
                      go_wp2_with (first | (go_at_call 152; ((with_reducible refine (Hdw.out _).mono ?_); rintro e w2 ⟨rfl, hb⟩; have n0_ := Aside0.mk (below_step (by repeat (first | exact HB.out | apply below_alloc | apply pw_below_drewN | apply below_drew1)) hb); clear HB; have HB := n0_; clear n0_ hb)) | (go_at_call 62; ((with_reducible refine (in_yes _ _ (by omega) hin).mono ?_); rintro e w2 ⟨rfl, rfl⟩)))
                      go_ret2
                      exact ⟨by rw [e.out]; rfl, HB.out⟩
                  · have e : Hid (nearOut s = (0, 3)) := Lib.hid (by rw [hL.out, near_out _ _ hin])
                    go_wp2_with (first | (go_at_call 152; ((with_reducible refine (Hdw.out _).mono ?_); rintro e w2 ⟨rfl, hb⟩; have n0_ := Aside0.mk (below_step (by repeat (first | exact HB.out | apply below_alloc | apply pw_below_drewN | apply below_drew1)) hb); clear HB; have HB := n0_; clear n0_ hb)) | (go_at_call 62; ((with_reducible refine (in_no _ _ (by omega)).mono ?_); rintro e w2 ⟨rfl, rfl⟩)))
                    go_ret2
                    exact ⟨by rw [e.out]; rfl, HB.out⟩
                · skip
                  cases below
                  · skip
                    have hL : Hid (nearOut s = nearEnd false ((nn : Int) * 65536 + m + 1)) := Lib.hid (by rw [HF.out, len_at _ _ _ _ _ _ Hn2.out Hm.out Hr.out]; first | rw [len_low] | rw [len_up] | rw [len_half_f] | rw [len_half_t])
                    by_cases hin : (nn : Int) * 65536 + m + 1 ≤ 1099511627776
                    · have e : Hid (nearOut s = ((nn : Int) * 65536 + m + 1, 0)) := Lib.hid (by rw [hL.out]; first | rw [near_in_f _ hin] | rw [near_in_t _ hin])
                      go_wp2_with (first | (go_at_call 152; ((with_reducible refine (Hdw.out _).mono ?_); rintro e w2 ⟨rfl, hb⟩; have n0_ := Aside0.mk (below_step (by repeat (first | exact HB.out | apply below_alloc | apply pw_below_drewN | apply below_drew1)) hb); clear HB; have HB := n0_; clear n0_ hb)) | (go_at_call 62; ((with_reducible refine (in_yes _ _ (by omega) hin).mono ?_); rintro e w2 ⟨rfl, rfl⟩)))
                      go_ret2
                      exact ⟨by rw [e.out]; rfl, HB.out⟩
                    · have e : Hid (nearOut s = (0, 3)) := Lib.hid (by rw [hL.out, near_out _ _ hin])
                      go_wp2_with (first | (go_at_call 152; ((with_reducible refine (Hdw.out _).mono ?_); rintro e w2 ⟨rfl, hb⟩; have n0_ := Aside0.mk (below_step (by repeat (first | exact HB.out | apply below_alloc | apply pw_below_drewN | apply below_drew1)) hb); clear HB; have HB := n0_; clear n0_ hb)) | (go_at_call 62; ((with_reducible refine (in_no _ _ (by omega)).mono ?_); rintro e w2 ⟨rfl, rfl⟩)))
                      go_ret2
                      exact ⟨by rw [e.out]; rfl, HB.out⟩
                  · skip
                    have hL : Hid (nearOut s = nearEnd true ((nn : Int) * 65536 + m)) := Lib.hid (by rw [HF.out, len_at _ _ _ _ _ _ Hn2.out Hm.out Hr.out]; first | rw [len_low] | rw [len_up] | rw [len_half_f] | rw [len_half_t])
                    by_cases hin : (nn : Int) * 65536 + m ≤ 1099511627776
                    · have e : Hid (nearOut s = (-((nn : Int) * 65536 + m), 0)) := Lib.hid (by rw [hL.out]; first | rw [near_in_f _ hin] | rw [near_in_t _ hin])
                      go_wp2_with (first | (go_at_call 152; ((with_reducible refine (Hdw.out _).mono ?_); rintro e w2 ⟨rfl, hb⟩; have n0_ := Aside0.mk (below_step (by repeat (first | exact HB.out | apply below_alloc | apply pw_below_drewN | apply below_drew1)) hb); clear HB; have HB := n0_; clear n0_ hb)) | (go_at_call 62; ((with_reducible refine (in_yes _ _ (by omega) hin).mono ?_); rintro e w2 ⟨rfl, rfl⟩)))
                      go_ret2
                      exact ⟨by rw [e.out]; rfl, HB.out⟩
                    · have e : Hid (nearOut s = (0, 3)) := Lib.hid (by rw [hL.out, near_out _ _ hin])
                      go_wp2_with (first | (go_at_call 152; ((with_reducible refine (Hdw.out _).mono ?_); rintro e w2 ⟨rfl, hb⟩; have n0_ := Aside0.mk (below_step (by repeat (first | exact HB.out | apply below_alloc | apply pw_below_drewN | apply below_drew1)) hb); clear HB; have HB := n0_; clear n0_ hb)) | (go_at_call 62; ((with_reducible refine (in_no _ _ (by omega)).mono ?_); rintro e w2 ⟨rfl, rfl⟩)))
                      go_ret2
                      exact ⟨by rw [e.out]; rfl, HB.out⟩
                · skip
                  have hL : Hid (nearOut s = nearEnd below ((nn : Int) * 65536 + m + 1)) := Lib.hid (by rw [HF.out, len_at _ _ _ _ _ _ Hn2.out Hm.out Hr.out]; first | rw [len_low] | rw [len_up] | rw [len_half_f] | rw [len_half_t])
                  by_cases hin : (nn : Int) * 65536 + m + 1 ≤ 1099511627776
                  · cases below
                    · have e : Hid (nearOut s = ((nn : Int) * 65536 + m + 1, 0)) := Lib.hid (by rw [hL.out]; first | rw [near_in_f _ hin] | rw [near_in_t _ hin])
                      go_wp2_with (first | (go_at_call 152; ((with_reducible refine (Hdw.out _).mono ?_); rintro e w2 ⟨rfl, hb⟩; have n0_ := Aside0.mk (below_step (by repeat (first | exact HB.out | apply below_alloc | apply pw_below_drewN | apply below_drew1)) hb); clear HB; have HB := n0_; clear n0_ hb)) | (go_at_call 62; ((with_reducible refine (in_yes _ _ (by omega) hin).mono ?_); rintro e w2 ⟨rfl, rfl⟩)))
                      go_ret2
                      exact ⟨by rw [e.out]; rfl, HB.out⟩
                    · have e : Hid (nearOut s = (-((nn : Int) * 65536 + m + 1), 0)) := Lib.hid (by rw [hL.out]; first | rw [near_in_f _ hin] | rw [near_in_t _ hin])
                      go_wp2_with (first | (go_at_call 152; ((with_reducible refine (Hdw.out _).mono ?_); rintro e w2 ⟨rfl, hb⟩; have n0_ := Aside0.mk (below_step (by repeat (first | exact HB.out | apply below_alloc | apply pw_below_drewN | apply below_drew1)) hb); clear HB; have HB := n0_; clear n0_ hb)) | (go_at_call 62; ((with_reducible refine (in_yes _ _ (by omega) hin).mono ?_); rintro e w2 ⟨rfl, rfl⟩)))
                      go_ret2
                      exact ⟨by rw [e.out]; rfl, HB.out⟩
                  · have e : Hid (nearOut s = (0, 3)) := Lib.hid (by rw [hL.out, near_out _ _ hin])
                    go_wp2_with (first | (go_at_call 152; ((with_reducible refine (Hdw.out _).mono ?_); rintro e w2 ⟨rfl, hb⟩; have n0_ := Aside0.mk (below_step (by repeat (first | exact HB.out | apply below_alloc | apply pw_below_drewN | apply below_drew1)) hb); clear HB; have HB := n0_; clear n0_ hb)) | (go_at_call 62; ((with_reducible refine (in_no _ _ (by omega)).mono ?_); rintro e w2 ⟨rfl, rfl⟩)))
                    go_ret2
                    exact ⟨by rw [e.out]; rfl, HB.out⟩
          · go_wp2_with (first | (go_at_call 148; ((with_reducible refine (Hcp.out _).mono ?_); rintro e w' ⟨rfl, rfl⟩)) | (go_at_call 149; ((with_reducible refine (Hcut.out _ hG.out).mono ?_); rintro e w' ⟨rfl, nd, rfl⟩)) | (go_at_call 150; ((with_reducible refine (Hall1.out _).mono ?_); rintro e w1 ⟨rfl, hb⟩; have n0_ := Aside0.mk (below_step (by repeat (first | exact HB.out | apply below_alloc | apply pw_below_drewN | apply below_drew1)) hb); clear HB; have HB := n0_; clear n0_ hb)) | (go_at_call 150; ((with_reducible refine (Hall2.out _).mono ?_); rintro e w1 ⟨rfl, hb⟩; have n0_ := Aside0.mk (below_step (by repeat (first | exact HB.out | apply below_alloc | apply pw_below_drewN | apply below_drew1)) hb); clear HB; have HB := n0_; clear n0_ hb)) | (go_at_call 151; ((with_reducible refine (Hbare.out _).mono ?_); rintro e w1 ⟨rfl, rfl⟩)))
            have HW := Aside0.mk HB.out.size
            go_loopw [9] (fun n wr => ∃ pos : Nat, pos ≤ v.size ∧ n = .int .i64 ((decVal (v.data.toList.take pos) : Nat) : Int) ∧ wr.heap[w1.heap.size]? = some (.stringIter v pos) ∧ Aside0 (Below w.heap.size w wr)) (fun _ wr => v.size - wr.iterPos w1.heap.size)
            case atStart =>
              refine ⟨0, by omega, rfl, ?_, ⟨HB.out.alloc HB.out.size _⟩⟩
              have := World.iter_heap w1 v 0
              simpa using this
            case round =>
              clear HB
              obtain ⟨pos, hps2, rfl, hit, HB⟩ := hrel
              have hsz : w1.heap.size < wr.heap.size := (Array.getElem?_eq_some_iff.1 hit).1
              have hnb := decVal_bound (v.data.toList.take pos) (fun c hc => by
                obtain ⟨j, hj, rfl⟩ := List.getElem_of_mem (List.mem_of_mem_take hc)
                exact Hvd.out j hj)
              have hn8 : decVal (v.data.toList.take pos) < 100000000 := Nat.lt_of_lt_of_le hnb (Nat.pow_le_pow_right (n := 10) (by omega) (Nat.le_trans (List.length_take_le _ _) (by omega : pos ≤ 8)))
              clear hnb
              obtain ⟨nn, Hn⟩ : ∃ nn, Hid (nn = decVal (v.data.toList.take pos)) := ⟨_, Lib.hid rfl⟩
              rw [← Hn.out] at hn8
              rw [← Hn.out]
              by_cases hp : pos < v.size
              · have hd := Hvd.out pos hp
                obtain ⟨c, Hc⟩ : ∃ c : Nat, Hid (c = (v[pos]'hp).toNat) := ⟨_, Lib.hid rfl⟩
                have hc3 : 48 ≤ c ∧ c ≤ 57 := by rw [Hc.out]; unfold isDig at hd; simpa using hd
                obtain ⟨hc1, hc2⟩ := hc3
                have hnx : ∀ ty, (Instr.next (.pointer (some ⟨w1.heap.size, 0, none⟩)) true ty).run Tryz.prog wr = .ok (.tuple #[.bool true, .int .i64 pos, .int .i32 c]) (wr.iterAt w1.heap.size v (pos + 1)) := fun ty => by
                  rw [Hc.out]; exact Lib.run_next_ascii_at wr w1.heap.size v pos ty hit hp (by rw [← Hc.out]; omega)
                have Hbw2 := Aside0.mk (Lib.below_iterAt HB.out (k := w1.heap.size) HW.out v (pos + 1))
                have hit2 := Lib.iterAt_heap wr w1.heap.size v pos (pos + 1) hit
                clear hd
                go_wp2
                go_roundw
                case rel => exact ⟨pos + 1, by omega, by
                  rw [decVal_snoc v pos hp, ← Hn.out, ← Hc.out]; go_num, hit2, Hbw2⟩
                case measure => simp only [World.iterPos, hit2, hit]; omega
              · have hnx : ∀ ty, (Instr.next (.pointer (some ⟨w1.heap.size, 0, none⟩)) true ty).run Tryz.prog wr = _ := fun ty => Lib.run_next_end_at wr w1.heap.size v pos ty hit hp
                have Hn2 : Hid (nn = decVal v.data.toList) := Lib.hid (by rw [Hn.out, List.take_of_length_le (by rw [data_length]; omega)])
                clear Hn
                obtain ⟨m, Hm⟩ : ∃ m, Hid (m = (dblOut pa).1) := ⟨_, Lib.hid rfl⟩
                obtain ⟨r, Hr⟩ : ∃ m, Hid (m = (dblOut pa).2) := ⟨_, Lib.hid rfl⟩
                have hmr := dblOut_bound pa Hpd.out
                rw [← Hm.out, ← Hr.out] at hmr
                obtain ⟨hm0, hm1, hr⟩ := hmr
                have Hdw : Hid (∀ w, Calls Tryz.prog 152 #[.string pa] w fun e w' => e = .returned (.tuple #[.int .i64 m, .int .i64 r]) ∧ Below w.heap.size w w') := Lib.hid fun w => by rw [Hm.out, Hr.out]; exact doubled_walk pa w (by omega) Hpd.out
                rcases hr with rfl | rfl | rfl
                · skip
                  have hL : Hid (nearOut s = nearEnd below ((nn : Int) * 65536 + m)) := Lib.hid (by rw [HF.out, len_at _ _ _ _ _ _ Hn2.out Hm.out Hr.out]; first | rw [len_low] | rw [len_up] | rw [len_half_f] | rw [len_half_t])
                  by_cases hin : (nn : Int) * 65536 + m ≤ 1099511627776
                  · cases below
                    · have e : Hid (nearOut s = ((nn : Int) * 65536 + m, 0)) := Lib.hid (by rw [hL.out]; first | rw [near_in_f _ hin] | rw [near_in_t _ hin])
                      go_wp2_with (first | (go_at_call 152; ((with_reducible refine (Hdw.out _).mono ?_); rintro e w2 ⟨rfl, hb⟩; have n0_ := Aside0.mk (below_step (by repeat (first | exact HB.out | apply below_alloc | apply pw_below_drewN | apply below_drew1)) hb); clear HB; have HB := n0_; clear n0_ hb)) | (go_at_call 62; ((with_reducible refine (in_yes _ _ (by omega) hin).mono ?_); rintro e w2 ⟨rfl, rfl⟩)))
                      go_ret2
                      exact ⟨by rw [e.out]; rfl, HB.out⟩
                    · have e : Hid (nearOut s = (-((nn : Int) * 65536 + m), 0)) := Lib.hid (by rw [hL.out]; first | rw [near_in_f _ hin] | rw [near_in_t _ hin])
                      go_wp2_with (first | (go_at_call 152; ((with_reducible refine (Hdw.out _).mono ?_); rintro e w2 ⟨rfl, hb⟩; have n0_ := Aside0.mk (below_step (by repeat (first | exact HB.out | apply below_alloc | apply pw_below_drewN | apply below_drew1)) hb); clear HB; have HB := n0_; clear n0_ hb)) | (go_at_call 62; ((with_reducible refine (in_yes _ _ (by omega) hin).mono ?_); rintro e w2 ⟨rfl, rfl⟩)))
                      go_ret2
                      exact ⟨by rw [e.out]; rfl, HB.out⟩
                  · have e : Hid (nearOut s = (0, 3)) := Lib.hid (by rw [hL.out, near_out _ _ hin])
                    go_wp2_with (first | (go_at_call 152; ((with_reducible refine (Hdw.out _).mono ?_); rintro e w2 ⟨rfl, hb⟩; have n0_ := Aside0.mk (below_step (by repeat (first | exact HB.out | apply below_alloc | apply pw_below_drewN | apply below_drew1)) hb); clear HB; have HB := n0_; clear n0_ hb)) | (go_at_call 62; ((with_reducible refine (in_no _ _ (by omega)).mono ?_); rintro e w2 ⟨rfl, rfl⟩)))
                    go_ret2
                    exact ⟨by rw [e.out]; rfl, HB.out⟩
                · skip
                  cases below
                  · skip
                    have hL : Hid (nearOut s = nearEnd false ((nn : Int) * 65536 + m + 1)) := Lib.hid (by rw [HF.out, len_at _ _ _ _ _ _ Hn2.out Hm.out Hr.out]; first | rw [len_low] | rw [len_up] | rw [len_half_f] | rw [len_half_t])
                    by_cases hin : (nn : Int) * 65536 + m + 1 ≤ 1099511627776
                    · have e : Hid (nearOut s = ((nn : Int) * 65536 + m + 1, 0)) := Lib.hid (by rw [hL.out]; first | rw [near_in_f _ hin] | rw [near_in_t _ hin])
                      go_wp2_with (first | (go_at_call 152; ((with_reducible refine (Hdw.out _).mono ?_); rintro e w2 ⟨rfl, hb⟩; have n0_ := Aside0.mk (below_step (by repeat (first | exact HB.out | apply below_alloc | apply pw_below_drewN | apply below_drew1)) hb); clear HB; have HB := n0_; clear n0_ hb)) | (go_at_call 62; ((with_reducible refine (in_yes _ _ (by omega) hin).mono ?_); rintro e w2 ⟨rfl, rfl⟩)))
                      go_ret2
                      exact ⟨by rw [e.out]; rfl, HB.out⟩
                    · have e : Hid (nearOut s = (0, 3)) := Lib.hid (by rw [hL.out, near_out _ _ hin])
                      go_wp2_with (first | (go_at_call 152; ((with_reducible refine (Hdw.out _).mono ?_); rintro e w2 ⟨rfl, hb⟩; have n0_ := Aside0.mk (below_step (by repeat (first | exact HB.out | apply below_alloc | apply pw_below_drewN | apply below_drew1)) hb); clear HB; have HB := n0_; clear n0_ hb)) | (go_at_call 62; ((with_reducible refine (in_no _ _ (by omega)).mono ?_); rintro e w2 ⟨rfl, rfl⟩)))
                      go_ret2
                      exact ⟨by rw [e.out]; rfl, HB.out⟩
                  · skip
                    have hL : Hid (nearOut s = nearEnd true ((nn : Int) * 65536 + m)) := Lib.hid (by rw [HF.out, len_at _ _ _ _ _ _ Hn2.out Hm.out Hr.out]; first | rw [len_low] | rw [len_up] | rw [len_half_f] | rw [len_half_t])
                    by_cases hin : (nn : Int) * 65536 + m ≤ 1099511627776
                    · have e : Hid (nearOut s = (-((nn : Int) * 65536 + m), 0)) := Lib.hid (by rw [hL.out]; first | rw [near_in_f _ hin] | rw [near_in_t _ hin])
                      go_wp2_with (first | (go_at_call 152; ((with_reducible refine (Hdw.out _).mono ?_); rintro e w2 ⟨rfl, hb⟩; have n0_ := Aside0.mk (below_step (by repeat (first | exact HB.out | apply below_alloc | apply pw_below_drewN | apply below_drew1)) hb); clear HB; have HB := n0_; clear n0_ hb)) | (go_at_call 62; ((with_reducible refine (in_yes _ _ (by omega) hin).mono ?_); rintro e w2 ⟨rfl, rfl⟩)))
                      go_ret2
                      exact ⟨by rw [e.out]; rfl, HB.out⟩
                    · have e : Hid (nearOut s = (0, 3)) := Lib.hid (by rw [hL.out, near_out _ _ hin])
                      go_wp2_with (first | (go_at_call 152; ((with_reducible refine (Hdw.out _).mono ?_); rintro e w2 ⟨rfl, hb⟩; have n0_ := Aside0.mk (below_step (by repeat (first | exact HB.out | apply below_alloc | apply pw_below_drewN | apply below_drew1)) hb); clear HB; have HB := n0_; clear n0_ hb)) | (go_at_call 62; ((with_reducible refine (in_no _ _ (by omega)).mono ?_); rintro e w2 ⟨rfl, rfl⟩)))
                      go_ret2
                      exact ⟨by rw [e.out]; rfl, HB.out⟩
                · skip
                  have hL : Hid (nearOut s = nearEnd below ((nn : Int) * 65536 + m + 1)) := Lib.hid (by rw [HF.out, len_at _ _ _ _ _ _ Hn2.out Hm.out Hr.out]; first | rw [len_low] | rw [len_up] | rw [len_half_f] | rw [len_half_t])
                  by_cases hin : (nn : Int) * 65536 + m + 1 ≤ 1099511627776
                  · cases below
                    · have e : Hid (nearOut s = ((nn : Int) * 65536 + m + 1, 0)) := Lib.hid (by rw [hL.out]; first | rw [near_in_f _ hin] | rw [near_in_t _ hin])
                      go_wp2_with (first | (go_at_call 152; ((with_reducible refine (Hdw.out _).mono ?_); rintro e w2 ⟨rfl, hb⟩; have n0_ := Aside0.mk (below_step (by repeat (first | exact HB.out | apply below_alloc | apply pw_below_drewN | apply below_drew1)) hb); clear HB; have HB := n0_; clear n0_ hb)) | (go_at_call 62; ((with_reducible refine (in_yes _ _ (by omega) hin).mono ?_); rintro e w2 ⟨rfl, rfl⟩)))
                      go_ret2
                      exact ⟨by rw [e.out]; rfl, HB.out⟩
                    · have e : Hid (nearOut s = (-((nn : Int) * 65536 + m + 1), 0)) := Lib.hid (by rw [hL.out]; first | rw [near_in_f _ hin] | rw [near_in_t _ hin])
                      go_wp2_with (first | (go_at_call 152; ((with_reducible refine (Hdw.out _).mono ?_); rintro e w2 ⟨rfl, hb⟩; have n0_ := Aside0.mk (below_step (by repeat (first | exact HB.out | apply below_alloc | apply pw_below_drewN | apply below_drew1)) hb); clear HB; have HB := n0_; clear n0_ hb)) | (go_at_call 62; ((with_reducible refine (in_yes _ _ (by omega) hin).mono ?_); rintro e w2 ⟨rfl, rfl⟩)))
                      go_ret2
                      exact ⟨by rw [e.out]; rfl, HB.out⟩
                  · have e : Hid (nearOut s = (0, 3)) := Lib.hid (by rw [hL.out, near_out _ _ hin])
                    go_wp2_with (first | (go_at_call 152; ((with_reducible refine (Hdw.out _).mono ?_); rintro e w2 ⟨rfl, hb⟩; have n0_ := Aside0.mk (below_step (by repeat (first | exact HB.out | apply below_alloc | apply pw_below_drewN | apply below_drew1)) hb); clear HB; have HB := n0_; clear n0_ hb)) | (go_at_call 62; ((with_reducible refine (in_no _ _ (by omega)).mono ?_); rintro e w2 ⟨rfl, rfl⟩)))
                    go_ret2
                    exact ⟨by rw [e.out]; rfl, HB.out⟩
end Go.Proofs.YtckdgcpomkefpaaGreatDoor.Dg
end
section
namespace Go.Proofs.YtckdgcpomkefpaaGreatDoor.Dg
open Go.RowKit
set_option linter.unusedVariables false
set_option linter.unusedSimpArgs false
def lead (l : List UInt8) : Nat := (l.takeWhile isDig).length
theorem lead_cons (c : UInt8) (l : List UInt8) : lead (c :: l) = if isDig c then lead l + 1 else 0 := by
  unfold lead; rw [List.takeWhile_cons]; split <;> simp
theorem lead_le (l : List UInt8) : lead l ≤ l.length := (List.takeWhile_sublist _).length_le
theorem lead_all : ∀ l : List UInt8, l.all isDig = true → lead l = l.length
  | [], _ => rfl
  | c :: l, h => by
    rw [List.all_cons, Bool.and_eq_true] at h
    rw [lead_cons, if_pos h.1, lead_all l h.2]; rfl
theorem lead_append (l r : List UInt8) (h : l.all isDig = true) : lead (l ++ r) = l.length + lead r := by
  induction l with
  | nil => simp
  | cons c l ih =>
    rw [List.all_cons, Bool.and_eq_true] at h
    rw [List.cons_append, lead_cons, if_pos h.1, ih h.2, List.length_cons]; omega
theorem lead_stop : ∀ l : List UInt8, l.all isDig = false → lead l < l.length ∧ isDig (l.getD (lead l) 0) = false ∧ l.getD (lead l) 0 ∈ l
  | [], h => by simp at h
  | c :: l, h => by
    rw [lead_cons]
    by_cases hc : isDig c = true
    · rw [if_pos hc]
      rw [List.all_cons, hc, Bool.true_and] at h
      obtain ⟨h1, h2, h3⟩ := lead_stop l h
      refine ⟨by simp; omega, by simpa using h2, ?_⟩
      rw [List.getD_cons_succ]
      exact List.mem_cons_of_mem _ h3
    · rw [if_neg hc]
      exact ⟨by simp, by simpa using hc, by simp⟩
theorem lead_append_stop (l r : List UInt8) (h : l.all isDig = false) : lead (l ++ r) = lead l ∧ (l ++ r).getD (lead l) 0 = l.getD (lead l) 0 := by
  induction l with
  | nil => simp at h
  | cons c l ih =>
    rw [List.cons_append, lead_cons, lead_cons]
    by_cases hc : isDig c = true
    · rw [if_pos hc, if_pos hc]
      rw [List.all_cons, hc, Bool.true_and] at h
      obtain ⟨h1, h2⟩ := ih h
      exact ⟨by rw [h1], by rw [List.getD_cons_succ, List.getD_cons_succ]; exact h2⟩
    · rw [if_neg hc, if_neg hc]; simp
def formT (T : List UInt8) : Option (Nat × Nat) :=
  if lead T = 0 then none
  else if lead T = T.length then some (lead T, lead T)
  else if T.getD (lead T) 0 = 46 then
    if lead (T.drop (lead T + 1)) = 0 then none
    else if lead T + 1 + lead (T.drop (lead T + 1)) = T.length then some (lead T, lead T + 1) else none
  else none
theorem index_one : ∀ T : List UInt8, (46 ∉ T → Lib.index T [46] = -1) ∧ (∀ A B, T = A ++ 46 :: B → 46 ∉ A → Lib.index T [46] = A.length)
  | [] => ⟨fun _ => rfl, fun A B h _ => by simp at h⟩
  | c :: T => by
    obtain ⟨h1, h2⟩ := index_one T
    refine ⟨fun h => ?_, fun A B h hA => ?_⟩
    · have hc : ¬ c = 46 := fun e => h (by rw [e]; exact List.mem_cons_self)
      have hp : [46].isPrefixOf (c :: T) = false := by simp [List.isPrefixOf]; exact fun e => hc e.symm
      rw [Lib.index, hp, h1 (fun hm => h (List.mem_cons_of_mem _ hm))]; rfl
    · cases A with
      | nil =>
        simp only [List.nil_append, List.cons.injEq] at h
        rw [h.1]
        simp [Lib.index, List.isPrefixOf]
      | cons a A =>
        simp only [List.cons_append, List.cons.injEq] at h
        have hc : ¬ c = 46 := fun e => hA (by rw [← h.1, e]; exact List.mem_cons_self)
        have hp : [46].isPrefixOf (c :: T) = false := by simp [List.isPrefixOf]; exact fun e => hc e.symm
        have h3 := h2 A B h.2 (fun hm => hA (List.mem_cons_of_mem _ hm))
        rw [Lib.index, hp, h3]
        have h4 : (((A.length : Int) == -1) : Bool) = false := by
          rw [beq_eq_false_iff_ne]; omega
        simp [h4]
theorem split_at (T : List UInt8) : 46 ∉ T ∨ ∃ A B, T = A ++ 46 :: B ∧ 46 ∉ A := by
  induction T with
  | nil => left; simp
  | cons c T ih =>
    by_cases hc : c = 46
    · right; exact ⟨[], T, by rw [hc]; rfl, by simp⟩
    · rcases ih with h | ⟨A, B, h, hA⟩
      · left; simp only [List.mem_cons, not_or]; exact ⟨fun e => hc e.symm, h⟩
      · right; exact ⟨c :: A, B, by rw [h]; rfl, by simp only [List.mem_cons, not_or]; exact ⟨fun e => hc e.symm, hA⟩⟩
theorem cut_none (T : List UInt8) (h : 46 ∉ T) : Lib.cut T [46] = (T, [], false) := by
  unfold Lib.cut
  rw [(index_one T).1 h, if_neg (by omega)]
theorem cut_some (A B : List UInt8) (h : 46 ∉ A) : Lib.cut (A ++ 46 :: B) [46] = (A, B, true) := by
  unfold Lib.cut
  rw [(index_one _).2 A B rfl h, if_pos (by omega)]
  have e : (A ++ 46 :: B).drop (A.length + 1) = B := by
    rw [show A ++ 46 :: B = (A ++ [46]) ++ B from by simp, List.drop_left' (by simp)]
  simp [e]
theorem allDig_iff (s : ByteArray) : allDig s = true ↔ s.data.toList ≠ [] ∧ s.data.toList.all isDig = true := by
  unfold allDig
  rw [← data_length, Bool.and_eq_true]
  cases s.data.toList <;> simp
def goodT (t : ByteArray) : Prop := ¬ (allDig (wholeOf t) = false ∨ (pointed t = true ∧ allDig (partOf t) = false))
theorem wholeOf_data (t : ByteArray) : (wholeOf t).data.toList = (Lib.cut t.data.toList [46]).1 := rfl
theorem partOf_data (t : ByteArray) : (partOf t).data.toList = (Lib.cut t.data.toList [46]).2.1 := rfl
theorem not_allDig (s : ByteArray) (h : allDig s = false) : s.data.toList = [] ∨ s.data.toList.all isDig = false := by
  by_cases h1 : s.data.toList = []
  · exact .inl h1
  · right
    by_cases h2 : s.data.toList.all isDig = true
    · have := (allDig_iff s).2 ⟨h1, h2⟩
      rw [h] at this; cases this
    · simpa using h2
theorem isDig46 : isDig 46 = false := by decide
theorem formT_good (t : ByteArray) (h : goodT t) : formT t.data.toList = some ((wholeOf t).size, if pointed t then (wholeOf t).size + 1 else (wholeOf t).size) := by
  have hw : allDig (wholeOf t) = true := by
    cases h1 : allDig (wholeOf t)
    · exact absurd (.inl h1) h
    · rfl
  obtain ⟨w1, w2⟩ := (allDig_iff _).1 hw
  rw [wholeOf_data] at w1 w2
  rcases split_at t.data.toList with hn | ⟨A, B, e, hA⟩
  · have hc := cut_none _ hn
    have hp : pointed t = false := by unfold pointed; rw [hc]
    have hsz : (wholeOf t).size = t.data.toList.length := by unfold wholeOf; rw [hc]; rfl
    rw [hc] at w1 w2
    have hl := lead_all _ w2
    have hlen : t.data.toList.length ≠ 0 := by rwa [Ne, List.length_eq_zero_iff]
    unfold formT
    rw [hl, if_neg hlen, if_pos rfl, hsz, hp]; rfl
  · have hc := cut_some A B hA
    rw [← e] at hc
    have hp : pointed t = true := by unfold pointed; rw [hc]
    have hq : allDig (partOf t) = true := by
      cases h1 : allDig (partOf t)
      · exact absurd (.inr ⟨hp, h1⟩) h
      · rfl
    obtain ⟨q1, q2⟩ := (allDig_iff _).1 hq
    rw [partOf_data, hc] at q1 q2
    rw [hc] at w1 w2
    have hsz : (wholeOf t).size = A.length := by unfold wholeOf; rw [hc]; rfl
    have hl : lead t.data.toList = A.length := by rw [e, lead_append A _ w2, lead_cons, isDig46]; simp
    have hA0 : A.length ≠ 0 := by rwa [Ne, List.length_eq_zero_iff]
    have hB0 : B.length ≠ 0 := by rwa [Ne, List.length_eq_zero_iff]
    have hd : t.data.toList.drop (A.length + 1) = B := by
      rw [e, show A ++ 46 :: B = (A ++ [46]) ++ B from by simp, List.drop_left' (by simp)]
    have hg : t.data.toList.getD A.length 0 = 46 := by rw [e]; simp [List.getD]
    have hlen : t.data.toList.length = A.length + 1 + B.length := by rw [e]; simp; omega
    unfold formT
    rw [hl, hd, hg, hlen, lead_all B q2, if_neg hA0, if_neg (by omega), if_pos rfl, if_neg hB0, if_pos rfl, hsz, hp]; rfl
theorem formT_bad (t : ByteArray) (h : ¬ goodT t) : formT t.data.toList = none := by
  have h' : allDig (wholeOf t) = false ∨ (pointed t = true ∧ allDig (partOf t) = false) := Classical.not_not.1 h
  rcases split_at t.data.toList with hn | ⟨A, B, e, hA⟩
  · have hc := cut_none _ hn
    have hp : pointed t = false := by unfold pointed; rw [hc]
    rcases h' with h' | h'
    · have h2 := not_allDig _ h'
      rw [wholeOf_data, hc] at h2
      rcases h2 with h2 | h2
      · simp only at h2; rw [h2]; rfl
      · obtain ⟨s1, s2, s3⟩ := lead_stop _ h2
        unfold formT
        by_cases h0 : lead t.data.toList = 0
        · rw [if_pos h0]
        · rw [if_neg h0, if_neg (by simp only at s1; omega), if_neg (fun e46 => hn (by rw [← e46]; exact s3))]
    · rw [hp] at h'; cases h'.1
  · have hc := cut_some A B hA
    rw [← e] at hc
    have hlen : t.data.toList.length = A.length + 1 + B.length := by rw [e]; simp; omega
    by_cases hw : A ≠ [] ∧ A.all isDig = true
    · have hq : allDig (partOf t) = false := by
        rcases h' with h' | h'
        · have := (allDig_iff (wholeOf t)).2 (by rw [wholeOf_data, hc]; exact hw)
          rw [h'] at this; cases this
        · exact h'.2
      have h2 := not_allDig _ hq
      rw [partOf_data, hc] at h2
      have hl : lead t.data.toList = A.length := by rw [e, lead_append A _ hw.2, lead_cons, isDig46]; simp
      have hA0 : A.length ≠ 0 := by rw [Ne, List.length_eq_zero_iff]; exact hw.1
      have hd : t.data.toList.drop (A.length + 1) = B := by
        rw [e, show A ++ 46 :: B = (A ++ [46]) ++ B from by simp, List.drop_left' (by simp)]
      have hg : t.data.toList.getD A.length 0 = 46 := by rw [e]; simp [List.getD]
      unfold formT
      rw [hl, hd, hg, hlen, if_neg hA0, if_neg (by omega), if_pos rfl]
      rcases h2 with h2 | h2
      · simp only at h2; rw [h2]; rfl
      · obtain ⟨s1, _, _⟩ := lead_stop _ h2
        by_cases h0 : lead B = 0
        · rw [if_pos h0]
        · rw [if_neg h0, if_neg (by simp only at s1; omega)]
    · by_cases hA0 : A = []
      · have hl : lead t.data.toList = 0 := by rw [e, hA0, List.nil_append, lead_cons, isDig46]; rfl
        unfold formT
        rw [if_pos hl]
      · have hA1 : A.all isDig = false := by
          cases h1 : A.all isDig
          · rfl
          · exact absurd ⟨hA0, h1⟩ hw
        obtain ⟨s1, s2, s3⟩ := lead_stop _ hA1
        obtain ⟨t1, t2⟩ := lead_append_stop A (46 :: B) hA1
        rw [← e] at t1 t2
        unfold formT
        by_cases h0 : lead t.data.toList = 0
        · rw [if_pos h0]
        · rw [if_neg h0, if_neg (by omega), if_neg (fun e46 => hA (by rw [← e46, t1, t2]; exact s3))]
def halfOut : List Nat → Int
  | [] => -1
  | d :: l => if d < 5 then -1 else if 5 < d then 1 else if l.all (· == 0) then 0 else 1
theorem dbl_zero : ∀ l : List Nat, (∀ d ∈ l, d < 10) → (((dbl l).2 = 0 ∧ (dbl l).1.all (· == 0) = true) ↔ l.all (· == 0) = true)
  | [], _ => by simp [dbl]
  | a :: l, h => by
    have ih := dbl_zero l (fun d hd => h d (List.mem_cons_of_mem _ hd))
    have ha := h a List.mem_cons_self
    have hc := dbl_carry l (fun d hd => h d (List.mem_cons_of_mem _ hd))
    simp only [dbl, List.all_cons, Bool.and_eq_true, beq_iff_eq]
    constructor
    · rintro ⟨h1, h2, h3⟩
      exact ⟨by omega, ih.1 ⟨by omega, h3⟩⟩
    · rintro ⟨rfl, h2⟩
      obtain ⟨h3, h4⟩ := ih.2 h2
      exact ⟨by omega, by omega, h4⟩
theorem dbl_cons (d : Nat) (l : List Nat) : dbl (d :: l) = ((2 * d + (dbl l).2) % 10 :: (dbl l).1, (2 * d + (dbl l).2) / 10) := rfl
theorem halfOut_cons (d : Nat) (l : List Nat) : halfOut (d :: l) = if d < 5 then -1 else if 5 < d then 1 else if l.all (· == 0) then 0 else 1 := rfl
theorem half_dbl (L : List Nat) (h : ∀ d ∈ L, d < 10) : halfOut L = if (dbl L).2 = 0 then -1 else if (dbl L).1.all (· == 0) then 0 else 1 := by
  cases L with
  | nil => simp [halfOut, dbl]
  | cons d l =>
    have hd := h d List.mem_cons_self
    have hl : ∀ x ∈ l, x < 10 := fun x hx => h x (List.mem_cons_of_mem _ hx)
    have hc := dbl_carry l hl
    have hz := dbl_zero l hl
    rw [halfOut_cons, dbl_cons, List.all_cons]
    by_cases h1 : d < 5
    · rw [if_pos h1, if_pos (by omega)]
    · rw [if_neg h1, if_neg (by omega : ¬ (2 * d + (dbl l).2) / 10 = 0)]
      by_cases h2 : 5 < d
      · rw [if_pos h2]
        have e : ((2 * d + (dbl l).2) % 10 == 0) = false := by rw [beq_eq_false_iff_ne]; omega
        rw [e]; rfl
      · rw [if_neg h2]
        have e5 : d = 5 := by omega
        subst e5
        by_cases h3 : l.all (· == 0) = true
        · obtain ⟨z1, z2⟩ := hz.2 h3
          rw [if_pos h3, z1, z2]; rfl
        · rw [if_neg h3]
          rw [if_neg]
          intro h4
          rw [Bool.and_eq_true, beq_iff_eq] at h4
          exact h3 (hz.1 ⟨by omega, h4.2⟩)
theorem drounds_succ (k : Nat) (p : List Nat × Nat) : drounds (k + 1) p = ((dbl (drounds k p).1).1, 2 * (drounds k p).2 + (dbl (drounds k p).1).2) := rfl
theorem half_key (p : List Nat × Nat) (h : ∀ d ∈ p.1, d < 10) : ((((2 * p.2 + (dbl p.1).2) / 2 : Nat) : Int), if (2 * p.2 + (dbl p.1).2) % 2 = 0 then (-1 : Int) else if (dbl p.1).1.all (· == 0) then 0 else 1) = (((p.2 : Nat) : Int), halfOut p.1) := by
  have hc := dbl_carry _ h
  rw [half_dbl _ h]
  generalize (dbl p.1).2 = c at *
  have e1 : (2 * p.2 + c) / 2 = p.2 := by omega
  rw [e1]
  congr 1
  by_cases h0 : c = 0
  · rw [if_pos h0, if_pos (by omega)]
  · rw [if_neg h0, if_neg (by omega)]
theorem dblOut_half (s : ByteArray) (h : s.data.toList.all isDig = true) : dblOut s = ((((drounds 16 (digs s, 0)).2 : Nat) : Int), halfOut (drounds 16 (digs s, 0)).1) := by
  have hd := drounds_digits (digs s) 0 (digs_small s h) 16
  rw [dblOut_eq, drounds_succ 16]
  generalize drounds 16 (digs s, 0) = p at *
  exact half_key p hd
theorem signless_yes (s : ByteArray) (h : Lib.hasPrefix s.data.toList [45] = true) : (signless s).data.toList = s.data.toList.drop 1 := by
  show Lib.trimPrefix s.data.toList [45] = _
  unfold Lib.trimPrefix; rw [if_pos h]; rfl
theorem signless_no (s : ByteArray) (h : Lib.hasPrefix s.data.toList [45] = false) : (signless s).data.toList = s.data.toList.drop 0 := by
  show Lib.trimPrefix s.data.toList [45] = _
  unfold Lib.trimPrefix; rw [if_neg (by rw [h]; decide)]; rfl
theorem prefix_head (l : List UInt8) (h : 0 < l.length) : ((((l[0]'h).toNat : Int)) == 45) = Lib.hasPrefix l [45] := by
  cases l with
  | nil => simp at h
  | cons c l =>
    simp only [List.getElem_cons_zero, Lib.hasPrefix, List.isPrefixOf, Bool.and_true]
    rw [Bool.eq_iff_iff, beq_iff_eq, beq_iff_eq]
    constructor
    · intro e
      have : c.toNat = 45 := by omega
      exact (UInt8.toNat_inj.1 (by rw [this]; rfl)).symm
    · rintro e
      rw [← e]; rfl
theorem halfOut_three (L : List Nat) : halfOut L = -1 ∨ halfOut L = 0 ∨ halfOut L = 1 := by
  cases L with
  | nil => simp [halfOut]
  | cons d l =>
    rw [halfOut_cons]
    split
    · exact .inl rfl
    · split
      · exact .inr (.inr rfl)
      · split
        · exact .inr (.inl rfl)
        · exact .inr (.inr rfl)
def decFrom (acc : Nat) (l : List UInt8) : Nat := l.foldl (fun n c => 10 * n + (c.toNat - 48)) acc
theorem decFrom_cons (acc : Nat) (c : UInt8) (l : List UInt8) : decFrom acc (c :: l) = decFrom (10 * acc + (c.toNat - 48)) l := by
  unfold decFrom; rw [List.foldl_cons]
theorem decFrom_ge : ∀ (l : List UInt8) (acc : Nat), acc ≤ decFrom acc l
  | [], acc => Nat.le_refl _
  | c :: l, acc => Nat.le_trans (by omega) (decFrom_ge l (10 * acc + (c.toNat - 48)))
theorem decFrom_pow : ∀ (l : List UInt8) (acc : Nat), acc * 10 ^ l.length ≤ decFrom acc l
  | [], acc => by simp [decFrom]
  | c :: l, acc => by
    have h := decFrom_pow l (10 * acc + (c.toNat - 48))
    rw [decFrom_cons, List.length_cons, Nat.pow_succ]
    refine Nat.le_trans ?_ h
    have e : acc * (10 ^ l.length * 10) = (10 * acc) * 10 ^ l.length := by
      rw [Nat.mul_comm (10 ^ l.length) 10, ← Nat.mul_assoc, Nat.mul_comm acc 10]
    rw [e]
    exact Nat.mul_le_mul_right _ (by omega)
theorem decVal_bare : ∀ l : List UInt8, decVal (Lib.trimLeftB l 48) = decVal l
  | [] => rfl
  | c :: l => by
    unfold Lib.trimLeftB
    rw [List.dropWhile_cons]
    by_cases hc : c = 48
    · subst hc
      rw [if_pos (by simp)]
      have := decVal_bare l
      unfold Lib.trimLeftB at this
      rw [this]; rfl
    · rw [if_neg (by simpa using hc)]
theorem bare_head : ∀ (l : List UInt8) (c : UInt8) (m : List UInt8), Lib.trimLeftB l 48 = c :: m → c ≠ 48
  | [], c, m, h => by simp [Lib.trimLeftB] at h
  | a :: l, c, m, h => by
    unfold Lib.trimLeftB at h
    rw [List.dropWhile_cons] at h
    by_cases ha : a = 48
    · rw [if_pos (by simpa using ha)] at h
      exact bare_head l c m h
    · rw [if_neg (by simpa using ha)] at h
      rw [← (List.cons.inj h).1]; exact ha
theorem bare_big (l : List UInt8) (h : l.all isDig = true) (hb : (Lib.trimLeftB l 48).length > 8) : 100000000 ≤ decVal l := by
  rw [← decVal_bare]
  have hsub : ∀ x ∈ Lib.trimLeftB l 48, isDig x = true := fun x hx => List.all_eq_true.1 h x ((List.dropWhile_sublist _).subset hx)
  have hhd := bare_head l
  generalize Lib.trimLeftB l 48 = m at hb hsub hhd ⊢
  cases m with
  | nil => simp at hb
  | cons c m =>
    have hc : c ≠ 48 := hhd c m rfl
    have hcd : isDig c = true := hsub c List.mem_cons_self
    unfold isDig at hcd; simp at hcd
    have h48 : c.toNat ≠ 48 := fun e => hc (UInt8.toNat_inj.1 (by rw [e]; rfl))
    have h1 : decVal (c :: m) = decFrom (10 * 0 + (c.toNat - 48)) m := by rw [← decFrom_cons]; rfl
    have h2 := decFrom_pow m (10 * 0 + (c.toNat - 48))
    have h3 : 10 ^ 8 ≤ 10 ^ m.length := Nat.pow_le_pow_right (by omega) (by simp at hb; omega)
    rw [h1]
    refine Nat.le_trans h3 (Nat.le_trans ?_ h2)
    exact Nat.le_mul_of_pos_left _ (by omega)
theorem whole_take (t : ByteArray) : (wholeOf t).data.toList = t.data.toList.take (wholeOf t).size := by
  rcases split_at t.data.toList with hn | ⟨A, B, e, hA⟩
  · have hc := cut_none _ hn
    rw [← data_length, wholeOf_data, hc, List.take_of_length_le (Nat.le_refl _)]
  · have hc := cut_some A B hA
    rw [← e] at hc
    rw [← data_length, wholeOf_data, hc, e]
    simp
theorem part_drop (t : ByteArray) : (partOf t).data.toList = t.data.toList.drop (if pointed t then (wholeOf t).size + 1 else (wholeOf t).size) := by
  rcases split_at t.data.toList with hn | ⟨A, B, e, hA⟩
  · have hc := cut_none _ hn
    have hp : pointed t = false := by unfold pointed; rw [hc]
    rw [hp, ← data_length, wholeOf_data, partOf_data, hc, if_neg (by decide), List.drop_of_length_le (Nat.le_refl _)]
  · have hc := cut_some A B hA
    rw [← e] at hc
    have hp : pointed t = true := by unfold pointed; rw [hc]
    rw [hp, ← data_length, wholeOf_data, partOf_data, hc, if_pos rfl, e, show A ++ 46 :: B = (A ++ [46]) ++ B from by simp, List.drop_left' (by simp)]
theorem extract_data (s : ByteArray) (b : Nat) : (s.extract b s.size).data.toList = s.data.toList.drop b := by
  have e : (s.extract b s.size).data = s.data.extract b s.size := by simp
  rw [e, Array.toList_extract, List.extract_eq_take_drop, List.take_of_length_le (by rw [List.length_drop, data_length]; omega)]
def atOf (s : ByteArray) : Nat := if signed s then 1 else 0
theorem signless_drop (s : ByteArray) : (signless s).data.toList = s.data.toList.drop (atOf s) := by
  unfold atOf
  cases h : signed s with
  | true => exact signless_yes s h
  | false => exact signless_no s h
theorem near_big (below : Bool) (v : Nat) (m : Int) (r : Int) (hv : 100000000 ≤ v) (hm : 0 ≤ m) : nearEnd below (lenR below ((v : Int) * 65536 + m) r) = (0, 3) := by
  apply near_out
  unfold lenR
  split <;> omega
theorem nearEnd_in (b : Bool) (n : Int) (hn : 0 ≤ n) (h : (nearEnd b n).2 = 0) : -1099511627776 ≤ (nearEnd b n).1 ∧ (nearEnd b n).1 ≤ 1099511627776 := by
  unfold nearEnd at h ⊢
  by_cases h1 : n ≤ 1099511627776
  · cases b <;> simp [h1] <;> omega
  · simp [h1] at h
theorem lenOf_nonneg (b : Bool) (v p : ByteArray) (hp : p.data.toList.all isDig = true) : 0 ≤ lenOf b v p := by
  rw [len_at _ _ _ _ _ _ rfl rfl rfl]
  have := dblOut_bound p hp
  unfold lenR; split <;> omega
theorem nearOut_in (s : ByteArray) (h : (nearOut s).2 = 0) : -1099511627776 ≤ (nearOut s).1 ∧ (nearOut s).1 ≤ 1099511627776 := by
  have h' := h
  unfold nearOut at h ⊢
  split at h
  · simp at h
  · rename_i h1
    rw [if_neg h1]
    split at h
    · simp at h
    · rename_i h2
      rw [if_neg h2]
      split at h
      · simp at h
      · rename_i h3
        rw [if_neg h3]
        refine nearEnd_in _ _ (lenOf_nonneg _ _ _ ?_) h
        cases hp : pointed (signless s) with
        | false => rw [partOf_none _ (by rw [hp])]; rfl
        | true =>
          cases h4 : allDig (partOf (signless s))
          · exact absurd (.inr ⟨hp, h4⟩) h2
          · exact allDig_all _ h4
end Go.Proofs.YtckdgcpomkefpaaGreatDoor.Dg
end
section
set_option linter.unusedVariables false
set_option linter.unusedSimpArgs false
set_option maxRecDepth 100000
namespace Go.Proofs.YtckdgcpomkefpaaGreatDoor.En
open Go
section
variable {P : Program} {g : Gh} {w w' : World} {bs : Bx}
def Gh.with (g : Gh) (γ : Nat) : Gh := { g with G := fun β j => g.G β j ∨ β = γ }
theorem Mem.with (hm : Mem P g w bs) (hw : Fr (fun _ _ => False) w w') {γ : Nat} (h0 : w.heap.size ≤ γ) (h1 : γ < w'.heap.size) : Mem P (g.with γ) w' bs := by
  have hk := hm.still hw
  have hle : g.Le (g.with γ) w' w' := ⟨fun β j hj => ⟨.inl hj, rfl⟩, fun n v hv => hv, fun d β hd => hd⟩
  refine ⟨fun β j hj => ?_, fun d cs hd => ?_, hk.apart, fun n v E hn => ?_, hk.tkap, hk.tkbx, hk.ty⟩
  · rcases hj with hj | rfl
    · exact hk.gsz β j hj
    · exact h1
  · obtain ⟨β, us, T, e1, e2, e3, e4, e5⟩ := hk.box d cs hd
    obtain ⟨β', us', T', f1, f2, _⟩ := hm.box d cs hd
    have hlt := (Array.getElem?_eq_some_iff.1 f2).1
    have hββ : β = β' := by rw [e1] at f1; injection f1
    refine ⟨β, us, T, e1, e2, e3, fun j hj => ?_, fun j c hc => let ⟨u, hu, hr⟩ := e5 j c hc; ⟨u, hu, hr.mono hle⟩⟩
    rcases hj with hj | hj
    · exact e4 j hj
    · omega
  · refine (hk.own n v E hn).keep fun β hβ => ⟨rfl, fun j hj => ?_⟩
    rcases hj with hj | rfl
    · exact hj
    · have := (hm.own n v E hn).lt hβ
      omega
theorem post_w (hm : Mem P g w bs) (hb : ∀ x ∈ bs, x = none) {g' : Gh} (hm' : Mem P g' w' bs) (ht : g'.tk = g.tk) (hx : g'.bx = g.bx) (hG : ∀ β j, g.G β j → g'.G β j) (hG2 : ∀ β j, g'.G β j → β < w.heap.size → g.G β j)
    {xs : List AV} {vs : Array Value} (hs : vs.size = xs.length) (hr : ∀ (j : Nat) x, xs[j]? = some x → ∃ u, vs[j]? = some u ∧ RepT P g' w' x u)
    (hp : ∀ x ∈ xs, (∃ y, x = .v y) ∨ ∃ E l, x = .row none E l) (hw : Fr (fun _ _ => False) w w') : PostOf P g w bs (.ret (.tup xs) bs) (.returned (.tuple vs)) w' := by
  have hn : ∀ (d : Nat) cs, bs[d]? = some (some cs) → False := fun d cs h => by have := hb _ (List.mem_of_getElem? h); cases this
  have hpl : ∀ (j : Nat) x, xs[j]? = some x → (∃ y, x = .v y) ∨ ∃ E l, x = .row none E l := fun j x h => hp x (List.mem_of_getElem? h)
  refine ⟨.tuple vs, g', rfl, hm', rfl, fun i cs h => ⟨cs, h⟩, ⟨vs, rfl, hs, hr⟩, hw.mono fun _ _ _ t => t.elim, hG, fun β j h hβ => .inl (hG2 β j h hβ), fun n y E β h1 h2 => .inr ⟨n, y, E, by rw [← ht]; exact h1, h2⟩, fun i cs h => by rw [hx], fun i j m cs E l h => (hn i cs h).elim, ⟨fun j d o h => ?_, fun j f a b h => ?_, fun j cs h => ?_, fun j j' m E l E' l' h => ?_⟩, fun j m E l h => ?_⟩
  all_goals
    rcases hpl j _ h with ⟨y, e⟩ | ⟨E, l, e⟩ <;> cases e
end
def intD (l : List Nat) : List Dat := l.map fun d : Nat => .int (d : Int)
def allB (s : ByteArray) : Bool := s.data.toList.all Dg.isDig
def drN (s : ByteArray) : Nat := (Dg.drounds 16 (Dg.digs s, 0)).2
def drL (s : ByteArray) : List Nat := (Dg.drounds 16 (Dg.digs s, 0)).1
def btsE : List AV → Bx → Option (Bool × Out)
  | [.v (.string s)], [none] => some (Nat.ble s.size 100 && allB s, .ret (.tup [I (drN s), .row none 3 (intD (drL s))]) [none])
  | _, _ => none
theorem kindI : kinds PR 3 = some [.int .i64] := by kernel_rfl
theorem rep_ints {g : Gh} {w0 w' : World} {b γ cap : Nat} {L : List Nat} (h : Dg.RowI b w0 w' (some ⟨γ, 0, none⟩) cap L) (hG : ∀ j, g.G γ j) : RepRow PR g.G w' 3 (intD L) (.slice (some ⟨γ, 0, none⟩) L.length cap) := by
  have hl : (intD L).length = L.length := by simp [intD]
  have hcap : L.length ≤ cap := by
    rcases h.own.2 with ⟨_, h2⟩ | ⟨g', cap', cur, e, _, _, hn, _⟩
    · omega
    · injection e with _ _ e3
      omega
  have := RepRow.mk (P := PR) (G := g.G) (w := w') 3 (intD L) γ 0 cap [.int .i64] (fun i _ => .int .i64 ((L.getD i 0 : Nat) : Int)) kindI (by rw [hl]; exact hcap) (fun i j hi hj => ?_) (fun i j d k hd hk => ?_) (fun i j d E' hd hk => ?_)
  · rw [hl] at this
    exact this
  · rw [hl] at hi
    rw [List.length_singleton] at hj
    obtain rfl : j = 0 := by omega
    obtain ⟨g', e, _, _, hc, _⟩ := h.at i hi
    injection e with e
    injection e with e
    subst e
    refine ⟨hG _, ?_, rfl⟩
    rw [show 0 + i * [CK.int IntKind.i64].length + 0 = i by simp, hc]
    simp [List.getD, hi]
  · match j, hk with
    | 0, hk =>
      injection hk with hk
      subst hk
      have hi : i < L.length := by rw [← hl]; exact (List.getElem?_eq_some_iff.1 hd).1
      unfold intD at hd
      rw [List.getElem?_map, List.getElem?_eq_getElem hi] at hd
      injection hd with hd
      subst hd
      show Value.int .i64 _ = .int .i64 _
      simp [List.getD, hi, Dat.at, Dat.toI]
  · match j, hk with
    | 0, hk => cases hk
theorem bts_sound {ext : CallF} (hext : SoundCall PR ext) : SoundCall PR (addF 154 btsE ext) := by
  refine sound_ext hext _ (fn := (PR.funcs[154]?).getD default) (by kernel_rfl) (by kernel_rfl) btsE fun xs bs out h g w vs hm hL hl hv hr => ?_
  unfold btsE at h
  split at h
  · rename_i s
    injection h with h
    injection h with hc h
    subst h
    rw [Bool.and_eq_true] at hc
    obtain rfl := args_v (P := PR) [.string s] hv hr
    refine (Dg.bits_walk s w (Nat.le_of_ble_eq_true hc.1) hc.2).mono fun e w' he => ?_
    obtain ⟨A, cap, rfl, hR⟩ := he
    have hlen : (drL s).length = s.size := by unfold drL; rw [Dg.drounds_length, Dg.digs_length]
    have hF : Fr (fun _ _ => False) w w' := Fr.of_below hR.below (Nat.le_refl _)
    have h1 : ∀ g' : Gh, Mem PR g' w' [none] → g'.tk = g.tk → g'.bx = g.bx → (∀ β j, g.G β j → g'.G β j) → (∀ β j, g'.G β j → β < w.heap.size → g.G β j) → RepRow PR g'.G w' 3 (intD (drL s)) (.slice A s.size cap) →
        PostOf PR g w [none] (.ret (.tup [I (drN s), .row none 3 (intD (drL s))]) [none]) (.returned (.tuple #[.int .i64 (drN s : Nat), .slice A s.size cap])) w' := fun g' q1 q2 q3 q4 q5 hrep => by
      refine post_w hm (by simp) q1 q2 q3 q4 q5 rfl (fun j x hj => ?_) (fun x hx => ?_) hF
      · match j, hj with
        | 0, hj => cases hj; exact ⟨_, rfl, rfl, rfl⟩
        | 1, hj => cases hj; exact ⟨_, rfl, hrep, fun n hn => by cases hn⟩
      · simp at hx
        rcases hx with rfl | rfl
        · exact .inl ⟨_, rfl⟩
        · exact .inr ⟨_, _, rfl⟩
    by_cases h0 : s.size = 0
    · have hn : drL s = [] := List.length_eq_zero_iff.1 (by omega)
      refine h1 g (hm.still hF) rfl rfl (fun _ _ h => h) (fun _ _ h _ => h) ?_
      rw [hn, h0]
      exact .nil _ _ _
    · obtain ⟨γ, rfl, a, b, _⟩ := hR.at 0 (by show 0 < (drL s).length; omega)
      have := rep_ints (g := g.with γ) hR (fun j => .inr rfl)
      rw [show (Dg.drounds 16 (Dg.digs s, 0)).1.length = s.size from hlen] at this
      refine h1 (g.with γ) (hm.with hF a b) rfl rfl (fun _ _ h => .inl h) (fun β j h hβ => ?_) this
      rcases h with h | rfl
      · exact h
      · omega
  · cases h
end Go.Proofs.YtckdgcpomkefpaaGreatDoor.En
end
section
set_option linter.unusedVariables false
set_option linter.unusedSimpArgs false
set_option maxRecDepth 100000
namespace Go.Proofs.YtckdgcpomkefpaaGreatDoor.En
open Go
def nrE : List AV → Bx → Option (Bool × Out)
  | [.v (.string s)], [none] => some (true, .ret (.tup [I (Dg.nearOut s).1, I (Dg.nearOut s).2]) [none])
  | _, _ => none
theorem nr_sound {ext : CallF} (hext : SoundCall PR ext) : SoundCall PR (addF 130 nrE ext) := by
  refine sound_ext hext _ (fn := (PR.funcs[130]?).getD default) (by kernel_rfl) (by kernel_rfl) nrE fun xs bs out h g w vs hm hL hl hv hr => ?_
  unfold nrE at h
  split at h
  · rename_i s
    cases h
    obtain rfl := args_v (P := PR) [.string s] hv hr
    refine (Dg.near_walk s w ⟨hL.P⟩).mono fun e w' he => ?_
    obtain ⟨rfl, hb⟩ := he
    refine post_t hm (by simp) rfl (fun j x hj => ?_) (fun x hx => ?_) (Fr.of_below hb (Nat.le_refl _))
    · match j, hj with
      | 0, hj => cases hj; exact ⟨_, rfl, rfl, rfl⟩
      | 1, hj => cases hj; exact ⟨_, rfl, rfl, rfl⟩
    · simp at hx
      rcases hx with rfl | rfl <;> exact .inl ⟨_, rfl⟩
  · cases h
def nr1 (s : ByteArray) : Int := (Dg.nearOut s).1
def nr2 (s : ByteArray) : Int := (Dg.nearOut s).2
def dpR (n : Int) (b : Bool) : Option Out := some (.ret (.tup [I n, B b]) [none])
noncomputable def dpC : CallF := addF 130 nrE (addF 68 fixE fun _ _ _ => none)
theorem dp_0 (m : Nat) (s : ByteArray) : evFn PR TK dpC m 110 [S s] [none] =
  bif inB (nr1 s) then orK (nr2 s != 0) (!((fixT (nr1 s)).toList == s.toList)) fun t => bif t then dpR 0 false else dpR (nr1 s) true else none := by kernel_rfl
def iR (n : Int) : Option Out := some (.ret (I n) [none])
noncomputable def hfC : CallF := fun _ _ _ => none
noncomputable def hfL (m r : Nat) (l : List Dat) (i : Int) := loopF PR TK hfC m 155 [none] [true, true, true, false, true] r (sp 28 [(0, .row none 3 l), (3, I i)] [])
theorem hf_0 (m : Nat) (l : List Dat) : evFn PR TK hfC m 155 [.row none 3 l] [none] =
  orO ((l.length : Int) == 0) ((idx l 0).bind fun d => some (decide ((d.at 0).toI < 5))) fun t => bif t then iR (-1) else (idx l 0).bind fun d => bif decide ((d.at 0).toI > 5) then iR 1 else hfL m m l 1 := by kernel_rfl
theorem hf_1 (m r : Nat) (l : List Dat) (i : Int) : hfL m (r + 1) l i = bif decide (i < l.length) then (idx l i).bind fun d => bif (d.at 0).toI != 0 then iR 1 else hfL m r l (W (i + 1)) else iR 0 := by kernel_rfl
noncomputable def dgsL (m r : Nat) (s : ByteArray) (a n : Int) := loopF PR TK hfC m 174 [none, none] [true, true, false] r (sp 31 [(0, S s), (1, I a), (5, I n)] [])
def i2R (n : Int) : Option Out := some (.ret (I n) [none, none])
theorem dgs_0 (m : Nat) (s : ByteArray) (a : Int) : evFn PR TK hfC m 174 [S s, I a] [none, none] = dgsL m m s a 0 := by kernel_rfl
theorem dgs_1 (m r : Nat) (s : ByteArray) (a n : Int) : dgsL m (r + 1) s a n =
  andO (decide (W (a + n) < s.size)) (bif okI s (W (a + n)) then some (decide (bt s (W (a + n)) ≥ 48)) else none) fun t => andO t (bif okI s (W (a + n)) then some (decide (bt s (W (a + n)) ≤ 57)) else none) fun t =>
    bif t then dgsL m r s a (W (n + 1)) else i2R n := by kernel_rfl
def ldN (s : ByteArray) (a : Int) : Int := (Dg.lead (s.data.toList.drop a.toNat) : Nat)
def dgOk (s : ByteArray) (a : Int) : Bool := Nat.ble s.size 100 && (decide (0 ≤ a) && decide (a ≤ 1000))
def dgsE : List AV → Bx → Option (Bool × Out)
  | [.v (.string s), .v (.int .i64 a)], [none, none] => some (dgOk s a, .ret (I (ldN s a)) [none, none])
  | _, _ => none
noncomputable def fmC : CallF := addF 174 dgsE fun _ _ _ => none
def fR (a b c : Int) (d : Bool) : Option Out := some (.ret (.tup [I a, I b, I c, B d]) [none])
def fmK (s : ByteArray) (x : Int) : Option Out := bif dgOk s x then (bif W (x + ldN s x) == x then fR 0 0 0 false else bif W (x + ldN s x) == (s.size : Int) then fR x (W (x + ldN s x)) (W (x + ldN s x)) true else
  bif okI s (W (x + ldN s x)) then (orO (bt s (W (x + ldN s x)) != 46) (bif dgOk s (W (W (x + ldN s x) + 1)) then some (ldN s (W (W (x + ldN s x) + 1)) == 0) else none) fun t =>
    orO t (bif dgOk s (W (W (x + ldN s x) + 1)) then some (W (W (W (x + ldN s x) + 1) + ldN s (W (W (x + ldN s x) + 1))) != (s.size : Int)) else none) fun t =>
      bif t then fR 0 0 0 false else fR x (W (x + ldN s x)) (W (W (x + ldN s x) + 1)) true) else none) else none
theorem fm_0 (m : Nat) (s : ByteArray) : evFn PR TK fmC m 153 [S s] [none] =
  andO (decide ((s.size : Int) > 0)) (bif okI s 0 then some (bt s 0 == 45) else none) fun t => bif t then fmK s 1 else fmK s 0 := by kernel_rfl
def frO (a : Nat) : Option (Nat × Nat) → Int × Int × Int × Bool
  | none => (0, 0, 0, false)
  | some (m, p) => ((a : Int), ((a + m : Nat) : Int), ((a + p : Nat) : Int), true)
def frR (s : ByteArray) : Int × Int × Int × Bool := frO (Dg.atOf s) (Dg.formT (Dg.signless s).data.toList)
def fmE : List AV → Bx → Option (Bool × Out)
  | [.v (.string s)], [none] => some (Nat.ble s.size 90, .ret (.tup [I (frR s).1, I (frR s).2.1, I (frR s).2.2.1, B (frR s).2.2.2]) [none])
  | _, _ => none
def hfV (l : List Dat) : Int := bif l.length == 0 then -1 else bif decide (((l.getD 0 (.int 0)).at 0).toI < 5) then -1 else bif decide (((l.getD 0 (.int 0)).at 0).toI > 5) then 1 else bif (l.drop 1).all (fun d => (d.at 0).toI == 0) then 0 else 1
def hfE : List AV → Bx → Option (Bool × Out)
  | [.row none E l], [none] => some (Nat.beq E 3 && Nat.ble l.length 1000, .ret (I (hfV l)) [none])
  | _, _ => none
noncomputable def rnC : CallF := addF 153 fmE (addF 154 btsE (addF 155 hfE (addF 101 inE fun _ _ _ => none)))
noncomputable def rnL (m r : Nat) (s : ByteArray) (b c v i : Int) := loopF PR TK rnC m 131 [none] [true, true, true, true, true, false, true] r (sp 72 [(0, S s), (5, I b), (6, I c), (8, I v), (9, I i)] [])
def nrR (a b : Int) : Option Out := some (.ret (.tup [I a, I b]) [none])
def rnF (x : Int) : Option Out := bif !inB x then nrR 0 3 else nrR x 0
def rnX (s : ByteArray) (x h : Int) : Option Out := bif okI s 0 then (bif bt s 0 == 45 then (bif h == 1 then rnF (W (0 - W (x + 1))) else rnF (W (0 - x))) else bif decide (h ≥ 0) then rnF (W (x + 1)) else rnF x) else none
def rnT (s : ByteArray) (c v : Int) : Option Out := bif slOk s c (s.size : Int) then (bif Nat.ble (sub' s c (s.size : Int)).size 100 && allB (sub' s c (s.size : Int)) then
  (bif Nat.ble (intD (drL (sub' s c (s.size : Int)))).length 1000 then rnX s (W (W (v * 65536) + (drN (sub' s c (s.size : Int)) : Int))) (hfV (intD (drL (sub' s c (s.size : Int))))) else none) else none) else none
theorem rn_0 (m : Nat) (s : ByteArray) : evFn PR TK rnC m 131 [S s] [none] =
  bif decide ((s.size : Int) > 40) then nrR 0 2 else bif Nat.ble s.size 90 then (bif !(frR s).2.2.2 then nrR 0 20 else rnL m m s (frR s).2.1 (frR s).2.2.1 0 (frR s).1) else none := by kernel_rfl
theorem rn_1 (m r : Nat) (s : ByteArray) (b c v i : Int) : rnL m (r + 1) s b c v i =
  bif decide (i < b) then (bif okI s i then (bif decide (W (W (v * 10) + W (U8 (bt s i - 48))) > 1073741824) then nrR 0 3 else rnL m r s b c (W (W (v * 10) + W (U8 (bt s i - 48)))) (W (i + 1))) else none) else rnT s c v := by kernel_rfl
def rnE : List AV → Bx → Option (Bool × Out)
  | [.v (.string s)], [none] => some (true, .ret (.tup [I (nr1 s), I (nr2 s)]) [none])
  | _, _ => none
noncomputable def rpC2 : CallF := addF 131 rnE (addF 73 fixE fun _ _ _ => none)
theorem rdp_0 (m : Nat) (s : ByteArray) : evFn PR TK rpC2 m 116 [S s] [none] =
  bif nr2 s != 0 then dpR 0 false else bif inB (nr1 s) then (bif !((fixT (nr1 s)).toList == s.toList) then dpR 0 false else dpR (nr1 s) true) else none := by kernel_rfl
end Go.Proofs.YtckdgcpomkefpaaGreatDoor.En
end
section
set_option linter.unusedVariables false
set_option linter.unusedSimpArgs false
set_option maxRecDepth 100000
namespace Go.Proofs.YtckdgcpomkefpaaGreatDoor.En
open Go
theorem hf_run (m : Nat) (l : List Dat) (hl : l.length ≤ 1000) : ∀ (k r i : Nat), i + k = l.length → k < r → hfL m r l (i : Int) = iR (bif (l.drop i).all (fun d => (d.at 0).toI == 0) then 0 else 1)
  | k, 0, i, _, h => by omega
  | 0, r + 1, i, h, hr => by
    rw [hf_1, decide_eq_false (by omega), cond_false, List.drop_eq_nil_of_le (by omega)]
    rfl
  | k + 1, r + 1, i, h, hr => by
    have hlt : i < l.length := by omega
    rw [hf_1, decide_eq_true (by omega), cond_true, idx_lt hlt, Option.bind_some, List.drop_eq_getElem_cons hlt, List.all_cons]
    cases hc : ((l[i].at 0).toI == 0)
    · have : ((l[i].at 0).toI != 0) = true := by rw [bne, hc]; rfl
      rw [this]
      rfl
    · have : ((l[i].at 0).toI != 0) = false := by rw [bne, hc]; rfl
      rw [this, cond_false, Bool.true_and, W_in (n := (i : Int) + 1) ⟨by omega, by omega⟩]
      exact hf_run m l hl k r (i + 1) (by omega) (by omega)
theorem hf_eq (l : List Dat) (hl : l.length ≤ 1000) : evFn PR TK hfC 1010 155 [.row none 3 l] [none] = iR (hfV l) := by
  rw [hf_0]
  unfold hfV
  cases l with
  | nil => rfl
  | cons d r =>
    have h1 : (((d :: r).length : Int) == 0) = false := by rw [beq_eq_false_iff_ne, List.length_cons]; omega
    have h2 : ((d :: r).length == 0) = false := by rw [beq_eq_false_iff_ne, List.length_cons]; omega
    have h3 : idx (d :: r) 0 = some d := idx_lt (l := d :: r) (i := 0) (by simp)
    rw [h1, h2, h3, Option.bind_some, orO_eq, Bool.false_or, cond_false]
    show (bif decide ((d.at 0).toI < 5) then _ else _) = iR (bif decide ((d.at 0).toI < 5) then _ else _)
    cases decide ((d.at 0).toI < 5)
    · rw [cond_false, cond_false, Option.bind_some]
      show (bif decide ((d.at 0).toI > 5) then _ else _) = iR (bif decide ((d.at 0).toI > 5) then _ else _)
      cases decide ((d.at 0).toI > 5)
      · rw [cond_false, cond_false]
        exact hf_run 1010 (d :: r) hl r.length 1010 1 (by rw [List.length_cons]; omega) (by rw [List.length_cons] at hl; omega)
      · rfl
    · rfl
theorem hf_sound {ext : CallF} (hext : SoundCall PR ext) : SoundCall PR (addF 155 hfE ext) := by
  refine sound_both (sound_add (takes := TK) hmixP (show SoundCall PR hfC from sound_none) _ (fn := (PR.funcs[155]?).getD default) (by kernel_rfl) (by kernel_rfl) hfE fun xs bs out h => ?_) hext
  unfold hfE at h
  split at h
  · rename_i E l
    injection h with h
    injection h with h1 h2
    subst h2
    rw [Bool.and_eq_true] at h1
    obtain rfl := Nat.eq_of_beq_eq_true h1.1
    exact ⟨1010, hf_eq l (Nat.le_of_ble_eq_true h1.2)⟩
  · cases h
theorem dgs_run (m : Nat) (s : ByteArray) (hs : s.size ≤ 100) (a : Nat) (ha : a ≤ 1000) : ∀ (k r n : Nat), s.size - (a + n) ≤ k → k < r → n ≤ 200 → (n ≤ 100 ∨ a + n ≤ s.size) → dgsL m r s (a : Int) (n : Int) = i2R ((n + Dg.lead (s.data.toList.drop (a + n)) : Nat) : Int)
  | k, 0, n, _, h, _, _ => by omega
  | k, r + 1, n, h, hr, hn, _ => by
    have hl : s.data.toList.length = s.size := rfl
    rw [dgs_1, W_in (n := (a : Int) + n) ⟨by omega, by omega⟩]
    by_cases hlt : a + n < s.size
    · have hlt2 : a + n < s.data.toList.length := by omega
      rw [decide_eq_true (by omega), okI_of (by omega) (by omega), cond_true, andO_eq, Bool.true_and, cond_true, andO_eq, List.drop_eq_getElem_cons hlt2, Dg.lead_cons]
      have hb := bt_nat s (a + n) hlt2
      rw [show ((a + n : Nat) : Int) = (a : Int) + n by omega] at hb
      rw [hb]
      have hd : Dg.isDig s.data.toList[a + n] = (decide (((s.data.toList[a + n].toNat : Nat) : Int) ≥ 48) && decide (((s.data.toList[a + n].toNat : Nat) : Int) ≤ 57)) := by
        unfold Dg.isDig
        rw [Bool.eq_iff_iff]
        simp only [Bool.and_eq_true, decide_eq_true_eq]
        omega
      rw [← hd]
      cases hc : Dg.isDig s.data.toList[a + n]
      · rw [cond_false, if_neg (by simp)]
        rfl
      · rw [cond_true, if_pos rfl, W_in (n := (n : Int) + 1) ⟨by omega, by omega⟩]
        have := dgs_run m s hs a ha (k - 1) r (n + 1) (by omega) (by omega) (by omega) (.inr (by omega))
        rw [show ((n + 1 : Nat) : Int) = (n : Int) + 1 by omega] at this
        rw [this, show a + (n + 1) = a + n + 1 by omega]
        congr 1
        omega
    · rw [decide_eq_false (by omega), List.drop_eq_nil_of_le (by omega)]
      rfl
theorem dgOk_of {s : ByteArray} {a : Int} (h : dgOk s a = true) : s.size ≤ 100 ∧ 0 ≤ a ∧ a ≤ 1000 := by
  unfold dgOk at h
  rw [Bool.and_eq_true, Bool.and_eq_true, decide_eq_true_eq, decide_eq_true_eq] at h
  exact ⟨Nat.le_of_ble_eq_true h.1, h.2.1, h.2.2⟩
theorem dgOk_to {s : ByteArray} {a : Int} (h1 : s.size ≤ 100) (h2 : 0 ≤ a) (h3 : a ≤ 1000) : dgOk s a = true := by
  unfold dgOk
  rw [decide_eq_true h2, decide_eq_true h3, Nat.ble_eq_true_of_le h1]
  rfl
theorem dgs_sound {ext : CallF} (hext : SoundCall PR ext) : SoundCall PR (addF 174 dgsE ext) := by
  refine sound_both (sound_add (takes := TK) hmixP (show SoundCall PR hfC from sound_none) _ (fn := (PR.funcs[174]?).getD default) (by kernel_rfl) (by kernel_rfl) dgsE fun xs bs out h => ?_) hext
  unfold dgsE at h
  split at h
  · rename_i s a
    injection h with h
    injection h with h1 h2
    subst h2
    obtain ⟨q1, q2, q3⟩ := dgOk_of h1
    obtain ⟨n, rfl⟩ : ∃ n : Nat, a = (n : Int) := ⟨a.toNat, by omega⟩
    refine ⟨110, (dgs_0 _ _ _).trans ?_⟩
    have := dgs_run 110 s q1 n (by omega) s.size 110 0 (by omega) (by omega) (by omega) (.inl (by omega))
    rw [show ((0 : Nat) : Int) = 0 from rfl, Nat.zero_add, Nat.add_zero] at this
    rw [this]
    rfl
  · cases h
theorem ldN_nat (s : ByteArray) (a : Nat) : ldN s (a : Int) = ((Dg.lead (s.data.toList.drop a) : Nat) : Int) := rfl
theorem fmK_eq (s : ByteArray) (hs : s.size ≤ 90) (a : Nat) (ha : a ≤ s.size) : fmK s (a : Int) = fR (frO a (Dg.formT (s.data.toList.drop a))).1 (frO a (Dg.formT (s.data.toList.drop a))).2.1 (frO a (Dg.formT (s.data.toList.drop a))).2.2.1 (frO a (Dg.formT (s.data.toList.drop a))).2.2.2 := by
  have hl : s.data.toList.length = s.size := rfl
  have hle := Dg.lead_le (s.data.toList.drop a)
  unfold fmK
  rw [dgOk_to (by omega) (by omega) (by omega), cond_true, ldN_nat]
  unfold Dg.formT
  rw [List.length_drop, hl] at hle ⊢
  rw [List.drop_drop]
  generalize Dg.lead (s.data.toList.drop a) = m at hle ⊢
  rw [W_in (n := (a : Int) + m) ⟨by omega, by omega⟩]
  by_cases h0 : m = 0
  · rw [if_pos h0, show (((a : Int) + m) == (a : Int)) = true by rw [beq_iff_eq]; omega]
    rfl
  · rw [if_neg h0, show (((a : Int) + m) == (a : Int)) = false by rw [beq_eq_false_iff_ne]; omega, cond_false]
    by_cases h1 : m = s.size - a
    · rw [if_pos h1, show (((a : Int) + m) == (s.size : Int)) = true by rw [beq_iff_eq]; omega]
      simp only [cond_true, frO]
      rw [show (a : Int) + m = ((a + m : Nat) : Int) by omega]
    · have hlt : a + m < s.data.toList.length := by omega
      have hb := bt_nat s (a + m) hlt
      rw [show ((a + m : Nat) : Int) = (a : Int) + m by omega] at hb
      rw [if_neg h1, show (((a : Int) + m) == (s.size : Int)) = false by rw [beq_eq_false_iff_ne]; omega, cond_false, okI_of (by omega) (by omega), cond_true, W_in (n := (a : Int) + m + 1) ⟨by omega, by omega⟩,
        dgOk_to (by omega) (by omega) (by omega), cond_true, cond_true, orO_eq, orO_eq, hb]
      have hg : (s.data.toList.drop a).getD m 0 = s.data.toList[a + m]'hlt := by
        rw [List.getD_eq_getElem?_getD, List.getElem?_drop, List.getElem?_eq_getElem hlt]; rfl
      rw [hg]
      generalize (s.data.toList[a + m]'hlt) = c
      by_cases h2 : c = 46
      · subst h2
        rw [if_pos rfl, show (((UInt8.toNat 46 : Nat) : Int) != 46) = false from rfl, Bool.false_or, show (a : Int) + m + 1 = ((a + (m + 1) : Nat) : Int) by omega, ldN_nat]
        have hle2 := Dg.lead_le (s.data.toList.drop (a + (m + 1)))
        rw [List.length_drop, hl] at hle2
        generalize Dg.lead (s.data.toList.drop (a + (m + 1))) = q at hle2 ⊢
        rw [W_in (n := ((a + (m + 1) : Nat) : Int) + q) ⟨by omega, by omega⟩]
        by_cases h3 : q = 0
        · rw [if_pos h3, show (((q : Nat) : Int) == 0) = true by rw [beq_iff_eq]; omega]
          rfl
        · rw [if_neg h3, show (((q : Nat) : Int) == 0) = false by rw [beq_eq_false_iff_ne]; omega, Bool.false_or]
          by_cases h4 : m + 1 + q = s.size - a
          · rw [if_pos h4, show ((((a + (m + 1) : Nat) : Int) + q) != (s.size : Int)) = false by rw [bne_eq_false_iff_eq]; omega]
            simp only [cond_false, frO]
            rw [show (a : Int) + m = ((a + m : Nat) : Int) by omega]
          · rw [if_neg h4, show ((((a + (m + 1) : Nat) : Int) + q) != (s.size : Int)) = true by rw [bne_iff_ne]; omega]
            rfl
      · rw [if_neg h2, show (((c.toNat : Nat) : Int) != 46) = true by
          rw [bne_iff_ne]
          intro e
          exact h2 (UInt8.toNat_inj.1 (by have : (46 : UInt8).toNat = 46 := rfl; omega))]
        rfl
theorem sign_bt (s : ByteArray) (h : 0 < s.size) : (bt s 0 == 45) = Dg.signed s := by
  have hlt : 0 < s.data.toList.length := h
  have hb : bt s 0 = ((s.data.toList[0]'hlt).toNat : Int) := bt_nat s 0 hlt
  rw [hb, Dg.prefix_head]
  rfl
theorem fm_eq (s : ByteArray) (hs : s.size ≤ 90) : evFn PR TK fmC 0 153 [S s] [none] = fR (frR s).1 (frR s).2.1 (frR s).2.2.1 (frR s).2.2.2 := by
  rw [fm_0]
  unfold frR
  rw [Dg.signless_drop]
  unfold Dg.atOf
  by_cases h0 : 0 < s.size
  · rw [decide_eq_true (by omega), okI_of (by omega) (by omega), cond_true, andO_eq, Bool.true_and, sign_bt s h0]
    cases Dg.signed s
    · exact fmK_eq s hs 0 (by omega)
    · exact fmK_eq s hs 1 (by omega)
  · rw [decide_eq_false (by omega)]
    have hsg : Dg.signed s = false := by
      unfold Dg.signed
      have : s.data.toList = [] := List.length_eq_zero_iff.1 (by have hl : s.data.toList.length = s.size := rfl; omega)
      rw [this]
      rfl
    rw [hsg]
    exact fmK_eq s hs 0 (by omega)
theorem fm_sound {ext : CallF} (hext : SoundCall PR ext) : SoundCall PR (addF 153 fmE ext) := by
  refine sound_both (sound_add (takes := TK) hmixP (show SoundCall PR fmC from dgs_sound sound_none) _ (fn := (PR.funcs[153]?).getD default) (by kernel_rfl) (by kernel_rfl) fmE fun xs bs out h => ?_) hext
  unfold fmE at h
  split at h
  · rename_i s
    injection h with h
    injection h with h1 h2
    subst h2
    exact ⟨0, fm_eq s (Nat.le_of_ble_eq_true h1)⟩
  · cases h
end Go.Proofs.YtckdgcpomkefpaaGreatDoor.En
end
