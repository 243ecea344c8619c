/- What a name may be; what is flat about an object. -/
import Derived.Test.YtckdgcpomkefpaaGreatDoorP1
set_option linter.unusedVariables false
set_option linter.unusedSimpArgs false
set_option maxRecDepth 100000
namespace Go.Proofs.YtckdgcpomkefpaaGreatDoor.En
open Go
def inB (n : Int) : Bool := decide (-1099511627776 ≤ n) && decide (n ≤ 1099511627776)
def inE : List AV → Bx → Option (Bool × Out)
  | [.v (.int .i64 n)], [none] => some (true, .ret (B (inB n)) [none])
  | _, _ => none
theorem in_0 (call : CallF) (m : Nat) (n : Int) : evFn PR TK call m 62 [I n] [none] = andK (decide (-1099511627776 ≤ n)) (decide (n ≤ 1099511627776)) fun t => some (.ret (B t) [none]) := by kernel_rfl
theorem rin_0 (call : CallF) (m : Nat) (n : Int) : evFn PR TK call m 101 [I n] [none] = andK (decide (n ≥ -1099511627776)) (decide (n ≤ 1099511627776)) fun t => some (.ret (B t) [none]) := by kernel_rfl
theorem in_sound {ext : CallF} (hext : SoundCall PR ext) : SoundCall PR (addF 62 inE ext) := by
  refine sound_add (takes := TK) hmixP hext _ (fn := (PR.funcs[62]?).getD default) (by kernel_rfl) (by kernel_rfl) inE fun xs bs out h => ?_
  unfold inE at h
  split at h
  · cases h
    refine ⟨0, (in_0 _ _ _).trans ?_⟩
    rw [andK_eq]; rfl
  · cases h
theorem rin_sound {ext : CallF} (hext : SoundCall PR ext) : SoundCall PR (addF 101 inE ext) := by
  refine sound_add (takes := TK) hmixP hext _ (fn := (PR.funcs[101]?).getD default) (by kernel_rfl) (by kernel_rfl) inE fun xs bs out h => ?_
  unfold inE at h
  split at h
  · cases h
    refine ⟨0, (rin_0 _ _ _).trans ?_⟩
    rw [andK_eq]; rfl
  · cases h
/-! ### names -/
def namedB (s : ByteArray) : Bool := decide (1 ≤ s.size) && (decide (s.size ≤ 127) && decide (Lib.indexByte s.data.toList 0 < 0))
def namedE : List AV → Bx → Option (Bool × Out)
  | [.v (.string s)], [none] => some (true, .ret (B (namedB s)) [none])
  | _, _ => none
theorem named_0 (ext : CallF) (m : Nat) (s : ByteArray) : evFn PR TK (addF 95 ixE ext) m 63 [S s] [none] =
    andK (decide ((1 : Int) ≤ (s.size : Int))) (decide ((s.size : Int) ≤ 127)) fun t => andK t (decide (Lib.indexByte s.data.toList ((0 : Int).toNat.toUInt8) < 0)) fun t => some (.ret (B t) [none]) := by kernel_rfl
theorem dec_nat {a b : Nat} : decide ((a : Int) ≤ (b : Int)) = decide (a ≤ b) := by
  by_cases h : a ≤ b
  · rw [decide_eq_true h, decide_eq_true (by omega)]
  · rw [decide_eq_false h, decide_eq_false (by omega)]
theorem named_sound {ext : CallF} (hext : SoundCall PR ext) : SoundCall PR (addF 63 namedE ext) := by
  refine sound_both (sound_add (takes := TK) hmixP (ix_sound sound_none) _ (fn := (PR.funcs[63]?).getD default) (by kernel_rfl) (by kernel_rfl) namedE fun xs bs out h => ?_) hext
  unfold namedE at h
  split at h
  · rename_i s
    cases h
    refine ⟨0, (named_0 _ _ _).trans ?_⟩
    rw [andK_eq, andK_eq, show ((1 : Int)) = ((1 : Nat) : Int) from rfl, show ((127 : Int)) = ((127 : Nat) : Int) from rfl, dec_nat, dec_nat, Bool.and_assoc]
    rfl
  · cases h
noncomputable def rnameL (call : CallF) (m r : Nat) (s : ByteArray) (i : Int) := loopF PR TK call m 112 [none] [true, true, false, true] r (sp 22 [(0, S s), (3, I i)] [])
def bR1 (x : Bool) : Option Out := some (.ret (B x) [none])
theorem rname_0 (call : CallF) (m : Nat) (s : ByteArray) : evFn PR TK call m 112 [S s] [none] =
    orK (decide ((s.size : Int) < 1)) (decide ((s.size : Int) > 127)) fun t => bif t then bR1 false else rnameL call m m s 0 := by kernel_rfl
theorem rname_1 (call : CallF) (m r : Nat) (s : ByteArray) (i : Int) : rnameL call m (r + 1) s i =
    bif decide (i < s.size) then (bif (true && decide (0 ≤ i) && decide (i < s.size)) then (bif (bt s i == 0) then bR1 false else rnameL call m r s (IntKind.i64.wrap (i + 1))) else none) else bR1 true := by kernel_rfl
theorem bt_nat (s : ByteArray) (i : Nat) (h : i < s.data.toList.length) : bt s (i : Int) = ((s.data.toList[i]'h).toNat : Int) := by
  unfold bt
  have h' : i < s.data.size := by simpa using h
  have h2 : (s.data.getD i 0) = s.data[i] := by unfold Array.getD; rw [dif_pos h']; rfl
  show (((s.data.getD (i : Int).toNat 0).toNat : Nat) : Int) = _
  rw [show ((i : Int).toNat) = i from rfl, h2]
  simp
theorem ix_neg : ∀ (l : List UInt8), decide (Lib.indexByte l 0 < 0) = l.all fun b => !(b == 0)
  | [] => rfl
  | b :: l => by
    have ih := ix_neg l
    have ge := Lib.indexByte_ge l 0
    rw [List.all_cons, ← ih]
    show decide ((if (b == 0) = true then (0 : Int) else if (Lib.indexByte l 0 == -1) = true then -1 else Lib.indexByte l 0 + 1) < 0) = _
    cases hb : (b == 0)
    · simp only [Bool.false_eq_true, if_false, Bool.not_false, Bool.true_and]
      by_cases h1 : Lib.indexByte l 0 = -1
      · rw [h1]; rfl
      · have : (Lib.indexByte l 0 == -1) = false := by simpa using h1
        rw [this]
        simp only [Bool.false_eq_true, if_false]
        rw [decide_eq_false (by omega), decide_eq_false (by omega)]
    · rfl
theorem rname_loop {call : CallF} {m : Nat} {s : ByteArray} (hf : s.size ≤ 1000000) : ∀ (n i r : Nat), i + n = s.data.toList.length → n < r → rnameL call m r s (i : Int) = bR1 ((s.data.toList.drop i).all fun b => !(b == 0)) := by
  have hsz : s.data.toList.length = s.size := Array.length_toList
  intro n
  induction n with
  | zero =>
    intro i r hi hr
    cases r with
    | zero => omega
    | succ r =>
      rw [rname_1, show decide ((i : Int) < s.size) = false from decide_eq_false (by omega), List.drop_eq_nil_of_le (by omega)]
      rfl
  | succ n ih =>
    intro i r hi hr
    cases r with
    | zero => omega
    | succ r =>
      have h1 : i < s.data.toList.length := by omega
      have ih := ih (i + 1) r (by omega) (by omega)
      rw [show ((i + 1 : Nat) : Int) = (i : Int) + 1 by omega] at ih
      rw [rname_1, show decide ((i : Int) < s.size) = true from decide_eq_true (by omega), show decide ((0 : Int) ≤ i) = true from decide_eq_true (by omega), IntWalk.i64_in _ (by omega), ih, bt_nat s i h1, List.drop_eq_getElem_cons h1, List.all_cons]
      have : (((s.data.toList[i].toNat : Nat) : Int) == 0) = (s.data.toList[i] == 0) := by
        by_cases hz : s.data.toList[i] = 0
        · rw [hz]; rfl
        · have h2 : (s.data.toList[i] == 0) = false := by simpa using hz
          rw [h2]
          have h3 : s.data.toList[i].toNat ≠ 0 := fun e => hz (UInt8.toNat_inj.1 (by rw [e]; rfl))
          simpa using h3
      rw [this]
      cases (s.data.toList[i] == 0) <;> rfl
theorem rname_sound {ext : CallF} (hext : SoundCall PR ext) : SoundCall PR (addF 112 namedE ext) := by
  refine sound_add (takes := TK) hmixP hext _ (fn := (PR.funcs[112]?).getD default) (by kernel_rfl) (by kernel_rfl) namedE fun xs bs out h => ?_
  unfold namedE at h
  split at h
  · rename_i s
    cases h
    refine ⟨128, (rname_0 _ _ _).trans ?_⟩
    rw [orK_eq]
    have hsz : s.data.toList.length = s.size := Array.length_toList
    show _ = bR1 (namedB s)
    unfold namedB
    rw [ix_neg]
    by_cases h1 : 1 ≤ s.size
    · by_cases h2 : s.size ≤ 127
      · have e := rname_loop (call := ext) (m := 128) (s := s) (by omega) s.data.toList.length 0 128 (by omega) (by omega)
        rw [List.drop_zero, show ((0 : Nat) : Int) = 0 from rfl] at e
        rw [decide_eq_true h1, decide_eq_true h2, show decide ((s.size : Int) < 1) = false from decide_eq_false (by omega), show decide ((s.size : Int) > 127) = false from decide_eq_false (by omega), Bool.true_and, Bool.true_and, ← e]
        rfl
      · rw [decide_eq_false h2, show decide ((s.size : Int) > 127) = true from decide_eq_true (by omega), Bool.or_true, Bool.false_and, Bool.and_false]; rfl
    · rw [decide_eq_false h1, show decide ((s.size : Int) < 1) = true from decide_eq_true (by omega), Bool.true_or, Bool.false_and]; rfl
  · cases h
end Go.Proofs.YtckdgcpomkefpaaGreatDoor.En
