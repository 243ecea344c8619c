/- Part 5 of a proof: what it needs of the program's functions as plain Lean functions, with the proof that the machine's calls come to them, and of plain laws; put together out of smaller texts. No conditions besides those that each statement names. -/
import Derived.Lib.ItoaMem
import Derived.Test.YtckdgcpomkefpaaGreatDoorOw4
section
set_option linter.unusedVariables false
set_option linter.unusedSimpArgs false
set_option maxRecDepth 100000
namespace Go.Proofs.YtckdgcpomkefpaaGreatDoor.En
open Go
noncomputable def osameC (k : Nat) (ext : CallF) : CallF := addF 27 (sameE k) ext
noncomputable def osameL1 (call : CallF) (m r : Nat) (k1 n1 k2 n2 : Int) (b1 b2 : Bool) (s1 s2 : ByteArray) (ks1 l1 ks2 l2 : List Dat) (i : Int) := loopF PR TK call m 27 [none, none] [true, true, false, true] r (sp 86 [(2, .box 2 0), (3, .box 3 0), (54, .row none 9 ks1), (55, I ks1.length), (56, I i)] [(2, obA k1 n1 b1 s1 ks1 l1), (3, obA k2 n2 b2 s2 ks2 l2)])
noncomputable def osameL2 (call : CallF) (m r : Nat) (k1 n1 k2 n2 : Int) (b1 b2 : Bool) (s1 s2 : ByteArray) (ks1 l1 ks2 l2 : List Dat) (i : Int) := loopF PR TK call m 27 [none, none] [true, true, true, false, true] r (sp 86 [(3, .box 3 0), (70, .row none 43 l1), (71, I l1.length), (72, I i)] [(3, obA k2 n2 b2 s2 ks2 l2)])
section
variable (call ext : CallF) (k m r : Nat) (k1 n1 k2 n2 : Int) (b1 b2 : Bool) (s1 s2 : ByteArray) (ks1 l1 ks2 l2 : List Dat) (i : Int)
theorem osame_0 : evFn PR TK call m 27 [.agg (obA k1 n1 b1 s1 ks1 l1), .agg (obA k2 n2 b2 s2 ks2 l2)] [none, none] =
    orK (k1 != k2) (!(b1 == b2)) fun t => orK t (n1 != n2) fun t => orK t (!(s1.toList == s2.toList)) fun t => orK t ((ks1.length : Int) != ks2.length) fun t => orK t ((l1.length : Int) != l2.length) fun t =>
      bif t then some (.ret (B false) [none, none]) else osameL1 call m m k1 n1 k2 n2 b1 b2 s1 s2 ks1 l1 ks2 l2 0 := by kernel_rfl
theorem osame_1 : osameL1 call m (r + 1) k1 n1 k2 n2 b1 b2 s1 s2 ks1 l1 ks2 l2 i = bif decide (i < ks1.length) then (idx ks1 i).bind fun d => (idx ks2 i).bind fun e =>
      bif !((d.at 0).toS.toList == (e.at 0).toS.toList) then some (.ret (B false) [none, none]) else osameL1 call m r k1 n1 k2 n2 b1 b2 s1 s2 ks1 l1 ks2 l2 (IntKind.i64.wrap (i + 1))
    else osameL2 call m m k1 n1 k2 n2 b1 b2 s1 s2 ks1 l1 ks2 l2 0 := by kernel_rfl
theorem osame_2 : osameL2 (osameC k ext) m (r + 1) k1 n1 k2 n2 b1 b2 s1 s2 ks1 l1 ks2 l2 i = bif decide (i < l1.length) then (idx l1 i).bind fun d => (idx l2 i).bind fun e =>
      bif fitB k (d.at 4).toL (d.at 5).toL then (bif !(sameO k (nrm d) (nrm e)) then some (.ret (B false) [none, none]) else osameL2 (osameC k ext) m r k1 n1 k2 n2 b1 b2 s1 s2 ks1 l1 ks2 l2 (IntKind.i64.wrap (i + 1))) else none
    else some (.ret (B true) [none, none]) := by kernel_rfl
end
theorem osame_loop2 {ext : CallF} {k m : Nat} {k1 n1 k2 n2 : Int} {b1 b2 : Bool} {s1 s2 : ByteArray} {ks1 l1 ks2 l2 : List Dat} (hl : l1.length = l2.length) (hf : l1.length ≤ 1000000) (hk : ∀ d ∈ l1, fitO k (d.at 4).toL (d.at 5).toL) :
    ∀ (n i r : Nat), i + n = l1.length → n < r → osameL2 (osameC k ext) m r k1 n1 k2 n2 b1 b2 s1 s2 ks1 l1 ks2 l2 (i : Int) = bR (allEq (sameO k) (l1.drop i) (l2.drop i))
  | n, i, 0, _, h => by omega
  | 0, i, r + 1, hi, _ => by
    rw [osame_2, show decide ((i : Int) < l1.length) = false from decide_eq_false (by omega), List.drop_eq_nil_of_le (by omega), List.drop_eq_nil_of_le (by omega)]
    rfl
  | n + 1, i, r + 1, hi, hm => by
    have h1 : i < l1.length := by omega
    have h2 : i < l2.length := by omega
    rw [osame_2, show decide ((i : Int) < l1.length) = true from decide_eq_true (by omega), idx_at h1, idx_at h2, IntWalk.i64_in _ (by omega)]
    simp only [cond_true, Option.bind_some]
    rw [fitB_eq (hk _ (List.getElem_mem h1)), cond_true, sameO_nrm, List.drop_eq_getElem_cons h1, List.drop_eq_getElem_cons h2]
    have ih := osame_loop2 (ext := ext) (m := m) (k1 := k1) (n1 := n1) (k2 := k2) (n2 := n2) (b1 := b1) (b2 := b2) (s1 := s1) (s2 := s2) (ks1 := ks1) (ks2 := ks2) hl hf hk n (i + 1) r (by omega) (by omega)
    rw [show ((i + 1 : Nat) : Int) = (i : Int) + 1 by omega] at ih
    rw [ih]
    show _ = bR (sameO k l1[i] l2[i] && allEq (sameO k) (l1.drop (i + 1)) (l2.drop (i + 1)))
    cases sameO k l1[i] l2[i] <;> rfl
theorem osame_loop1 {ext : CallF} {k m : Nat} {k1 n1 k2 n2 : Int} {b1 b2 : Bool} {s1 s2 : ByteArray} {ks1 l1 ks2 l2 : List Dat} (hlk : ks1.length = ks2.length) (hl : l1.length = l2.length) (hfk : ks1.length ≤ 1000000) (hf : l1.length ≤ 1000000) (hk : ∀ d ∈ l1, fitO k (d.at 4).toL (d.at 5).toL) (hm : l1.length < m) :
    ∀ (n i r : Nat), i + n = ks1.length → n < r → osameL1 (osameC k ext) m r k1 n1 k2 n2 b1 b2 s1 s2 ks1 l1 ks2 l2 (i : Int) = bR (keysEq (ks1.drop i) (ks2.drop i) && allEq (sameO k) l1 l2) := by
  have e0 := osame_loop2 (ext := ext) (k := k) (m := m) (k1 := k1) (n1 := n1) (k2 := k2) (n2 := n2) (b1 := b1) (b2 := b2) (s1 := s1) (s2 := s2) (ks1 := ks1) (ks2 := ks2) hl hf hk l1.length 0 m (by omega) hm
  rw [List.drop_zero, List.drop_zero, show ((0 : Nat) : Int) = 0 from rfl] at e0
  intro n
  induction n with
  | zero =>
    intro i r hi hr
    cases r with
    | zero => omega
    | succ r =>
      rw [osame_1, show decide ((i : Int) < ks1.length) = false from decide_eq_false (by omega), List.drop_eq_nil_of_le (by omega), List.drop_eq_nil_of_le (by omega), e0]
      rfl
  | succ n ih =>
    intro i r hi hr
    cases r with
    | zero => omega
    | succ r =>
      have h1 : i < ks1.length := by omega
      have h2 : i < ks2.length := by omega
      have ih := ih (i + 1) r (by omega) (by omega)
      rw [show ((i + 1 : Nat) : Int) = (i : Int) + 1 by omega] at ih
      rw [osame_1, e0, show decide ((i : Int) < ks1.length) = true from decide_eq_true (by omega), idx_at h1, idx_at h2, IntWalk.i64_in _ (by omega)]
      simp only [cond_true, Option.bind_some]
      rw [List.drop_eq_getElem_cons h1, List.drop_eq_getElem_cons h2, ih]
      show _ = bR ((((ks1[i].at 0).toS.toList == (ks2[i].at 0).toS.toList) && keysEq (ks1.drop (i + 1)) (ks2.drop (i + 1))) && allEq (sameO k) l1 l2)
      cases ((ks1[i].at 0).toS.toList == (ks2[i].at 0).toS.toList) <;> rfl
theorem osame_run {ext : CallF} {k m : Nat} {k1 n1 k2 n2 : Int} {b1 b2 : Bool} {s1 s2 : ByteArray} {ks1 l1 ks2 l2 : List Dat} (h : fitO (k + 1) ks1 l1) (hm : 1000000 < m) :
    evFn PR TK (osameC k ext) m 27 [.agg (obA k1 n1 b1 s1 ks1 l1), .agg (obA k2 n2 b2 s2 ks2 l2)] [none, none] = bR (sameO (k + 1) (mkO k1 n1 b1 s1 ks1 l1) (mkO k2 n2 b2 s2 ks2 l2)) := by
  obtain ⟨h1, h2, h3⟩ := h
  rw [osame_0]
  simp only [orK_eq]
  show (bif ((((((k1 != k2) || !(b1 == b2)) || (n1 != n2)) || !(s1.toList == s2.toList)) || ((ks1.length : Int) != ks2.length)) || ((l1.length : Int) != l2.length)) then bR false else _) =
    bR ((k1 == k2) && ((b1 == b2) && ((n1 == n2) && ((s1.toList == s2.toList) && (keysEq ks1 ks2 && allEq (sameO k) l1 l2)))))
  rw [ne_len, ne_len]
  unfold bne
  cases (k1 == k2) <;> cases (b1 == b2) <;> cases (n1 == n2) <;> cases (s1.toList == s2.toList) <;> try rfl
  by_cases e1 : ks1.length = ks2.length
  · by_cases e2 : l1.length = l2.length
    · rw [decide_eq_true e1, decide_eq_true e2]
      have e := osame_loop1 (ext := ext) (k := k) (m := m) (k1 := k1) (n1 := n1) (k2 := k2) (n2 := n2) (b1 := b1) (b2 := b2) (s1 := s1) (s2 := s2) e1 e2 h1 h2 h3 (by omega) ks1.length 0 m (by omega) (by omega)
      rw [List.drop_zero, List.drop_zero, show ((0 : Nat) : Int) = 0 from rfl] at e
      show osameL1 _ _ _ _ _ _ _ _ _ _ _ _ _ _ _ 0 = _
      rw [e]; rfl
    · rw [decide_eq_false e2]
      have : allEq (sameO k) l1 l2 = false := by
        cases hq : allEq (sameO k) l1 l2
        · rfl
        · exact absurd (allEq_len hq) e2
      rw [this]
      cases decide (ks1.length = ks2.length) <;> cases keysEq ks1 ks2 <;> rfl
  · rw [decide_eq_false e1]
    have : keysEq ks1 ks2 = false := by
      cases hq : keysEq ks1 ks2
      · rfl
      · exact absurd (keysEq_len hq) e1
    rw [this]; rfl
theorem osame_sound {ext : CallF} (hext : SoundCall PR ext) : ∀ k, SoundCall PR (osameC k ext) := by
  refine sound_rec (takes := TK) hmixP hext _ (fn := (PR.funcs[27]?).getD default) (by kernel_rfl) (by kernel_rfl) sameE (fun xs bs out h => ?_) (fun k xs bs out h => ?_)
  · unfold sameE at h
    split at h
    · injection h with h
      injection h with h _
      exact fitB_of h
    · cases h
  · unfold sameE at h
    split at h
    · injection h with h
      injection h with h1 h2
      subst h2
      exact ⟨1000001, osame_run (fitB_of h1) (by omega)⟩
    · cases h
end Go.Proofs.YtckdgcpomkefpaaGreatDoor.En
end
section
set_option linter.unusedVariables false
set_option linter.unusedSimpArgs false
set_option maxRecDepth 100000
namespace Go.Proofs.YtckdgcpomkefpaaGreatDoor.En
open Go
def inB (n : Int) : Bool := decide (-1099511627776 ≤ n) && decide (n ≤ 1099511627776)
def inE : List AV → Bx → Option (Bool × Out)
  | [.v (.int .i64 n)], [none] => some (true, .ret (B (inB n)) [none])
  | _, _ => none
theorem in_0 (call : CallF) (m : Nat) (n : Int) : evFn PR TK call m 62 [I n] [none] = andK (decide (-1099511627776 ≤ n)) (decide (n ≤ 1099511627776)) fun t => some (.ret (B t) [none]) := by kernel_rfl
theorem rin_0 (call : CallF) (m : Nat) (n : Int) : evFn PR TK call m 101 [I n] [none] = andK (decide (n ≥ -1099511627776)) (decide (n ≤ 1099511627776)) fun t => some (.ret (B t) [none]) := by kernel_rfl
theorem in_sound {ext : CallF} (hext : SoundCall PR ext) : SoundCall PR (addF 62 inE ext) := by
  refine sound_add (takes := TK) hmixP hext _ (fn := (PR.funcs[62]?).getD default) (by kernel_rfl) (by kernel_rfl) inE fun xs bs out h => ?_
  unfold inE at h
  split at h
  · cases h
    refine ⟨0, (in_0 _ _ _).trans ?_⟩
    rw [andK_eq]; rfl
  · cases h
theorem rin_sound {ext : CallF} (hext : SoundCall PR ext) : SoundCall PR (addF 101 inE ext) := by
  refine sound_add (takes := TK) hmixP hext _ (fn := (PR.funcs[101]?).getD default) (by kernel_rfl) (by kernel_rfl) inE fun xs bs out h => ?_
  unfold inE at h
  split at h
  · cases h
    refine ⟨0, (rin_0 _ _ _).trans ?_⟩
    rw [andK_eq]; rfl
  · cases h
def namedB (s : ByteArray) : Bool := decide (1 ≤ s.size) && (decide (s.size ≤ 127) && decide (Lib.indexByte s.data.toList 0 < 0))
def namedE : List AV → Bx → Option (Bool × Out)
  | [.v (.string s)], [none] => some (true, .ret (B (namedB s)) [none])
  | _, _ => none
theorem named_0 (ext : CallF) (m : Nat) (s : ByteArray) : evFn PR TK (addF 95 ixE ext) m 63 [S s] [none] =
    andK (decide ((1 : Int) ≤ (s.size : Int))) (decide ((s.size : Int) ≤ 127)) fun t => andK t (decide (Lib.indexByte s.data.toList ((0 : Int).toNat.toUInt8) < 0)) fun t => some (.ret (B t) [none]) := by kernel_rfl
theorem dec_nat {a b : Nat} : decide ((a : Int) ≤ (b : Int)) = decide (a ≤ b) := by
  by_cases h : a ≤ b
  · rw [decide_eq_true h, decide_eq_true (by omega)]
  · rw [decide_eq_false h, decide_eq_false (by omega)]
theorem named_sound {ext : CallF} (hext : SoundCall PR ext) : SoundCall PR (addF 63 namedE ext) := by
  refine sound_both (sound_add (takes := TK) hmixP (ix_sound sound_none) _ (fn := (PR.funcs[63]?).getD default) (by kernel_rfl) (by kernel_rfl) namedE fun xs bs out h => ?_) hext
  unfold namedE at h
  split at h
  · rename_i s
    cases h
    refine ⟨0, (named_0 _ _ _).trans ?_⟩
    rw [andK_eq, andK_eq, show ((1 : Int)) = ((1 : Nat) : Int) from rfl, show ((127 : Int)) = ((127 : Nat) : Int) from rfl, dec_nat, dec_nat, Bool.and_assoc]
    rfl
  · cases h
noncomputable def rnameL (call : CallF) (m r : Nat) (s : ByteArray) (i : Int) := loopF PR TK call m 112 [none] [true, true, false, true] r (sp 22 [(0, S s), (3, I i)] [])
def bR1 (x : Bool) : Option Out := some (.ret (B x) [none])
theorem rname_0 (call : CallF) (m : Nat) (s : ByteArray) : evFn PR TK call m 112 [S s] [none] =
    orK (decide ((s.size : Int) < 1)) (decide ((s.size : Int) > 127)) fun t => bif t then bR1 false else rnameL call m m s 0 := by kernel_rfl
theorem rname_1 (call : CallF) (m r : Nat) (s : ByteArray) (i : Int) : rnameL call m (r + 1) s i =
    bif decide (i < s.size) then (bif (true && decide (0 ≤ i) && decide (i < s.size)) then (bif (bt s i == 0) then bR1 false else rnameL call m r s (IntKind.i64.wrap (i + 1))) else none) else bR1 true := by kernel_rfl
theorem bt_nat (s : ByteArray) (i : Nat) (h : i < s.data.toList.length) : bt s (i : Int) = ((s.data.toList[i]'h).toNat : Int) := by
  unfold bt
  have h' : i < s.data.size := by simpa using h
  have h2 : (s.data.getD i 0) = s.data[i] := by unfold Array.getD; rw [dif_pos h']; rfl
  show (((s.data.getD (i : Int).toNat 0).toNat : Nat) : Int) = _
  rw [show ((i : Int).toNat) = i from rfl, h2]
  simp
theorem ix_neg : ∀ (l : List UInt8), decide (Lib.indexByte l 0 < 0) = l.all fun b => !(b == 0)
  | [] => rfl
  | b :: l => by
    have ih := ix_neg l
    have ge := Lib.indexByte_ge l 0
    rw [List.all_cons, ← ih]
    show decide ((if (b == 0) = true then (0 : Int) else if (Lib.indexByte l 0 == -1) = true then -1 else Lib.indexByte l 0 + 1) < 0) = _
    cases hb : (b == 0)
    · simp only [Bool.false_eq_true, if_false, Bool.not_false, Bool.true_and]
      by_cases h1 : Lib.indexByte l 0 = -1
      · rw [h1]; rfl
      · have : (Lib.indexByte l 0 == -1) = false := by simpa using h1
        rw [this]
        simp only [Bool.false_eq_true, if_false]
        rw [decide_eq_false (by omega), decide_eq_false (by omega)]
    · rfl
theorem rname_loop {call : CallF} {m : Nat} {s : ByteArray} (hf : s.size ≤ 1000000) : ∀ (n i r : Nat), i + n = s.data.toList.length → n < r → rnameL call m r s (i : Int) = bR1 ((s.data.toList.drop i).all fun b => !(b == 0)) := by
  have hsz : s.data.toList.length = s.size := Array.length_toList
  intro n
  induction n with
  | zero =>
    intro i r hi hr
    cases r with
    | zero => omega
    | succ r =>
      rw [rname_1, show decide ((i : Int) < s.size) = false from decide_eq_false (by omega), List.drop_eq_nil_of_le (by omega)]
      rfl
  | succ n ih =>
    intro i r hi hr
    cases r with
    | zero => omega
    | succ r =>
      have h1 : i < s.data.toList.length := by omega
      have ih := ih (i + 1) r (by omega) (by omega)
      rw [show ((i + 1 : Nat) : Int) = (i : Int) + 1 by omega] at ih
      rw [rname_1, show decide ((i : Int) < s.size) = true from decide_eq_true (by omega), show decide ((0 : Int) ≤ i) = true from decide_eq_true (by omega), IntWalk.i64_in _ (by omega), ih, bt_nat s i h1, List.drop_eq_getElem_cons h1, List.all_cons]
      have : (((s.data.toList[i].toNat : Nat) : Int) == 0) = (s.data.toList[i] == 0) := by
        by_cases hz : s.data.toList[i] = 0
        · rw [hz]; rfl
        · have h2 : (s.data.toList[i] == 0) = false := by simpa using hz
          rw [h2]
          have h3 : s.data.toList[i].toNat ≠ 0 := fun e => hz (UInt8.toNat_inj.1 (by rw [e]; rfl))
          simpa using h3
      rw [this]
      cases (s.data.toList[i] == 0) <;> rfl
theorem rname_sound {ext : CallF} (hext : SoundCall PR ext) : SoundCall PR (addF 112 namedE ext) := by
  refine sound_add (takes := TK) hmixP hext _ (fn := (PR.funcs[112]?).getD default) (by kernel_rfl) (by kernel_rfl) namedE fun xs bs out h => ?_
  unfold namedE at h
  split at h
  · rename_i s
    cases h
    refine ⟨128, (rname_0 _ _ _).trans ?_⟩
    rw [orK_eq]
    have hsz : s.data.toList.length = s.size := Array.length_toList
    show _ = bR1 (namedB s)
    unfold namedB
    rw [ix_neg]
    by_cases h1 : 1 ≤ s.size
    · by_cases h2 : s.size ≤ 127
      · have e := rname_loop (call := ext) (m := 128) (s := s) (by omega) s.data.toList.length 0 128 (by omega) (by omega)
        rw [List.drop_zero, show ((0 : Nat) : Int) = 0 from rfl] at e
        rw [decide_eq_true h1, decide_eq_true h2, show decide ((s.size : Int) < 1) = false from decide_eq_false (by omega), show decide ((s.size : Int) > 127) = false from decide_eq_false (by omega), Bool.true_and, Bool.true_and, ← e]
        rfl
      · rw [decide_eq_false h2, show decide ((s.size : Int) > 127) = true from decide_eq_true (by omega), Bool.or_true, Bool.false_and, Bool.and_false]; rfl
    · rw [decide_eq_false h1, show decide ((s.size : Int) < 1) = true from decide_eq_true (by omega), Bool.true_or, Bool.false_and]; rfl
  · cases h
end Go.Proofs.YtckdgcpomkefpaaGreatDoor.En
end
section
set_option linter.unusedVariables false
set_option linter.unusedSimpArgs false
set_option maxRecDepth 100000
namespace Go.Proofs.YtckdgcpomkefpaaGreatDoor.En
open Go
def orO {β : Type} (c : Bool) (d : Option Bool) (k : Bool → Option β) : Option β := (bif c then some true else d).bind k
theorem orO_eq {β : Type} (c d : Bool) (k : Bool → Option β) : orO c (some d) k = k (c || d) := by cases c <;> rfl
noncomputable def flatL1 (call : CallF) (m r : Nat) (k1 n1 : Int) (b1 : Bool) (s1 : ByteArray) (ks1 l1 : List Dat) (i : Int) := loopF PR TK call m 93 [none] [true, true, false, true, true, true, true, true, true, true, true, true, true, false, true, false, true] r (sp 165 [(1, .box 1 0), (3, I i)] [(1, obA k1 n1 b1 s1 ks1 l1)])
noncomputable def flatL2 (call : CallF) (m r1 r : Nat) (k1 n1 : Int) (b1 : Bool) (s1 : ByteArray) (ks1 l1 : List Dat) (i j : Int) := loopF2 PR TK call m 93 [none] [true, true, false, true, true, true, true, true, true, true, true, true, true, false, true, false, true] r1 [true, false, true, true] r (sp 165 [(1, .box 1 0), (3, I i), (4, I j)] [(1, obA k1 n1 b1 s1 ks1 l1)])
noncomputable def flC (ext : CallF) : CallF := addF 112 namedE (addF 101 inE ext)
section
variable (ext : CallF) (m r r1 : Nat) (k1 n1 : Int) (b1 : Bool) (s1 : ByteArray) (ks1 l1 : List Dat) (i j : Int)
def bare (k1 n1 : Int) (b1 : Bool) (s1 : ByteArray) (ks1 l1 : List Dat) {β : Type} (kk : Bool → Option β) : Option β :=
  andK b1 (k1 != 1) fun t => orO t (andK (n1 != 0) (k1 != 2) fun t => andK t (k1 != 3) fun t => andK t (k1 != 8) fun t => some t) fun t =>
    orO t (andK (!(s1.toList == (⟨#[]⟩ : ByteArray).toList)) (k1 != 4) fun t => andK t (k1 != 5) fun t => some t) fun t =>
    orO t (andK (decide ((ks1.length : Int) > 0)) (k1 != 7) fun t => some t) fun t =>
    orO t (andK (decide ((l1.length : Int) > 0)) (k1 != 6) fun t => andK t (k1 != 7) fun t => some t) kk
theorem flat_0 : evFn PR TK (flC ext) m 93 [.agg (obA k1 n1 b1 s1 ks1 l1)] [none] = bare k1 n1 b1 s1 ks1 l1 fun t => bif t then bR1 false else
    bif (k1 == 2) then bR1 (inB n1) else bif (k1 == 3) then andK (inB n1) ((n1.tmod 65536) != 0) bR1 else bif (k1 == 4) then bR1 (namedB s1) else bif (k1 == 5) then bR1 (decide ((s1.size : Int) ≤ 65536)) else
    bif (k1 == 7) then (bif ((ks1.length : Int) != l1.length) then bR1 false else flatL1 (flC ext) m m k1 n1 b1 s1 ks1 l1 0) else
    bif (k1 == 8) then andK (decide (n1 ≥ 1)) (decide (n1 ≤ 4096)) bR1 else orK (k1 == 0) (k1 == 1) fun t => orK t (k1 == 6) bR1 := by kernel_rfl
theorem flat_1 : flatL1 (flC ext) m (r + 1) k1 n1 b1 s1 ks1 l1 i = bif decide (i < ks1.length) then (idx ks1 i).bind fun d => bif !(namedB (d.at 0).toS) then bR1 false else flatL2 (flC ext) m r m k1 n1 b1 s1 ks1 l1 i 0
    else bR1 true := by kernel_rfl
theorem flat_2 : flatL2 (flC ext) m r1 (r + 1) k1 n1 b1 s1 ks1 l1 i j = bif decide (j < i) then (idx ks1 j).bind fun d => (idx ks1 i).bind fun e =>
      bif ((d.at 0).toS.toList == (e.at 0).toS.toList) then bR1 false else flatL2 (flC ext) m r1 r k1 n1 b1 s1 ks1 l1 i (IntKind.i64.wrap (j + 1))
    else flatL1 (flC ext) m r1 k1 n1 b1 s1 ks1 l1 (IntKind.i64.wrap (i + 1)) := by kernel_rfl
end
def eqK (d e : Dat) : Bool := (d.at 0).toS.toList == (e.at 0).toS.toList
def keysR : List Dat → List Dat → Bool
  | _, [] => true
  | pre, d :: r => namedB (d.at 0).toS && (!(pre.any fun e => eqK e d) && keysR (pre ++ [d]) r)
theorem flat_loop2 {ext : CallF} {m r1 : Nat} {k1 n1 : Int} {b1 : Bool} {s1 : ByteArray} {ks1 l1 : List Dat} {i : Nat} (hi : i < ks1.length) (hf : ks1.length ≤ 1000000) :
    ∀ (n j r : Nat), j + n = i → n < r → flatL2 (flC ext) m r1 r k1 n1 b1 s1 ks1 l1 (i : Int) (j : Int) = bif (((ks1.take i).drop j).any fun e => eqK e ks1[i]) then bR1 false else flatL1 (flC ext) m r1 k1 n1 b1 s1 ks1 l1 ((i + 1 : Nat) : Int) := by
  intro n
  induction n with
  | zero =>
    intro j r hj hr
    cases r with
    | zero => omega
    | succ r =>
      have : j = i := by omega
      subst this
      rw [flat_2, show decide ((j : Int) < (j : Int)) = false from decide_eq_false (by omega), cond_false, IntWalk.i64_in _ (by omega), List.drop_eq_nil_of_le (by simp; omega), List.any_nil, cond_false]
      rfl
  | succ n ih =>
    intro j r hj hr
    cases r with
    | zero => omega
    | succ r =>
      have h1 : j < ks1.length := by omega
      have h2 : j < (ks1.take i).length := by simp; omega
      have ih := ih (j + 1) r (by omega) (by omega)
      rw [show ((j + 1 : Nat) : Int) = (j : Int) + 1 by omega] at ih
      rw [flat_2, show decide ((j : Int) < (i : Int)) = true from decide_eq_true (by omega), cond_true, idx_at h1, idx_at hi, Option.bind_some, Option.bind_some, IntWalk.i64_in _ (by omega), ih, List.drop_eq_getElem_cons h2, List.any_cons, List.getElem_take]
      show (bif eqK ks1[j] ks1[i] then _ else _) = _
      cases eqK ks1[j] ks1[i]
      · rw [cond_false, Bool.false_or]
      · rw [cond_true, Bool.true_or, cond_true]
theorem flat_loop1 {ext : CallF} {m : Nat} {k1 n1 : Int} {b1 : Bool} {s1 : ByteArray} {ks1 l1 : List Dat} (hf : ks1.length ≤ 1000000) (hm : 1000000 < m) :
    ∀ (n i r : Nat), i + n = ks1.length → n < r → flatL1 (flC ext) m r k1 n1 b1 s1 ks1 l1 (i : Int) = bR1 (keysR (ks1.take i) (ks1.drop i)) := by
  intro n
  induction n with
  | zero =>
    intro i r hi hr
    cases r with
    | zero => omega
    | succ r =>
      rw [flat_1, show decide ((i : Int) < ks1.length) = false from decide_eq_false (by omega), cond_false, List.drop_eq_nil_of_le (by omega)]
      rfl
  | succ n ih =>
    intro i r hi hr
    cases r with
    | zero => omega
    | succ r =>
      have h1 : i < ks1.length := by omega
      have ih := ih (i + 1) r (by omega) (by omega)
      have e := flat_loop2 (ext := ext) (m := m) (r1 := r) (k1 := k1) (n1 := n1) (b1 := b1) (s1 := s1) (l1 := l1) h1 hf i 0 m (by omega) (by omega)
      rw [List.drop_zero, show ((0 : Nat) : Int) = 0 from rfl, ih] at e
      rw [flat_1, show decide ((i : Int) < ks1.length) = true from decide_eq_true (by omega), cond_true, idx_at h1, Option.bind_some, e, List.drop_eq_getElem_cons h1]
      show _ = bR1 (namedB (ks1[i].at 0).toS && (!((ks1.take i).any fun e => eqK e ks1[i]) && keysR (ks1.take i ++ [ks1[i]]) (ks1.drop (i + 1))))
      rw [List.take_append_getElem h1]
      cases namedB (ks1[i].at 0).toS
      · rfl
      · cases ((ks1.take i).any fun e => eqK e ks1[i]) <;> rfl
def bareB (k1 n1 : Int) (b1 : Bool) (s1 : ByteArray) (ks1 l1 : List Dat) : Bool :=
  ((((b1 && k1 != 1) || (((n1 != 0 && k1 != 2) && k1 != 3) && k1 != 8)) || ((!(s1.toList == (⟨#[]⟩ : ByteArray).toList) && k1 != 4) && k1 != 5)) || (decide ((ks1.length : Int) > 0) && k1 != 7)) || ((decide ((l1.length : Int) > 0) && k1 != 6) && k1 != 7)
theorem bare_eq (k1 n1 : Int) (b1 : Bool) (s1 : ByteArray) (ks1 l1 : List Dat) {β : Type} (kk : Bool → Option β) : bare k1 n1 b1 s1 ks1 l1 kk = kk (bareB k1 n1 b1 s1 ks1 l1) := by
  unfold bare bareB
  simp only [andK_eq, orO_eq]
def kindB (k1 n1 : Int) (s1 : ByteArray) (ks1 l1 : List Dat) : Bool :=
  bif (k1 == 2) then inB n1 else bif (k1 == 3) then inB n1 && (n1.tmod 65536) != 0 else bif (k1 == 4) then namedB s1 else bif (k1 == 5) then decide ((s1.size : Int) ≤ 65536) else
    bif (k1 == 7) then (bif ((ks1.length : Int) != l1.length) then false else keysR [] ks1) else bif (k1 == 8) then decide (n1 ≥ 1) && decide (n1 ≤ 4096) else (k1 == 0 || k1 == 1) || k1 == 6
def flatB (k1 n1 : Int) (b1 : Bool) (s1 : ByteArray) (ks1 l1 : List Dat) : Bool := !bareB k1 n1 b1 s1 ks1 l1 && kindB k1 n1 s1 ks1 l1
def flatE : List AV → Bx → Option (Bool × Out)
  | [.agg [.v (.int .i64 k1), .v (.bool b1), .v (.int .i64 n1), .v (.string s1), .row none 9 ks1, .row none 43 l1]], [none] =>
    some (Nat.ble ks1.length 1000000, .ret (B (flatB k1 n1 b1 s1 ks1 l1)) [none])
  | _, _ => none
theorem flat_run {ext : CallF} {m : Nat} {k1 n1 : Int} {b1 : Bool} {s1 : ByteArray} {ks1 l1 : List Dat} (hf : ks1.length ≤ 1000000) (hm : 1000000 < m) :
    evFn PR TK (flC ext) m 93 [.agg (obA k1 n1 b1 s1 ks1 l1)] [none] = bR1 (flatB k1 n1 b1 s1 ks1 l1) := by
  have e := flat_loop1 (ext := ext) (k1 := k1) (n1 := n1) (b1 := b1) (s1 := s1) (l1 := l1) hf hm ks1.length 0 m (by omega) (by omega)
  rw [List.drop_zero, List.take_zero, show ((0 : Nat) : Int) = 0 from rfl] at e
  rw [flat_0, bare_eq, e]
  unfold flatB kindB
  cases bareB k1 n1 b1 s1 ks1 l1
  · simp only [andK_eq, orK_eq, cond_false, Bool.not_false, Bool.true_and]
    cases (k1 == 2)
    · cases (k1 == 3)
      · cases (k1 == 4)
        · cases (k1 == 5)
          · cases (k1 == 7)
            · cases (k1 == 8) <;> rfl
            · cases ((ks1.length : Int) != l1.length) <;> rfl
          · rfl
        · rfl
      · rfl
    · rfl
  · rfl
theorem flat_sound {ext : CallF} (hext : SoundCall PR ext) : SoundCall PR (addF 93 flatE ext) := by
  refine sound_both (sound_add (takes := TK) hmixP (rname_sound (rin_sound sound_none)) _ (fn := (PR.funcs[93]?).getD default) (by kernel_rfl) (by kernel_rfl) flatE fun xs bs out h => ?_) hext
  unfold flatE at h
  split at h
  · injection h with h
    injection h with h1 h2
    subst h2
    exact ⟨1000001, flat_run (Nat.le_of_ble_eq_true h1) (by omega)⟩
  · cases h
end Go.Proofs.YtckdgcpomkefpaaGreatDoor.En
end
section
set_option linter.unusedVariables false
set_option linter.unusedSimpArgs false
set_option maxRecDepth 100000
namespace Go.Proofs.YtckdgcpomkefpaaGreatDoor.En
open Go
def bu (l : List Dat) : List AV := [.self 79, .row (some (sub 0 1)) 5 l]
noncomputable def bC (ext : CallF) : CallF := addF 96 ccE ext
theorem wb_0 (ext : CallF) (m : Nat) (l : List Dat) (c : Int) : evFn PR TK (bC ext) m 71 [.box 0 0, .v (.int .u8 c)] [some (bu l), none] =
  bif Nat.ble (l.length + 1) fitsN then some (.ret (.v .nilIface) [some (bu (l ++ [.int c])), none]) else none := by kernel_rfl
theorem ws_0 (ext : CallF) (m : Nat) (l : List Dat) (s : ByteArray) : evFn PR TK (bC ext) m 66 [.box 0 0, S s] [some (bu l), none] =
  bif Nat.ble (l.length + s.size) fitsN then some (.ret (.tup [I s.size, .v .nilIface]) [some (bu (l ++ bytesTo s)), none]) else none := by kernel_rfl
theorem bl_0 (call : CallF) (m : Nat) (l : List Dat) : evFn PR TK call m 46 [.box 0 0] [some (bu l)] = some (.ret (I l.length) [some (bu l)]) := by kernel_rfl
def isBu (T m E : Nat) : Bool := Nat.beq T 79 && Nat.beq m (sub 0 1) && Nat.beq E 5
def wbE : List AV → Bx → Option (Bool × Out)
  | [.box 0 0, .v (.int .u8 c)], [some [.self T, .row (some m) E l], none] => bif isBu T m E then some (Nat.ble (l.length + 1) fitsN, .ret (.v .nilIface) [some (bu (l ++ [.int c])), none]) else none
  | _, _ => none
def wsE : List AV → Bx → Option (Bool × Out)
  | [.box 0 0, .v (.string s)], [some [.self T, .row (some m) E l], none] => bif isBu T m E then some (Nat.ble (l.length + s.size) fitsN, .ret (.tup [I s.size, .v .nilIface]) [some (bu (l ++ bytesTo s)), none]) else none
  | _, _ => none
def blE : List AV → Bx → Option (Bool × Out)
  | [.box 0 0], [some [.self T, .row (some m) E l]] => bif isBu T m E then some (true, .ret (I l.length) [some (bu l)]) else none
  | _, _ => none
theorem isBu_eq {T m E : Nat} (h : isBu T m E = true) : T = 79 ∧ m = sub 0 1 ∧ E = 5 := by
  unfold isBu at h
  simp only [Bool.and_eq_true] at h
  exact ⟨Nat.eq_of_beq_eq_true h.1.1, Nat.eq_of_beq_eq_true h.1.2, Nat.eq_of_beq_eq_true h.2⟩
theorem wb_sound {ext : CallF} (hext : SoundCall PR ext) : SoundCall PR (addF 71 wbE ext) := by
  refine sound_both (sound_add (takes := TK) hmixP (cc_sound sound_none) _ (fn := (PR.funcs[71]?).getD default) (by kernel_rfl) (by kernel_rfl) wbE fun xs bs out h => ?_) hext
  unfold wbE at h
  split at h
  · obtain ⟨hc, h⟩ := bif_some h
    injection h with h
    injection h with h1 h2
    obtain ⟨rfl, rfl, rfl⟩ := isBu_eq hc
    subst h2
    refine ⟨1, (wb_0 _ _ _ _).trans ?_⟩
    rw [h1]; rfl
  · cases h
theorem ws_sound {ext : CallF} (hext : SoundCall PR ext) : SoundCall PR (addF 66 wsE ext) := by
  refine sound_both (sound_add (takes := TK) hmixP (cc_sound sound_none) _ (fn := (PR.funcs[66]?).getD default) (by kernel_rfl) (by kernel_rfl) wsE fun xs bs out h => ?_) hext
  unfold wsE at h
  split at h
  · obtain ⟨hc, h⟩ := bif_some h
    injection h with h
    injection h with h1 h2
    obtain ⟨rfl, rfl, rfl⟩ := isBu_eq hc
    subst h2
    refine ⟨1, (ws_0 _ _ _ _).trans ?_⟩
    rw [h1]; rfl
  · cases h
theorem bl_sound {ext : CallF} (hext : SoundCall PR ext) : SoundCall PR (addF 46 blE ext) := by
  refine sound_add (takes := TK) hmixP hext _ (fn := (PR.funcs[46]?).getD default) (by kernel_rfl) (by kernel_rfl) blE fun xs bs out h => ?_
  unfold blE at h
  split at h
  · obtain ⟨hc, h⟩ := bif_some h
    injection h with h
    injection h with h1 h2
    obtain ⟨rfl, rfl, rfl⟩ := isBu_eq hc
    subst h2
    exact ⟨1, bl_0 _ _ _⟩
  · cases h
def delB (c : Int) : Bool := c == 40 || (c == 41 || (c == 60 || (c == 62 || (c == 91 || (c == 93 || (c == 123 || (c == 125 || (c == 47 || c == 37))))))))
def plainB (c : Int) : Bool := ((decide (33 ≤ c) && decide (c ≤ 126)) && !delB c) && c != 35
def del1 : List Int → Int → Option Out
  | [], _ => bR1 false
  | [a], c => bif c == a then bR1 true else bR1 false
  | a :: l, c => bif c == a then (bif c == a then bR1 true else bR1 false) else del1 l c
theorem del_0 (call : CallF) (m : Nat) (c : Int) : evFn PR TK call m 107 [.v (.int .u8 c)] [none] = del1 [40, 41, 60, 62, 91, 93, 123, 125, 47, 37] c := by kernel_rfl
theorem rdel_0 (call : CallF) (m : Nat) (c : Int) : evFn PR TK call m 102 [.v (.int .u8 c)] [none] =
    orK (c == 40) (c == 41) fun t => orK t (c == 60) fun t => orK t (c == 62) fun t => orK t (c == 91) fun t => orK t (c == 93) fun t => orK t (c == 123) fun t => orK t (c == 125) fun t => orK t (c == 47) fun t => orK t (c == 37) bR1 := by kernel_rfl
def delE : List AV → Bx → Option (Bool × Out)
  | [.v (.int .u8 c)], [none] => some (true, .ret (B (delB c)) [none])
  | _, _ => none
theorem del1_eq (c : Int) : del1 [40, 41, 60, 62, 91, 93, 123, 125, 47, 37] c = bR1 (delB c) := by
  unfold delB
  simp only [del1]
  cases c == 40 <;> cases c == 41 <;> cases c == 60 <;> cases c == 62 <;> cases c == 91 <;> cases c == 93 <;> cases c == 123 <;> cases c == 125 <;> cases c == 47 <;> cases c == 37 <;> rfl
theorem del_sound {ext : CallF} (hext : SoundCall PR ext) : SoundCall PR (addF 107 delE ext) := by
  refine sound_add (takes := TK) hmixP hext _ (fn := (PR.funcs[107]?).getD default) (by kernel_rfl) (by kernel_rfl) delE fun xs bs out h => ?_
  unfold delE at h
  split at h
  · cases h
    exact ⟨0, (del_0 _ _ _).trans (del1_eq _)⟩
  · cases h
theorem rdel_sound {ext : CallF} (hext : SoundCall PR ext) : SoundCall PR (addF 102 delE ext) := by
  refine sound_add (takes := TK) hmixP hext _ (fn := (PR.funcs[102]?).getD default) (by kernel_rfl) (by kernel_rfl) delE fun xs bs out h => ?_
  unfold delE at h
  split at h
  · cases h
    refine ⟨0, (rdel_0 _ _ _).trans ?_⟩
    simp only [orK_eq]
    unfold delB
    simp only [Bool.or_assoc]
    rfl
  · cases h
def plainE : List AV → Bx → Option (Bool × Out)
  | [.v (.int .u8 c)], [none] => some (true, .ret (B (plainB c)) [none])
  | _, _ => none
theorem plain_0 (ext : CallF) (m : Nat) (c : Int) : evFn PR TK (addF 107 delE ext) m 100 [.v (.int .u8 c)] [none] =
    andK (decide (33 ≤ c)) (decide (c ≤ 126)) fun t => andK t (!delB c) fun t => andK t (c != 35) bR1 := by kernel_rfl
theorem plain_sound {ext : CallF} (hext : SoundCall PR ext) : SoundCall PR (addF 100 plainE ext) := by
  refine sound_both (sound_add (takes := TK) hmixP (del_sound sound_none) _ (fn := (PR.funcs[100]?).getD default) (by kernel_rfl) (by kernel_rfl) plainE fun xs bs out h => ?_) hext
  unfold plainE at h
  split at h
  · cases h
    refine ⟨0, (plain_0 _ _ _).trans ?_⟩
    simp only [andK_eq]
    rfl
  · cases h
def figs : ByteArray := ⟨#[48, 49, 50, 51, 52, 53, 54, 55, 56, 57, 65, 66, 67, 68, 69, 70]⟩
noncomputable def nmC (ext : CallF) : CallF := addF 71 wbE (addF 100 plainE ext)
def tR0 (l : List Dat) : Option Out := some (.ret (.tup []) [some (bu l), none])
noncomputable def onmL (call : CallF) (m r : Nat) (l : List Dat) (s : ByteArray) (i : Int) := loopF PR TK call m 69 [some (bu l), none] [true, true] r (sp 34 [(0, .box 0 0), (1, S s), (9, I s.size), (10, I i)] [(0, bu l)])
theorem oname_0 (ext : CallF) (m : Nat) (l : List Dat) (s : ByteArray) : evFn PR TK (nmC ext) m 69 [.box 0 0, S s] [some (bu l), none] =
  bif Nat.ble (l.length + 1) fitsN then onmL (nmC ext) m m (l ++ [.int 47]) s 0 else none := by kernel_rfl
def hi4 (c : Int) : Int := c.fdiv (2 ^ (min (4 : Int).toNat IntKind.u8.bits))
def lo4 (c : Int) : Int := IntKind.u8.wrap (BitVec.ofInt IntKind.u8.bits c &&& BitVec.ofInt IntKind.u8.bits 15).toNat
theorem oname_1 (ext : CallF) (m r : Nat) (l : List Dat) (s : ByteArray) (i : Int) : onmL (nmC ext) m (r + 1) l s i =
  bif decide (i < s.size) then (bif (true && decide (0 ≤ i) && decide (i < s.size)) then
    (bif plainB (bt s i) then (bif Nat.ble (l.length + 1) fitsN then onmL (nmC ext) m r (l ++ [.int (bt s i)]) s (W (i + 1)) else none) else
      bif Nat.ble (l.length + 1) fitsN then (bif (true && decide (0 ≤ hi4 (bt s i)) && decide (hi4 (bt s i) < (figs.size : Int))) then
        (bif Nat.ble ((l ++ [Dat.int 35]).length + 1) fitsN then (bif (true && decide (0 ≤ lo4 (bt s i)) && decide (lo4 (bt s i) < (figs.size : Int))) then
          (bif Nat.ble (((l ++ [Dat.int 35]) ++ [Dat.int (bt figs (hi4 (bt s i)))]).length + 1) fitsN then onmL (nmC ext) m r (((l ++ [Dat.int 35]) ++ [Dat.int (bt figs (hi4 (bt s i)))]) ++ [Dat.int (bt figs (lo4 (bt s i)))]) s (W (i + 1)) else none) else none) else none) else none) else none) else none)
  else tR0 l := by kernel_rfl
end Go.Proofs.YtckdgcpomkefpaaGreatDoor.En
end
section
set_option linter.unusedVariables false
set_option linter.unusedSimpArgs false
set_option maxRecDepth 100000
namespace Go.Proofs.YtckdgcpomkefpaaGreatDoor.En
open Go
def qu (c : Int) : Int := IntKind.u8.wrap (c.tdiv 16)
def andO {β : Type} (c : Bool) (d : Option Bool) (k : Bool → Option β) : Option β := (bif c then d else some false).bind k
theorem andO_eq {β : Type} (c d : Bool) (k : Bool → Option β) : andO c (some d) k = k (c && d) := by cases c <;> rfl
def okI (s : ByteArray) (i : Int) : Bool := true && decide (0 ≤ i) && decide (i < s.size)
noncomputable def rnmC (ext : CallF) : CallF := addF 102 delE ext
noncomputable def rnmL (call : CallF) (m r : Nat) (s : ByteArray) (acc : List Dat) (i : Int) := loopF PR TK call m 74 [none] [true, true, false, true] r (sp 56 [(0, S s), (3, .row (some 3) 5 acc), (4, I i)] [])
theorem rnm_0 (ext : CallF) (m : Nat) (s : ByteArray) : evFn PR TK (rnmC ext) m 74 [S s] [none] = rnmL (rnmC ext) m m s [.int 47] 0 := by kernel_rfl
theorem rnm_1 (ext : CallF) (m r : Nat) (s : ByteArray) (acc : List Dat) (i : Int) : rnmL (rnmC ext) m (r + 1) s acc i =
  bif decide (i < s.size) then (bif okI s i then
    andO (decide (bt s i ≥ 33)) (bif okI s i then some (decide (bt s i ≤ 126)) else none) fun t => andO t (bif okI s i then some (!delB (bt s i)) else none) fun t => andO t (bif okI s i then some (bt s i != 35) else none) fun t =>
      bif t then (bif okI s i then (bif Nat.ble (acc.length + 1) fitsN then rnmL (rnmC ext) m r s (acc ++ [Dat.int (bt s i)]) (W (i + 1)) else none) else none) else
        (bif okI s i then (bif okI figs (qu (bt s i)) then (bif okI s i then (bif okI figs ((bt s i).tmod 16) then
          (bif Nat.ble (acc.length + 3) fitsN then rnmL (rnmC ext) m r s (acc ++ [Dat.int 35, Dat.int (bt figs (qu (bt s i))), Dat.int (bt figs ((bt s i).tmod 16))]) (W (i + 1)) else none) else none) else none) else none) else none) else none)
  else some (.ret (S (bytesOf acc)) [none]) := by kernel_rfl
def digOk (n : Nat) : Bool := okI figs (hi4 n) && (okI figs (lo4 n) && (decide (hi4 n = qu n) && decide (lo4 n = (n : Int).tmod 16)))
theorem dig_all : ∀ n : Fin 256, digOk n.val = true := by decide +kernel
theorem dig_ok (b : UInt8) : okI figs (hi4 b.toNat) = true ∧ okI figs (lo4 b.toNat) = true ∧ hi4 b.toNat = qu b.toNat ∧ lo4 b.toNat = (b.toNat : Int).tmod 16 := by
  have h := dig_all ⟨b.toNat, b.toNat_lt⟩
  unfold digOk at h
  simp only [Bool.and_eq_true, decide_eq_true_eq] at h
  exact ⟨h.1, h.2.1, h.2.2.1, h.2.2.2⟩
def esc (b : UInt8) : List Dat := bif plainB b.toNat then [Dat.int b.toNat] else [Dat.int 35, Dat.int (bt figs (hi4 b.toNat)), Dat.int (bt figs (lo4 b.toNat))]
def nameT (s : ByteArray) : List Dat := Dat.int 47 :: s.data.toList.flatMap esc
theorem esc_len (b : UInt8) : (esc b).length ≤ 3 := by unfold esc; cases plainB b.toNat <;> simp
theorem okI_nat {s : ByteArray} {i : Nat} (h : i < s.size) : okI s (i : Int) = true := by
  unfold okI
  rw [decide_eq_true (show (0 : Int) ≤ i by omega), decide_eq_true (show (i : Int) < s.size by omega)]; rfl
theorem fits_le {n : Nat} (h : n ≤ 1099511627776) : Nat.ble n fitsN = true := Nat.ble_eq_true_of_le h
theorem oname_loop {ext : CallF} {m : Nat} {s : ByteArray} (hf : s.size ≤ 140737488355328) : ∀ (n i r : Nat) (l : List Dat), i + n = s.data.toList.length → n < r → l.length + 3 * n ≤ 1099511627000 → onmL (nmC ext) m r l s (i : Int) = tR0 (l ++ (s.data.toList.drop i).flatMap esc) := by
  have hsz : s.data.toList.length = s.size := Array.length_toList
  intro n
  induction n with
  | zero =>
    intro i r l hi hr hl
    cases r with
    | zero => omega
    | succ r =>
      rw [oname_1, show decide ((i : Int) < s.size) = false from decide_eq_false (by omega), cond_false, List.drop_eq_nil_of_le (by omega), List.flatMap_nil, List.append_nil]
  | succ n ih =>
    intro i r l hi hr hl
    cases r with
    | zero => omega
    | succ r =>
      have h1 : i < s.data.toList.length := by omega
      have hbt := bt_nat s i h1
      obtain ⟨d1, d2, d3, d4⟩ := dig_ok s.data.toList[i]
      have hok : (true && decide ((0 : Int) ≤ i) && decide ((i : Int) < s.size)) = true := okI_nat (by omega)
      have d1' : (true && decide (0 ≤ hi4 (s.data.toList[i].toNat : Int)) && decide (hi4 (s.data.toList[i].toNat : Int) < (figs.size : Int))) = true := d1
      have d2' : (true && decide (0 ≤ lo4 (s.data.toList[i].toNat : Int)) && decide (lo4 (s.data.toList[i].toNat : Int) < (figs.size : Int))) = true := d2
      rw [oname_1, hok, show decide ((i : Int) < s.size) = true from decide_eq_true (by omega), cond_true, cond_true, hbt, d1', d2', W_in (n := (i : Int) + 1) (by omega), List.drop_eq_getElem_cons h1, List.flatMap_cons]
      have ih' := fun l h => ih (i + 1) r l (by omega) (by omega) h
      rw [show ((i + 1 : Nat) : Int) = (i : Int) + 1 by omega] at ih'
      rw [show esc s.data.toList[i] = bif plainB (s.data.toList[i].toNat : Int) then [Dat.int s.data.toList[i].toNat] else [Dat.int 35, Dat.int (bt figs (hi4 s.data.toList[i].toNat)), Dat.int (bt figs (lo4 s.data.toList[i].toNat))] from rfl]
      cases plainB (s.data.toList[i].toNat : Int)
      · rw [cond_false, cond_true, cond_true, fits_le (by omega), cond_true, fits_le (by simp; omega), cond_true, fits_le (by simp; omega), cond_true, ih' _ (by simp; omega), cond_false]
        simp
      · rw [cond_true, fits_le (by omega), cond_true, ih' _ (by simp; omega), cond_true]
        simp
theorem rnm_loop {ext : CallF} {m : Nat} {s : ByteArray} (hf : s.size ≤ 140737488355328) : ∀ (n i r : Nat) (l : List Dat), i + n = s.data.toList.length → n < r → l.length + 3 * n ≤ 1099511627000 → rnmL (rnmC ext) m r s l (i : Int) = some (.ret (S (bytesOf (l ++ (s.data.toList.drop i).flatMap esc))) [none]) := by
  have hsz : s.data.toList.length = s.size := Array.length_toList
  intro n
  induction n with
  | zero =>
    intro i r l hi hr hl
    cases r with
    | zero => omega
    | succ r =>
      rw [rnm_1, show decide ((i : Int) < s.size) = false from decide_eq_false (by omega), cond_false, List.drop_eq_nil_of_le (by omega), List.flatMap_nil, List.append_nil]
  | succ n ih =>
    intro i r l hi hr hl
    cases r with
    | zero => omega
    | succ r =>
      have h1 : i < s.data.toList.length := by omega
      have hbt := bt_nat s i h1
      obtain ⟨d1, d2, d3, d4⟩ := dig_ok s.data.toList[i]
      have hp : (((decide ((s.data.toList[i].toNat : Int) ≥ 33) && decide ((s.data.toList[i].toNat : Int) ≤ 126)) && !delB (s.data.toList[i].toNat : Int)) && (s.data.toList[i].toNat : Int) != 35) = plainB (s.data.toList[i].toNat : Int) := rfl
      rw [rnm_1, show decide ((i : Int) < s.size) = true from decide_eq_true (by omega), cond_true, okI_nat (s := s) (i := i) (by omega), cond_true, cond_true, cond_true, cond_true, hbt, andO_eq, andO_eq, andO_eq, hp, ← d3, ← d4, d1, d2, W_in (n := (i : Int) + 1) (by omega), List.drop_eq_getElem_cons h1, List.flatMap_cons]
      have ih' := fun l h => ih (i + 1) r l (by omega) (by omega) h
      rw [show ((i + 1 : Nat) : Int) = (i : Int) + 1 by omega] at ih'
      rw [show esc s.data.toList[i] = bif plainB (s.data.toList[i].toNat : Int) then [Dat.int s.data.toList[i].toNat] else [Dat.int 35, Dat.int (bt figs (hi4 s.data.toList[i].toNat)), Dat.int (bt figs (lo4 s.data.toList[i].toNat))] from rfl]
      cases plainB (s.data.toList[i].toNat : Int)
      · rw [cond_false, cond_true, cond_true, cond_true, cond_true, fits_le (by omega), cond_true, ih' _ (by simp; omega), cond_false]
        simp
      · rw [cond_true, cond_true, fits_le (by omega), cond_true, ih' _ (by simp; omega), cond_true]
        simp
def nmOk (s : ByteArray) (n : Nat) : Bool := Nat.ble s.size 100000000000 && Nat.ble n 500000000000
def nameE : List AV → Bx → Option (Bool × Out)
  | [.box 0 0, .v (.string s)], [some [.self T, .row (some m) E l], none] => bif isBu T m E then some (nmOk s l.length, .ret (.tup []) [some (bu (l ++ nameT s)), none]) else none
  | _, _ => none
def rnameE : List AV → Bx → Option (Bool × Out)
  | [.v (.string s)], [none] => some (Nat.ble s.size 100000000000, .ret (S (bytesOf (nameT s))) [none])
  | _, _ => none
theorem name_sound {ext : CallF} (hext : SoundCall PR ext) : SoundCall PR (addF 69 nameE ext) := by
  refine sound_both (sound_add (takes := TK) hmixP (wb_sound (plain_sound sound_none)) _ (fn := (PR.funcs[69]?).getD default) (by kernel_rfl) (by kernel_rfl) nameE fun xs bs out h => ?_) hext
  unfold nameE at h
  split at h
  · rename_i s T mm E l
    obtain ⟨hc, h⟩ := bif_some h
    injection h with h
    injection h with h1 h2
    obtain ⟨rfl, rfl, rfl⟩ := isBu_eq hc
    subst h2
    unfold nmOk at h1
    rw [Bool.and_eq_true] at h1
    have b1 := Nat.le_of_ble_eq_true h1.1
    have b2 := Nat.le_of_ble_eq_true h1.2
    have hsz : s.data.toList.length = s.size := Array.length_toList
    refine ⟨s.size + 1, (oname_0 _ _ _ _).trans ?_⟩
    have e := oname_loop (ext := fun _ _ _ => none) (m := s.size + 1) (s := s) (by omega) s.data.toList.length 0 (s.size + 1) (l ++ [Dat.int 47]) (by omega) (by omega) (by simp; omega)
    rw [List.drop_zero, show ((0 : Nat) : Int) = 0 from rfl] at e
    rw [fits_le (by omega), cond_true, e, List.append_assoc]
    rfl
  · cases h
theorem rnm_sound {ext : CallF} (hext : SoundCall PR ext) : SoundCall PR (addF 74 rnameE ext) := by
  refine sound_both (sound_add (takes := TK) hmixP (rdel_sound sound_none) _ (fn := (PR.funcs[74]?).getD default) (by kernel_rfl) (by kernel_rfl) rnameE fun xs bs out h => ?_) hext
  unfold rnameE at h
  split at h
  · rename_i s
    injection h with h
    injection h with h1 h2
    subst h2
    have b1 := Nat.le_of_ble_eq_true h1
    have hsz : s.data.toList.length = s.size := Array.length_toList
    refine ⟨s.size + 1, (rnm_0 _ _ _).trans ?_⟩
    have e := rnm_loop (ext := fun _ _ _ => none) (m := s.size + 1) (s := s) (by omega) s.data.toList.length 0 (s.size + 1) [Dat.int 47] (by omega) (by omega) (by simp; omega)
    rw [List.drop_zero, show ((0 : Nat) : Int) = 0 from rfl] at e
    rw [e]
    rfl
  · cases h
end Go.Proofs.YtckdgcpomkefpaaGreatDoor.En
end
section
set_option linter.unusedVariables false
set_option linter.unusedSimpArgs false
set_option maxRecDepth 100000
namespace Go.Proofs.YtckdgcpomkefpaaGreatDoor.En
open Go
noncomputable def wbC (ext : CallF) : CallF := addF 71 wbE ext
noncomputable def txS (call : CallF) (m r : Nat) (l : List Dat) (s : ByteArray) (t : Bool) (i : Int) := loopF PR TK call m 70 [some (bu l), none] [true, false, true] r (sp 84 [(0, .box 0 0), (1, S s), (4, B t), (10, I s.size), (11, I i)] [(0, bu l)])
noncomputable def txH (call : CallF) (m r : Nat) (l : List Dat) (s : ByteArray) (i : Int) := loopF PR TK call m 70 [some (bu l), none] [true, true, false, true, false, true, false, true] r (sp 84 [(0, .box 0 0), (1, S s), (33, I s.size), (34, I i)] [(0, bu l)])
noncomputable def txP (call : CallF) (m r : Nat) (l : List Dat) (s : ByteArray) (i : Int) := loopF PR TK call m 70 [some (bu l), none] [true, true, true, true, false, true] r (sp 84 [(0, .box 0 0), (1, S s), (57, I s.size), (58, I i)] [(0, bu l)])
theorem otx_0 (ext : CallF) (m : Nat) (l : List Dat) (s : ByteArray) : evFn PR TK (wbC ext) m 70 [.box 0 0, S s] [some (bu l), none] = txS (wbC ext) m m l s true 0 := by kernel_rfl
theorem otx_1 (ext : CallF) (m r : Nat) (l : List Dat) (s : ByteArray) (t : Bool) (i : Int) : txS (wbC ext) m (r + 1) l s t i =
  bif decide (i < s.size) then
    andO t (bif okI s i then some (decide (32 ≤ bt s i)) else none) fun t => andO t (bif okI s i then some (decide (bt s i ≤ 126)) else none) fun t => txS (wbC ext) m r l s t (W (i + 1))
  else bif !t then (bif Nat.ble (l.length + 1) fitsN then txH (wbC ext) m m (l ++ [.int 60]) s 0 else none) else (bif Nat.ble (l.length + 1) fitsN then txP (wbC ext) m m (l ++ [.int 40]) s 0 else none) := by kernel_rfl
theorem otx_2 (ext : CallF) (m r : Nat) (l : List Dat) (s : ByteArray) (i : Int) : txH (wbC ext) m (r + 1) l s i =
  bif decide (i < s.size) then
    (bif okI s i then (bif okI figs (hi4 (bt s i)) then
      (bif Nat.ble (l.length + 1) fitsN then (bif okI s i then (bif okI figs (lo4 (bt s i)) then
          (bif Nat.ble ((l ++ [Dat.int (bt figs (hi4 (bt s i)))]).length + 1) fitsN then txH (wbC ext) m r ((l ++ [Dat.int (bt figs (hi4 (bt s i)))]) ++ [Dat.int (bt figs (lo4 (bt s i)))]) s (W (i + 1)) else none) else none) else none) else none) else none) else none)
  else bif Nat.ble (l.length + 1) fitsN then tR0 (l ++ [.int 62]) else none := by kernel_rfl
theorem otx_3 (ext : CallF) (m r : Nat) (l : List Dat) (s : ByteArray) (i : Int) : txP (wbC ext) m (r + 1) l s i =
  bif decide (i < s.size) then
    (bif okI s i then orK (bt s i == 40) (bt s i == 41) fun t => orK t (bt s i == 92) fun t =>
      bif t then (bif Nat.ble (l.length + 1) fitsN then (bif okI s i then
        (bif Nat.ble ((l ++ [Dat.int 92]).length + 1) fitsN then txP (wbC ext) m r ((l ++ [Dat.int 92]) ++ [Dat.int (bt s i)]) s (W (i + 1)) else none) else none) else none)
      else (bif okI s i then (bif Nat.ble (l.length + 1) fitsN then txP (wbC ext) m r (l ++ [Dat.int (bt s i)]) s (W (i + 1)) else none) else none) else none)
  else bif Nat.ble (l.length + 1) fitsN then tR0 (l ++ [.int 41]) else none := by kernel_rfl
noncomputable def rsL (call : CallF) (m r : Nat) (s : ByteArray) (acc : List Dat) (i : Int) := loopF PR TK call m 75 [none] [true, true, false, true] r (sp 77 [(0, S s), (3, .row (some 3) 5 acc), (4, I i)] [])
noncomputable def rsL2 (call : CallF) (m r1 r : Nat) (s : ByteArray) (acc : List Dat) (i : Int) := loopF2 PR TK call m 75 [none] [true, true, false, true] r1 [true, false, false, true, false, true, false, true] r (sp 77 [(0, S s), (5, .row (some 5) 5 acc), (6, I i)] [])
theorem rs_0 (call : CallF) (m : Nat) (s : ByteArray) : evFn PR TK call m 75 [S s] [none] = rsL call m m s [.int 40] 0 := by kernel_rfl
theorem rs_2 (call : CallF) (m r1 r : Nat) (s : ByteArray) (acc : List Dat) (i : Int) : rsL2 call m r1 (r + 1) s acc i =
  bif decide (i < s.size) then
    (bif okI s i then (bif okI figs (qu (bt s i)) then (bif okI s i then (bif okI figs ((bt s i).tmod 16) then
      (bif Nat.ble (acc.length + 2) fitsN then rsL2 call m r1 r s (acc ++ [Dat.int (bt figs (qu (bt s i))), Dat.int (bt figs ((bt s i).tmod 16))]) (W (i + 1)) else none) else none) else none) else none) else none)
  else bif Nat.ble (acc.length + 1) fitsN then some (.ret (S (bytesOf (acc ++ [Dat.int 62]))) [none]) else none := by kernel_rfl
theorem rs_1 (call : CallF) (m r : Nat) (s : ByteArray) (acc : List Dat) (i : Int) : rsL call m (r + 1) s acc i =
  bif decide (i < s.size) then
    (bif okI s i then orO (decide (bt s i < 32)) (bif okI s i then some (decide (bt s i > 126)) else none) fun t =>
      bif t then rsL2 call m r m s [.int 60] 0 else
      (bif okI s i then orO (bt s i == 40) (bif okI s i then some (bt s i == 41) else none) fun t => orO t (bif okI s i then some (bt s i == 92) else none) fun t =>
        bif t then (bif Nat.ble (acc.length + 1) fitsN then (bif okI s i then
          (bif Nat.ble ((acc ++ [Dat.int 92]).length + 1) fitsN then rsL call m r s ((acc ++ [Dat.int 92]) ++ [Dat.int (bt s i)]) (W (i + 1)) else none) else none) else none)
        else (bif okI s i then (bif Nat.ble (acc.length + 1) fitsN then rsL call m r s (acc ++ [Dat.int (bt s i)]) (W (i + 1)) else none) else none) else none) else none)
  else bif Nat.ble (acc.length + 1) fitsN then some (.ret (S (bytesOf (acc ++ [Dat.int 41]))) [none]) else none := by kernel_rfl
end Go.Proofs.YtckdgcpomkefpaaGreatDoor.En
end
section
set_option linter.unusedVariables false
set_option linter.unusedSimpArgs false
set_option maxRecDepth 100000
namespace Go.Proofs.YtckdgcpomkefpaaGreatDoor.En
open Go
def shB (b : UInt8) : Bool := decide (32 ≤ (b.toNat : Int)) && decide ((b.toNat : Int) ≤ 126)
def escP (b : UInt8) : List Dat := bif ((b.toNat : Int) == 40 || (b.toNat : Int) == 41) || (b.toNat : Int) == 92 then [Dat.int 92, Dat.int b.toNat] else [Dat.int b.toNat]
def hex2 (b : UInt8) : List Dat := [Dat.int (bt figs (hi4 b.toNat)), Dat.int (bt figs (lo4 b.toNat))]
def hexT (s : ByteArray) : List Dat := (Dat.int 60 :: s.data.toList.flatMap hex2) ++ [Dat.int 62]
def parT (s : ByteArray) : List Dat := (Dat.int 40 :: s.data.toList.flatMap escP) ++ [Dat.int 41]
def txtT (s : ByteArray) : List Dat := bif s.data.toList.all shB then parT s else hexT s
theorem escP_len (b : UInt8) : (escP b).length ≤ 2 := by unfold escP; cases (((b.toNat : Int) == 40 || (b.toNat : Int) == 41) || (b.toNat : Int) == 92) <;> simp
theorem hex2_len (b : UInt8) : (hex2 b).length = 2 := rfl
theorem nat_succ_cast (i : Nat) : ((i + 1 : Nat) : Int) = (i : Int) + 1 := by omega
theorem txH_loop {ext : CallF} {m : Nat} {s : ByteArray} (hf : s.size ≤ 140737488355328) : ∀ (n i r : Nat) (l : List Dat), i + n = s.data.toList.length → n < r → l.length + 2 * n + 1 ≤ 1099511627000 → txH (wbC ext) m r l s (i : Int) = tR0 ((l ++ (s.data.toList.drop i).flatMap hex2) ++ [Dat.int 62]) := by
  have hsz : s.data.toList.length = s.size := Array.length_toList
  intro n
  induction n with
  | zero =>
    intro i r l hi hr hl
    cases r with
    | zero => omega
    | succ r =>
      rw [otx_2, show decide ((i : Int) < s.size) = false from decide_eq_false (by omega), cond_false, List.drop_eq_nil_of_le (by omega), List.flatMap_nil, List.append_nil, fits_le (by omega), cond_true]
  | succ n ih =>
    intro i r l hi hr hl
    cases r with
    | zero => omega
    | succ r =>
      have h1 : i < s.data.toList.length := by omega
      have hbt := bt_nat s i h1
      obtain ⟨d1, d2, d3, d4⟩ := dig_ok s.data.toList[i]
      have ih' := fun l h => ih (i + 1) r l (by omega) (by omega) h
      rw [nat_succ_cast] at ih'
      rw [otx_2, show decide ((i : Int) < s.size) = true from decide_eq_true (by omega), cond_true, okI_nat (s := s) (i := i) (by omega), cond_true, hbt, d1, cond_true, fits_le (by omega), cond_true, cond_true, d2, cond_true, fits_le (by simp; omega), cond_true, W_in (n := (i : Int) + 1) (by omega), ih' _ (by simp; omega), List.drop_eq_getElem_cons h1, List.flatMap_cons]
      simp [hex2]
theorem txP_loop {ext : CallF} {m : Nat} {s : ByteArray} (hf : s.size ≤ 140737488355328) : ∀ (n i r : Nat) (l : List Dat), i + n = s.data.toList.length → n < r → l.length + 2 * n + 1 ≤ 1099511627000 → txP (wbC ext) m r l s (i : Int) = tR0 ((l ++ (s.data.toList.drop i).flatMap escP) ++ [Dat.int 41]) := by
  have hsz : s.data.toList.length = s.size := Array.length_toList
  intro n
  induction n with
  | zero =>
    intro i r l hi hr hl
    cases r with
    | zero => omega
    | succ r =>
      rw [otx_3, show decide ((i : Int) < s.size) = false from decide_eq_false (by omega), cond_false, List.drop_eq_nil_of_le (by omega), List.flatMap_nil, List.append_nil, fits_le (by omega), cond_true]
  | succ n ih =>
    intro i r l hi hr hl
    cases r with
    | zero => omega
    | succ r =>
      have h1 : i < s.data.toList.length := by omega
      have hbt := bt_nat s i h1
      have ih' := fun l h => ih (i + 1) r l (by omega) (by omega) h
      rw [nat_succ_cast] at ih'
      rw [otx_3, show decide ((i : Int) < s.size) = true from decide_eq_true (by omega), cond_true, okI_nat (s := s) (i := i) (by omega), cond_true, hbt, orK_eq, orK_eq, W_in (n := (i : Int) + 1) (by omega), List.drop_eq_getElem_cons h1, List.flatMap_cons,
        show escP s.data.toList[i] = bif ((s.data.toList[i].toNat : Int) == 40 || (s.data.toList[i].toNat : Int) == 41) || (s.data.toList[i].toNat : Int) == 92 then [Dat.int 92, Dat.int s.data.toList[i].toNat] else [Dat.int s.data.toList[i].toNat] from rfl]
      cases (((s.data.toList[i].toNat : Int) == 40 || (s.data.toList[i].toNat : Int) == 41) || (s.data.toList[i].toNat : Int) == 92)
      · rw [cond_false, cond_true, fits_le (by omega), cond_true, ih' _ (by simp; omega), cond_false]
        simp
      · rw [cond_true, fits_le (by omega), cond_true, cond_true, fits_le (by simp; omega), cond_true, ih' _ (by simp; omega), cond_true]
        simp
theorem txS_loop {ext : CallF} {m : Nat} {s : ByteArray} (hf : s.size ≤ 140737488355328) (l : List Dat) (hl : l.length ≤ 1099511626000) : ∀ (n i r : Nat) (t : Bool), i + n = s.data.toList.length → n < r → txS (wbC ext) m r l s t (i : Int) =
    bif t && (s.data.toList.drop i).all shB then txP (wbC ext) m m (l ++ [.int 40]) s 0 else txH (wbC ext) m m (l ++ [.int 60]) s 0 := by
  have hsz : s.data.toList.length = s.size := Array.length_toList
  intro n
  induction n with
  | zero =>
    intro i r t hi hr
    cases r with
    | zero => omega
    | succ r =>
      rw [otx_1, show decide ((i : Int) < s.size) = false from decide_eq_false (by omega), cond_false, List.drop_eq_nil_of_le (by omega), List.all_nil, Bool.and_true, fits_le (by omega)]
      cases t
      · rw [show (!false) = true from rfl, cond_true, cond_true, cond_false]
      · rw [show (!true) = false from rfl, cond_false, cond_true, cond_true]
  | succ n ih =>
    intro i r t hi hr
    cases r with
    | zero => omega
    | succ r =>
      have h1 : i < s.data.toList.length := by omega
      have hbt := bt_nat s i h1
      have ih' := fun t => ih (i + 1) r t (by omega) (by omega)
      rw [nat_succ_cast] at ih'
      rw [otx_1, show decide ((i : Int) < s.size) = true from decide_eq_true (by omega), cond_true, okI_nat (s := s) (i := i) (by omega), cond_true, cond_true, hbt, andO_eq, andO_eq, W_in (n := (i : Int) + 1) (by omega), ih', List.drop_eq_getElem_cons h1, List.all_cons,
        show shB s.data.toList[i] = (decide (32 ≤ (s.data.toList[i].toNat : Int)) && decide ((s.data.toList[i].toNat : Int) ≤ 126)) from rfl, Bool.and_assoc, Bool.and_assoc, Bool.and_assoc]
theorem rsL2_loop {call : CallF} {m r1 : Nat} {s : ByteArray} (hf : s.size ≤ 140737488355328) : ∀ (n i r : Nat) (l : List Dat), i + n = s.data.toList.length → n < r → l.length + 2 * n + 1 ≤ 1099511627000 → rsL2 call m r1 r s l (i : Int) = some (.ret (S (bytesOf ((l ++ (s.data.toList.drop i).flatMap hex2) ++ [Dat.int 62]))) [none]) := by
  have hsz : s.data.toList.length = s.size := Array.length_toList
  intro n
  induction n with
  | zero =>
    intro i r l hi hr hl
    cases r with
    | zero => omega
    | succ r =>
      rw [rs_2, show decide ((i : Int) < s.size) = false from decide_eq_false (by omega), cond_false, List.drop_eq_nil_of_le (by omega), List.flatMap_nil, List.append_nil, fits_le (by omega), cond_true]
  | succ n ih =>
    intro i r l hi hr hl
    cases r with
    | zero => omega
    | succ r =>
      have h1 : i < s.data.toList.length := by omega
      have hbt := bt_nat s i h1
      obtain ⟨d1, d2, d3, d4⟩ := dig_ok s.data.toList[i]
      have ih' := fun l h => ih (i + 1) r l (by omega) (by omega) h
      rw [nat_succ_cast] at ih'
      rw [rs_2, show decide ((i : Int) < s.size) = true from decide_eq_true (by omega), cond_true, okI_nat (s := s) (i := i) (by omega), cond_true, hbt, ← d3, ← d4, d1, cond_true, cond_true, d2, cond_true, fits_le (by omega), cond_true, W_in (n := (i : Int) + 1) (by omega), ih' _ (by simp; omega), List.drop_eq_getElem_cons h1, List.flatMap_cons]
      simp [hex2]
theorem shB_eq (b : UInt8) : (decide ((b.toNat : Int) < 32) || decide ((b.toNat : Int) > 126)) = !shB b := by
  unfold shB
  rw [Bool.not_and, ← decide_not, ← decide_not]
  congr 1 <;> exact decide_eq_decide.mpr (by omega)
theorem rsL_loop {call : CallF} {m : Nat} {s : ByteArray} (hf : s.size ≤ 140737488355328) (hm : s.size < m) (hs : s.size ≤ 100000000000) : ∀ (n i r : Nat) (l : List Dat), i + n = s.data.toList.length → n < r → l.length + 2 * n + 1 ≤ 1099511627000 → rsL call m r s l (i : Int) =
    some (.ret (S (bytesOf (bif (s.data.toList.drop i).all shB then (l ++ (s.data.toList.drop i).flatMap escP) ++ [Dat.int 41] else hexT s))) [none]) := by
  have hsz : s.data.toList.length = s.size := Array.length_toList
  intro n
  induction n with
  | zero =>
    intro i r l hi hr hl
    cases r with
    | zero => omega
    | succ r =>
      rw [rs_1, show decide ((i : Int) < s.size) = false from decide_eq_false (by omega), cond_false, List.drop_eq_nil_of_le (by omega), List.flatMap_nil, List.append_nil, fits_le (by omega), cond_true, List.all_nil, cond_true]
  | succ n ih =>
    intro i r l hi hr hl
    cases r with
    | zero => omega
    | succ r =>
      have h1 : i < s.data.toList.length := by omega
      have hbt := bt_nat s i h1
      have ih' := fun l h => ih (i + 1) r l (by omega) (by omega) h
      rw [nat_succ_cast] at ih'
      have e2 := rsL2_loop (call := call) (m := m) (r1 := r) (s := s) hf s.data.toList.length 0 m [.int 60] (by omega) (by omega) (by simp; omega)
      rw [List.drop_zero, show ((0 : Nat) : Int) = 0 from rfl] at e2
      rw [rs_1, show decide ((i : Int) < s.size) = true from decide_eq_true (by omega), cond_true, okI_nat (s := s) (i := i) (by omega), cond_true, cond_true, hbt, orO_eq, shB_eq, e2, cond_true, cond_true, cond_true, orO_eq, orO_eq, W_in (n := (i : Int) + 1) (by omega), List.drop_eq_getElem_cons h1, List.all_cons, List.flatMap_cons]
      cases shB s.data.toList[i]
      · rw [show (!false) = true from rfl, cond_true, Bool.false_and, cond_false]; rfl
      · rw [show (!true) = false from rfl, cond_false, Bool.true_and,
          show escP s.data.toList[i] = bif ((s.data.toList[i].toNat : Int) == 40 || (s.data.toList[i].toNat : Int) == 41) || (s.data.toList[i].toNat : Int) == 92 then [Dat.int 92, Dat.int s.data.toList[i].toNat] else [Dat.int s.data.toList[i].toNat] from rfl]
        cases (((s.data.toList[i].toNat : Int) == 40 || (s.data.toList[i].toNat : Int) == 41) || (s.data.toList[i].toNat : Int) == 92)
        · rw [cond_false, cond_true, fits_le (by omega), cond_true, ih' _ (by simp; omega), cond_false]
          simp
        · rw [cond_true, fits_le (by omega), cond_true, cond_true, fits_le (by simp; omega), cond_true, ih' _ (by simp; omega), cond_true]
          simp
def txtE : List AV → Bx → Option (Bool × Out)
  | [.box 0 0, .v (.string s)], [some [.self T, .row (some m) E l], none] => bif isBu T m E then some (nmOk s l.length, .ret (.tup []) [some (bu (l ++ txtT s)), none]) else none
  | _, _ => none
def rstrE : List AV → Bx → Option (Bool × Out)
  | [.v (.string s)], [none] => some (Nat.ble s.size 100000000000, .ret (S (bytesOf (txtT s))) [none])
  | _, _ => none
theorem text_sound {ext : CallF} (hext : SoundCall PR ext) : SoundCall PR (addF 70 txtE ext) := by
  refine sound_both (sound_add (takes := TK) hmixP (wb_sound sound_none) _ (fn := (PR.funcs[70]?).getD default) (by kernel_rfl) (by kernel_rfl) txtE fun xs bs out h => ?_) hext
  unfold txtE at h
  split at h
  · rename_i s T mm E l
    obtain ⟨hc, h⟩ := bif_some h
    injection h with h
    injection h with h1 h2
    obtain ⟨rfl, rfl, rfl⟩ := isBu_eq hc
    subst h2
    unfold nmOk at h1
    rw [Bool.and_eq_true] at h1
    have b1 := Nat.le_of_ble_eq_true h1.1
    have b2 := Nat.le_of_ble_eq_true h1.2
    have hsz : s.data.toList.length = s.size := Array.length_toList
    refine ⟨s.size + 1, (otx_0 _ _ _ _).trans ?_⟩
    have e := txS_loop (ext := fun _ _ _ => none) (m := s.size + 1) (s := s) (by omega) l (by omega) s.data.toList.length 0 (s.size + 1) true (by omega) (by omega)
    have e1 := txP_loop (ext := fun _ _ _ => none) (m := s.size + 1) (s := s) (by omega) s.data.toList.length 0 (s.size + 1) (l ++ [Dat.int 40]) (by omega) (by omega) (by simp; omega)
    have e2 := txH_loop (ext := fun _ _ _ => none) (m := s.size + 1) (s := s) (by omega) s.data.toList.length 0 (s.size + 1) (l ++ [Dat.int 60]) (by omega) (by omega) (by simp; omega)
    rw [List.drop_zero, show ((0 : Nat) : Int) = 0 from rfl] at e e1 e2
    rw [e, e1, e2, Bool.true_and]
    unfold txtT
    cases s.data.toList.all shB
    · rw [cond_false, cond_false]; unfold hexT; simp [tR0]
    · rw [cond_true, cond_true]; unfold parT; simp [tR0]
  · cases h
theorem rstr_sound {ext : CallF} (hext : SoundCall PR ext) : SoundCall PR (addF 75 rstrE ext) := by
  refine sound_both (sound_add (takes := TK) hmixP sound_none _ (fn := (PR.funcs[75]?).getD default) (by kernel_rfl) (by kernel_rfl) rstrE fun xs bs out h => ?_) hext
  unfold rstrE at h
  split at h
  · rename_i s
    injection h with h
    injection h with h1 h2
    subst h2
    have b1 := Nat.le_of_ble_eq_true h1
    have hsz : s.data.toList.length = s.size := Array.length_toList
    refine ⟨s.size + 1, (rs_0 _ _ _).trans ?_⟩
    have e := rsL_loop (call := fun _ _ _ => none) (m := s.size + 1) (s := s) (by omega) (by omega) b1 s.data.toList.length 0 (s.size + 1) [Dat.int 40] (by omega) (by omega) (by simp; omega)
    rw [List.drop_zero, show ((0 : Nat) : Int) = 0 from rfl] at e
    rw [e]
    rfl
  · cases h
end Go.Proofs.YtckdgcpomkefpaaGreatDoor.En
end
section
namespace Go.Proofs.YtckdgcpomkefpaaGreatDoor.En
open Go
set_option linter.unusedVariables false
set_option linter.unusedSimpArgs false
def val (l : List Nat) : Nat := l.foldl (fun n d => 10 * n + d) 0
theorem val_from (l : List Nat) : ∀ n, l.foldl (fun n d => 10 * n + d) n = n * 10 ^ l.length + val l := by
  induction l with
  | nil => intro n; simp [val]
  | cons a l ih =>
    intro n
    simp only [List.foldl_cons, List.length_cons, val]
    rw [ih, ih (10 * 0 + a), Nat.pow_succ]
    have : (10 * n + a) * 10 ^ l.length = n * (10 ^ l.length * 10) + a * 10 ^ l.length := by
      rw [Nat.add_mul]; congr 1
      rw [Nat.mul_comm 10 n, Nat.mul_assoc, Nat.mul_comm 10]
    rw [this]; simp; omega
theorem val_cons (a : Nat) (l : List Nat) : val (a :: l) = a * 10 ^ l.length + val l := by
  show l.foldl _ (10 * 0 + a) = _
  rw [val_from]; simp
theorem val_snoc (l : List Nat) (a : Nat) : val (l ++ [a]) = 10 * val l + a := by simp [val]
theorem val_lt : ∀ l : List Nat, (∀ d ∈ l, d < 10) → val l < 10 ^ l.length
  | [], _ => by simp [val]
  | a :: l, h => by
    have h1 := val_lt l (fun d hd => h d (List.mem_cons_of_mem _ hd))
    have h2 := h a List.mem_cons_self
    rw [val_cons, List.length_cons, Nat.pow_succ]
    have : a * 10 ^ l.length ≤ 9 * 10 ^ l.length := Nat.mul_le_mul_right _ (by omega)
    omega
theorem val_inj : ∀ a b : List Nat, a.length = b.length → (∀ d ∈ a, d < 10) → (∀ d ∈ b, d < 10) → val a = val b → a = b
  | [], [], _, _, _, _ => rfl
  | [], _ :: _, h, _, _, _ => by simp at h
  | _ :: _, [], h, _, _, _ => by simp at h
  | x :: a, y :: b, hl, ha, hb, hv => by
    have hl' : a.length = b.length := by simpa using hl
    have h1 := val_lt a (fun d hd => ha d (List.mem_cons_of_mem _ hd))
    have h2 := val_lt b (fun d hd => hb d (List.mem_cons_of_mem _ hd))
    rw [val_cons, val_cons, hl'] at hv
    rw [hl'] at h1
    have hxy : x = y := by
      have e1 : (x * 10 ^ b.length + val a) / 10 ^ b.length = x := by
        rw [Nat.mul_comm, Nat.mul_add_div (Nat.pow_pos (by omega)), Nat.div_eq_of_lt h1]; rfl
      have e2 : (y * 10 ^ b.length + val b) / 10 ^ b.length = y := by
        rw [Nat.mul_comm, Nat.mul_add_div (Nat.pow_pos (by omega)), Nat.div_eq_of_lt h2]; rfl
      rw [← e1, ← e2, hv]
    subst hxy
    rw [val_inj a b hl' (fun d hd => ha d (List.mem_cons_of_mem _ hd)) (fun d hd => hb d (List.mem_cons_of_mem _ hd)) (by omega)]
theorem val_replicate (k : Nat) (l : List Nat) : val (List.replicate k 0 ++ l) = val l := by
  induction k with
  | zero => simp
  | succ k ih => rw [List.replicate_succ, List.cons_append, val_cons, ih]; simp
def natDigits (u : Nat) : List Nat := if h : u < 10 then [u] else natDigits (u / 10) ++ [u % 10]
termination_by u
decreasing_by omega
theorem natDigits_small {u : Nat} (h : u < 10) : natDigits u = [u] := by rw [natDigits, dif_pos h]
theorem natDigits_big {u : Nat} (h : ¬ u < 10) : natDigits u = natDigits (u / 10) ++ [u % 10] := by rw [natDigits, dif_neg h]
theorem natDigits_digits (u : Nat) : ∀ d ∈ natDigits u, d < 10 := by
  induction u using Nat.strongRecOn with
  | _ u ih =>
    by_cases h : u < 10
    · rw [natDigits_small h]; simpa using h
    · rw [natDigits_big h]
      intro d hd
      rcases List.mem_append.1 hd with h1 | h1
      · exact ih (u / 10) (by omega) d h1
      · simp at h1; omega
theorem val_natDigits (u : Nat) : val (natDigits u) = u := by
  induction u using Nat.strongRecOn with
  | _ u ih =>
    by_cases h : u < 10
    · rw [natDigits_small h]; simp [val]
    · rw [natDigits_big h, val_snoc, ih (u / 10) (by omega)]; omega
theorem natDigits_pos (u : Nat) : 1 ≤ (natDigits u).length := by
  by_cases h : u < 10
  · rw [natDigits_small h]; simp
  · rw [natDigits_big h]; simp
theorem natDigits_length (k : Nat) : ∀ u, u < 10 ^ (k + 1) → (natDigits u).length ≤ k + 1 := by
  induction k with
  | zero => intro u h; rw [natDigits_small (by simpa using h)]; simp
  | succ k ih =>
    intro u h
    by_cases h1 : u < 10
    · rw [natDigits_small h1]; simp
    · rw [natDigits_big h1, List.length_append, List.length_singleton]
      have := ih (u / 10) (by rw [Nat.pow_succ] at h; omega)
      omega
def full : Nat → Nat → List Nat
  | 0, _ => []
  | k + 1, r => (r * 10 / 65536) :: full k (r * 10 % 65536)
def remk : Nat → Nat → Nat
  | 0, r => r
  | k + 1, r => remk k (r * 10 % 65536)
def fracD : Nat → Nat → List Nat
  | 0, _ => []
  | k + 1, r => if r = 0 then [] else (r * 10 / 65536) :: fracD k (r * 10 % 65536)
theorem full_length : ∀ k r, (full k r).length = k
  | 0, _ => rfl
  | k + 1, r => by simp [full, full_length k]
theorem full_digits : ∀ k r, r < 65536 → ∀ d ∈ full k r, d < 10
  | 0, _, _, d, h => by simp [full] at h
  | k + 1, r, hr, d, h => by
    simp only [full, List.mem_cons] at h
    rcases h with rfl | h
    · omega
    · exact full_digits k _ (Nat.mod_lt _ (by omega)) d h
theorem full_val : ∀ k r, r < 65536 → val (full k r) * 65536 + remk k r = r * 10 ^ k ∧ remk k r < 65536
  | 0, r, hr => by simp [full, remk, val, hr]
  | k + 1, r, hr => by
    obtain ⟨h1, h2⟩ := full_val k (r * 10 % 65536) (Nat.mod_lt _ (by omega))
    refine ⟨?_, h2⟩
    simp only [full, remk]
    rw [val_cons, full_length, Nat.add_mul, Nat.add_assoc, h1, Nat.pow_succ]
    have e : r * (10 ^ k * 10) = (r * 10) * 10 ^ k := by rw [Nat.mul_comm (10 ^ k) 10, Nat.mul_assoc]
    rw [e, Nat.mul_right_comm, ← Nat.add_mul, Nat.div_add_mod']
theorem fracD_zero (k : Nat) : fracD k 0 = [] := by cases k <;> simp [fracD]
theorem fracD_length : ∀ k r, (fracD k r).length ≤ k
  | 0, _ => by simp [fracD]
  | k + 1, r => by
    simp only [fracD]
    split
    · simp
    · have := fracD_length k (r * 10 % 65536)
      simp; omega
def trimZ (l : List Nat) : List Nat := (l.reverse.dropWhile (· == 0)).reverse
theorem dropWhile_append_ {α : Type} (p : α → Bool) (a b : List α) : (a ++ b).dropWhile p = if a.dropWhile p = [] then b.dropWhile p else a.dropWhile p ++ b := by
  induction a with
  | nil => simp
  | cons x a ih =>
    simp only [List.cons_append, List.dropWhile_cons]
    split
    · exact ih
    · simp
theorem trimZ_cons (d : Nat) (l : List Nat) : trimZ (d :: l) = if trimZ l = [] ∧ d = 0 then [] else d :: trimZ l := by
  unfold trimZ
  rw [List.reverse_cons, dropWhile_append_]
  by_cases h : l.reverse.dropWhile (· == 0) = []
  · rw [if_pos h, h]
    by_cases hd : d = 0
    · subst hd; simp
    · simp [hd]
  · rw [if_neg h]
    simp [h]
theorem trimZ_full : ∀ k r, r < 65536 → remk k r = 0 → trimZ (full k r) = fracD k r
  | 0, _, _, _ => rfl
  | k + 1, r, hr, h => by
    have ih := trimZ_full k (r * 10 % 65536) (Nat.mod_lt _ (by omega)) h
    simp only [full, trimZ_cons, ih, fracD]
    by_cases h0 : r = 0
    · subst h0; simp [fracD_zero]
    · rw [if_neg h0, if_neg]
      rintro ⟨h1, h2⟩
      have h3 : r * 10 % 65536 = 0 := by
        cases k with
        | zero => simpa [remk] using h
        | succ k =>
          simp only [fracD] at h1
          split at h1
          · assumption
          · cases h1
      omega
theorem ten16 : (10 : Nat) ^ 16 = 152587890625 * 65536 := by decide
theorem rem_key (v m r : Nat) (h1 : v * 65536 + m = r * 10 ^ 16) (h2 : m < 65536) : m = 0 ∧ v = r * 152587890625 := by
  rw [ten16, ← Nat.mul_assoc] at h1
  obtain ⟨q, hq⟩ : ∃ q, q = r * 152587890625 := ⟨_, rfl⟩
  rw [← hq] at h1 ⊢
  omega
theorem rem16 (r : Nat) (hr : r < 65536) : remk 16 r = 0 ∧ val (full 16 r) = r * 152587890625 :=
  rem_key _ _ r (full_val 16 r hr).1 (full_val 16 r hr).2
theorem fracD_succ (k r : Nat) : fracD (k + 1) r = if r = 0 then [] else (r * 10 / 65536) :: fracD k (r * 10 % 65536) := rfl
theorem remk_succ (k r : Nat) : remk (k + 1) r = remk k (r * 10 % 65536) := rfl
theorem remk_zero (r : Nat) : remk 0 r = r := rfl
attribute [irreducible] full fracD remk
end Go.Proofs.YtckdgcpomkefpaaGreatDoor.En
end
section
set_option linter.unusedVariables false
set_option linter.unusedSimpArgs false
set_option maxRecDepth 100000
namespace Go.Proofs.YtckdgcpomkefpaaGreatDoor.En
open Go
def trimE : List AV → Bx → Option (Bool × Out)
  | [.v (.string s), .v (.string c)], [none, none] => (match c.data.toList with
    | [b] => some (Nat.blt b.toNat 128 && Nat.ble s.size 9223372036854775807, .ret (S ⟨(Lib.trimRightB s.data.toList b).toArray⟩) [none, none])
    | _ => none)
  | _, _ => none
theorem trim_sound {ext : CallF} (hext : SoundCall PR ext) : SoundCall PR (addF 98 trimE ext) := by
  refine sound_ext hext _ (fn := (PR.funcs[98]?).getD default) (by kernel_rfl) (by kernel_rfl) trimE fun xs bs out h g w vs hm hL hl hv hr => ?_
  unfold trimE at h
  split at h
  · rename_i s c
    split at h
    · rename_i b hb
      injection h with h
      injection h with hc h
      subst h
      rw [Bool.and_eq_true] at hc
      obtain rfl := args_v (P := PR) [.string s, .string c] hv hr
      have hc' : c = ⟨#[b]⟩ := by
        cases c with | mk d => cases d with | mk l => simp at hb; subst hb; rfl
      subst hc'
      refine (Tryz.strings_TrimRight_one s b (Nat.le_of_ble_eq_true hc.1) w (Nat.le_of_ble_eq_true hc.2)).mono fun e w' he => ?_
      obtain ⟨rfl, rfl⟩ := he
      exact post_v hm (by simp) rfl (Fr.refl _ _)
    · cases h
  · cases h
def repE : List AV → Bx → Option (Bool × Out)
  | [.v (.string s), .v (.int .i64 n)], [none, none] => some (decide (0 ≤ n) && (decide (n ≤ 9223372036854775807) && Nat.ble (s.size * n.toNat) 140737488355328), .ret (S ⟨(Lib.repeatL s.data.toList n.toNat).toArray⟩) [none, none])
  | _, _ => none
theorem rep_sound {ext : CallF} (hext : SoundCall PR ext) : SoundCall PR (addF 99 repE ext) := by
  refine sound_ext hext _ (fn := (PR.funcs[99]?).getD default) (by kernel_rfl) (by kernel_rfl) repE fun xs bs out h g w vs hm hL hl hv hr => ?_
  unfold repE at h
  split at h
  · rename_i s n
    injection h with h
    injection h with hc h
    subst h
    rw [Bool.and_eq_true, Bool.and_eq_true, decide_eq_true_eq, decide_eq_true_eq] at hc
    obtain ⟨c1, c2, c3⟩ := hc
    obtain rfl := args_v (P := PR) [.string s, .int .i64 n] hv hr
    have hn : ((n.toNat : Nat) : Int) = n := Int.toNat_of_nonneg c1
    have := Tryz.strings_Repeat s n.toNat w (by omega) (Nat.le_of_ble_eq_true c3)
    rw [hn] at this
    refine this.mono fun e w' he => ?_
    obtain ⟨rfl, hb⟩ := he
    exact post_v hm (by simp) rfl (Fr.of_below hb (Nat.le_refl _))
  · cases h
def fbE : List AV → Bx → Option (Bool × Out)
  | [.v (.bool b)], [none] => some (true, .ret (S (bif b then ⟨#[116, 114, 117, 101]⟩ else ⟨#[102, 97, 108, 115, 101]⟩)) [none])
  | _, _ => none
theorem fb_0 (call : CallF) (m : Nat) (b : Bool) : evFn PR TK call m 97 [B b] [none] = bif b then some (.ret (S ⟨#[116, 114, 117, 101]⟩) [none]) else some (.ret (S ⟨#[102, 97, 108, 115, 101]⟩) [none]) := by kernel_rfl
theorem fb_1 (ext : CallF) (m : Nat) (b : Bool) : evFn PR TK (addF 97 fbE ext) m 67 [B b] [none] = some (.ret (S (bif b then ⟨#[116, 114, 117, 101]⟩ else ⟨#[102, 97, 108, 115, 101]⟩)) [none]) := by kernel_rfl
theorem fb0_sound {ext : CallF} (hext : SoundCall PR ext) : SoundCall PR (addF 97 fbE ext) := by
  refine sound_add (takes := TK) hmixP hext _ (fn := (PR.funcs[97]?).getD default) (by kernel_rfl) (by kernel_rfl) fbE fun xs bs out h => ?_
  unfold fbE at h
  split at h
  · rename_i b
    cases h
    refine ⟨0, (fb_0 _ _ _).trans ?_⟩
    cases b <;> rfl
  · cases h
theorem fb_sound {ext : CallF} (hext : SoundCall PR ext) : SoundCall PR (addF 67 fbE ext) := by
  refine sound_both (sound_add (takes := TK) hmixP (fb0_sound sound_none) _ (fn := (PR.funcs[67]?).getD default) (by kernel_rfl) (by kernel_rfl) fbE fun xs bs out h => ?_) hext
  unfold fbE at h
  split at h
  · rename_i b
    cases h
    exact ⟨0, fb_1 _ _ _⟩
  · cases h
def itOk (n : Int) : Bool := decide (-9223372036854775808 ≤ n) && decide (n ≤ 9223372036854775807)
def itS (n : Int) : ByteArray := ⟨(itoaF n).toArray⟩
def glueO {β : Type} (a b : ByteArray) (k : ByteArray → Option β) : Option β := bif decide (a.size + b.size ≤ 4611686018427387904) then k (a ++ b) else none
noncomputable def decF : Nat → Int → ByteArray
  | 0, _ => ⟨#[]⟩
  | k + 1, n => bif decide (n < 10) then bytesOf [.int (IntKind.u8.wrap (W (48 + n)))] else decF k (W (n.tdiv 10)) ++ bytesOf [.int (IntKind.u8.wrap (W (48 + n.tmod 10)))]
def decOk (k : Nat) (n : Int) : Bool := Nat.ble 1 k && (Nat.ble k 18 && (decide (0 ≤ n) && decide (n < 10 ^ k)))
noncomputable def decE (k : Nat) : List AV → Bx → Option (Bool × Out)
  | [.v (.int .i64 n)], [none] => some (decOk k n, .ret (S (decF k n)) [none])
  | _, _ => none
theorem dec_0 (k : Nat) (ext : CallF) (m : Nat) (n : Int) : evFn PR TK (addF 59 (decE k) ext) m 59 [I n] [none] =
  bif decide (n < 10) then some (.ret (S (bytesOf [.int (IntKind.u8.wrap (W (48 + n)))])) [none]) else
    bif decOk k (W (n.tdiv 10)) then
      glueO (decF k (W (n.tdiv 10))) (bytesOf [.int (IntKind.u8.wrap (W (48 + n.tmod 10)))]) fun s => some (.ret (S s) [none]) else none := by kernel_rfl
def sh16 (x : Int) : Int := x.fdiv (2 ^ (min (16 : Int).toNat IntKind.i64.bits))
def an16 (x : Int) : Int := IntKind.i64.wrap (BitVec.ofInt IntKind.i64.bits x &&& BitVec.ofInt IntKind.i64.bits 65535).toNat
def repOk (n : Int) : Bool := decide (0 ≤ n) && (decide (n ≤ 9223372036854775807) && Nat.ble (1 * n.toNat) 140737488355328)
def zeros (n : Int) : ByteArray := ⟨(Lib.repeatL [48] n.toNat).toArray⟩
def cut0 (s : ByteArray) : ByteArray := ⟨(Lib.trimRightB s.data.toList 48).toArray⟩
noncomputable def dgC (ext : CallF) : CallF := addF 62 inE (addF 58 itoaE (addF 99 repE (addF 98 trimE ext)))
def dR (s : ByteArray) (b : Bool) : Option Out := some (.ret (.tup [S s, B b]) [none])
noncomputable def dgK (sg : ByteArray) (x : Int) : Option Out :=
  bif itOk (sh16 x) then glueO sg (itS (sh16 x)) fun s =>
    bif an16 x != 0 then (bif itOk (W (an16 x * 152587890625)) then
      (bif repOk (W (16 - (itS (W (an16 x * 152587890625))).size)) then glueO (zeros (W (16 - (itS (W (an16 x * 152587890625))).size))) (itS (W (an16 x * 152587890625))) fun t =>
        (bif Nat.ble t.size 9223372036854775807 then glueO ⟨#[46]⟩ (cut0 t) fun u => glueO s u fun v => dR v true else none) else none) else none)
    else dR s true else none
theorem dg_0 (ext : CallF) (m : Nat) (x : Int) : evFn PR TK (dgC ext) m 68 [I x] [none] =
  bif !inB x then dR ⟨#[]⟩ false else bif decide (x < 0) then dgK ⟨#[45]⟩ (W (0 - x)) else dgK ⟨#[]⟩ x := by kernel_rfl
end Go.Proofs.YtckdgcpomkefpaaGreatDoor.En
end
section
set_option linter.unusedVariables false
set_option linter.unusedSimpArgs false
set_option maxRecDepth 100000
namespace Go.Proofs.YtckdgcpomkefpaaGreatDoor.En
open Go
def bs (l : List UInt8) : ByteArray := ⟨l.toArray⟩
theorem bs_size (l : List UInt8) : (bs l).size = l.length := by simp [bs, ByteArray.size]
def asU (l : List Nat) : List UInt8 := l.map fun d => UInt8.ofNat (48 + d)
theorem asU_append (a b : List Nat) : asU (a ++ b) = asU a ++ asU b := by simp [asU]
theorem asU_length (a : List Nat) : (asU a).length = a.length := by simp [asU]
theorem ba_inj {a b : ByteArray} (h : a.data.toList = b.data.toList) : a = b := by
  cases a; cases b; simp only [Array.toList_inj] at h; subst h; rfl
theorem bs_append (a b : List UInt8) : bs a ++ bs b = bs (a ++ b) := ba_inj (by
  show (bs a ++ bs b).data.toList = _
  rw [ByteArray.data_append, Array.toList_append]; rfl)
theorem decDigits_asU (u : Nat) : Lib.decDigits u = asU (natDigits u) := by
  induction u using Nat.strongRecOn with
  | _ u ih =>
    rw [Lib.decDigits]
    by_cases h : u < 10
    · rw [dif_pos h, natDigits_small h]; rfl
    · rw [dif_neg h, natDigits_big h, asU_append, ih (u / 10) (by omega)]; rfl
theorem itS_nat (u : Nat) (h : u ≤ 9223372036854775807) : itS (u : Int) = bs (asU (natDigits u)) := by
  unfold itS
  rw [itoaF_eq (by omega) (by omega), Lib.itoa_nonneg, decDigits_asU]; rfl
theorem itOk_nat {u : Nat} (h : u ≤ 9223372036854775807) : itOk (u : Int) = true := by
  unfold itOk
  rw [decide_eq_true (by omega), decide_eq_true (by omega)]; rfl
theorem glueO_eq {β : Type} {a b : ByteArray} (k : ByteArray → Option β) (h : a.size + b.size ≤ 4611686018427387904) : glueO a b k = k (a ++ b) := by
  unfold glueO
  rw [decide_eq_true h]; rfl
theorem glue_bs {β : Type} {a b : List UInt8} (k : ByteArray → Option β) (h : a.length + b.length ≤ 1000000) : glueO (bs a) (bs b) k = k (bs (a ++ b)) := by
  rw [glueO_eq _ (by rw [bs_size, bs_size]; omega), bs_append]
theorem sh16_nat (u : Nat) : sh16 (u : Int) = ((u / 65536 : Nat) : Int) := by
  unfold sh16
  rw [show (2 : Int) ^ (min (16 : Int).toNat IntKind.i64.bits) = 65536 from rfl, Int.fdiv_eq_ediv_of_nonneg _ (by omega)]
  omega
theorem an16_nat (u : Nat) (h : u < 4611686018427387904) : an16 (u : Int) = ((u % 65536 : Nat) : Int) := by
  unfold an16
  have e : (BitVec.ofInt IntKind.i64.bits (u : Int) &&& BitVec.ofInt IntKind.i64.bits 65535).toNat = u % 65536 := by
    rw [BitVec.toNat_and, BitVec.toNat_ofInt, BitVec.toNat_ofInt]
    have e1 : ((u : Int) % ((2 ^ IntKind.i64.bits : Nat) : Int)).toNat = u := by
      show ((u : Int) % 18446744073709551616).toNat = u
      omega
    have e2 : ((65535 : Int) % ((2 ^ IntKind.i64.bits : Nat) : Int)).toNat = 2 ^ 16 - 1 := rfl
    rw [e1, e2, Nat.and_two_pow_sub_one_eq_mod]
  rw [e]
  exact IntWalk.i64_in _ (by omega)
def textBody (u : Nat) : List UInt8 := asU (natDigits (u / 65536)) ++ if u % 65536 = 0 then [] else 46 :: asU (fracD 16 (u % 65536))
def fixT (x : Int) : ByteArray := bs ((if x < 0 then [45] else []) ++ textBody x.natAbs)
theorem trimRight_asU (l : List Nat) (h : ∀ d ∈ l, d < 10) : Lib.trimRightB (asU l) 48 = asU (trimZ l) := by
  unfold Lib.trimRightB trimZ asU
  rw [← List.map_reverse]
  have h' : ∀ d ∈ l.reverse, d < 10 := fun d hd => h d (List.mem_reverse.1 hd)
  generalize l.reverse = m at h' ⊢
  rw [List.map_reverse]
  congr 1
  induction m with
  | nil => rfl
  | cons a m ih =>
    have ha := h' a List.mem_cons_self
    simp only [List.map_cons, List.dropWhile_cons]
    have e : (UInt8.ofNat (48 + a) == 48) = (a == 0) := by
      rw [Bool.eq_iff_iff, beq_iff_eq, beq_iff_eq]
      constructor
      · intro h1
        have := congrArg UInt8.toNat h1
        simp at this; omega
      · rintro rfl; rfl
    rw [e]
    split
    · exact ih (fun d hd => h' d (List.mem_cons_of_mem _ hd))
    · rfl
theorem repeat_asU (n : Nat) : Lib.repeatL [48] n = asU (List.replicate n 0) := by
  induction n with
  | zero => rfl
  | succ n ih => rw [Lib.repeatL, ih]; rfl
theorem padded (r : Nat) (hr : r < 65536) : List.replicate (16 - (natDigits (r * 152587890625)).length) 0 ++ natDigits (r * 152587890625) = full 16 r := by
  have hl : (natDigits (r * 152587890625)).length ≤ 16 := natDigits_length 15 _ (by omega)
  apply val_inj
  · rw [List.length_append, List.length_replicate, full_length]; omega
  · intro d hd
    rcases List.mem_append.1 hd with h | h
    · rw [List.eq_of_mem_replicate h]; omega
    · exact natDigits_digits _ d h
  · exact full_digits 16 r hr
  · rw [val_replicate, val_natDigits, (rem16 r hr).2]
theorem part_len (r : Nat) (hr : r < 65536) : (natDigits (r * 152587890625)).length ≤ 16 := natDigits_length 15 _ (by omega)
theorem cut0_eq (l : List UInt8) : cut0 (bs l) = bs (Lib.trimRightB l 48) := rfl
theorem zeros_eq (n : Nat) : zeros (n : Int) = bs (asU (List.replicate n 0)) := by
  unfold zeros
  rw [Int.toNat_natCast, repeat_asU]; rfl
theorem repOk_nat {n : Nat} (h : n ≤ 16) : repOk (n : Int) = true := by
  unfold repOk
  rw [decide_eq_true (by omega), decide_eq_true (by omega), Nat.ble_eq_true_of_le (by rw [Int.toNat_natCast]; omega)]; rfl
theorem dgK_run (u : Nat) (hu : u ≤ 1099511627776) (p : List UInt8) (hp : p.length ≤ 1) : dgK (bs p) (u : Int) = dR (bs (p ++ textBody u)) true := by
  have hl1 : (natDigits (u / 65536)).length ≤ 8 := natDigits_length 7 _ (by omega)
  unfold dgK
  rw [sh16_nat, itOk_nat (by omega), cond_true, itS_nat _ (by omega), glue_bs _ (by rw [asU_length]; omega), an16_nat u (by omega)]
  by_cases h0 : u % 65536 = 0
  · rw [h0]
    unfold textBody
    rw [if_pos h0, List.append_nil]; rfl
  · have hr : u % 65536 < 65536 := Nat.mod_lt _ (by omega)
    rw [show (((u % 65536 : Nat) : Int) != 0) = true by rw [bne_iff_ne]; omega, cond_true]
    unfold textBody
    rw [if_neg h0]
    generalize u % 65536 = r at hr ⊢
    have hpad := padded r hr
    have hl := part_len r hr
    have hl0 := natDigits_pos (r * 152587890625)
    rw [W_in (n := (r : Int) * 152587890625) (by omega), show (r : Int) * 152587890625 = ((r * 152587890625 : Nat) : Int) by omega, itOk_nat (by omega), cond_true, itS_nat _ (by omega)]
    generalize natDigits (r * 152587890625) = D at hpad hl hl0 ⊢
    generalize natDigits (u / 65536) = V at hl1 ⊢
    have hl3 := fracD_length 16 r
    have e5 : cut0 (bs (asU (full 16 r))) = bs (asU (fracD 16 r)) := by
      rw [cut0_eq, trimRight_asU _ (full_digits 16 _ hr), trimZ_full 16 _ hr (rem16 _ hr).1]
    have hfl := full_length 16 r
    generalize full 16 r = F at hpad e5 hfl
    generalize fracD 16 r = G at e5 hl3 ⊢
    rw [bs_size, asU_length, W_in (n := (16 : Int) - (D.length : Int)) (by omega), show (16 : Int) - (D.length : Int) = ((16 - D.length : Nat) : Int) by omega, repOk_nat (by omega), cond_true, zeros_eq,
      glue_bs _ (by rw [asU_length, asU_length, List.length_replicate]; omega), ← asU_append, hpad, bs_size, asU_length, hfl, e5, show Nat.ble 16 9223372036854775807 = true from rfl, cond_true]
    rw [show (⟨#[46]⟩ : ByteArray) = bs [46] from rfl, glue_bs _ (by rw [asU_length, List.length_singleton]; omega), glue_bs _ (by simp only [List.length_append, asU_length, List.length_cons, List.length_nil]; omega), List.append_assoc]
    rfl
theorem inB_of {x : Int} (h : inB x = true) : -1099511627776 ≤ x ∧ x ≤ 1099511627776 := by
  unfold inB at h
  rw [Bool.and_eq_true, decide_eq_true_eq, decide_eq_true_eq] at h
  exact h
def fixE : List AV → Bx → Option (Bool × Out)
  | [.v (.int .i64 x)], [none] => some (inB x, .ret (.tup [S (fixT x), B true]) [none])
  | _, _ => none
theorem dg_sound {ext : CallF} (hext : SoundCall PR ext) : SoundCall PR (addF 68 fixE ext) := by
  refine sound_both (sound_add (takes := TK) hmixP (in_sound (itoa_sound (rep_sound (trim_sound sound_none)))) _ (fn := (PR.funcs[68]?).getD default) (by kernel_rfl) (by kernel_rfl) fixE fun xs bs out h => ?_) hext
  unfold fixE at h
  split at h
  · rename_i x
    injection h with h
    injection h with h1 h2
    subst h2
    refine ⟨0, (dg_0 _ _ _).trans ?_⟩
    obtain ⟨b1, b2⟩ := inB_of h1
    rw [h1, Bool.not_true, cond_false]
    unfold fixT
    by_cases h3 : x < 0
    · rw [decide_eq_true h3, cond_true, if_pos h3, W_in (n := 0 - x) (by omega), show 0 - x = (x.natAbs : Int) by omega]
      exact dgK_run x.natAbs (by omega) [45] (by simp)
    · rw [decide_eq_false h3, cond_false, if_neg h3]
      have := dgK_run x.natAbs (by omega) [] (by simp)
      rw [show (x.natAbs : Int) = x by omega] at this
      exact this
  · cases h
theorem decF_nat : ∀ (k u : Nat), u < 10 ^ k → u < 1000000000000000000 → 0 < k → decF k (u : Int) = bs (asU (natDigits u))
  | 0, u, h, _, h0 => by omega
  | k + 1, u, h, hu, _ => by
    unfold decF
    by_cases h1 : u < 10
    · rw [decide_eq_true (show (u : Int) < 10 by omega), cond_true, natDigits_small h1, W_in (n := 48 + (u : Int)) (by omega)]
      have : IntKind.u8.wrap (48 + (u : Int)) = ((48 + u : Nat) : Int) := by
        rw [IntKind.wrap_u8]; omega
      rw [this]; rfl
    · have e1 : (u : Int).tdiv 10 = ((u / 10 : Nat) : Int) := by rw [Int.tdiv_eq_ediv_of_nonneg (by omega)]; omega
      have e2 : (u : Int).tmod 10 = ((u % 10 : Nat) : Int) := by rw [Int.tmod_eq_emod_of_nonneg (by omega)]; omega
      have : IntKind.u8.wrap (48 + ((u % 10 : Nat) : Int)) = ((48 + u % 10 : Nat) : Int) := by
        rw [IntKind.wrap_u8]; omega
      have hk : 0 < k := by
        cases k with
        | zero => omega
        | succ k => omega
      rw [decide_eq_false (show ¬ (u : Int) < 10 by omega), cond_false, natDigits_big h1, e1, e2, W_in (n := ((u / 10 : Nat) : Int)) (by omega), W_in (n := 48 + ((u % 10 : Nat) : Int)) (by omega), this, decF_nat k (u / 10) (by rw [Nat.pow_succ] at h; omega) (by omega) hk, asU_append, ← bs_append]
      rfl
theorem decOk_of {k : Nat} {n : Int} (h : decOk k n = true) : 0 < k ∧ k ≤ 18 ∧ ∃ u : Nat, n = (u : Int) ∧ u < 10 ^ k ∧ u < 1000000000000000000 := by
  unfold decOk at h
  rw [Bool.and_eq_true, Bool.and_eq_true, Bool.and_eq_true, decide_eq_true_eq, decide_eq_true_eq] at h
  obtain ⟨h1, h2, h3, h4⟩ := h
  have h1 := Nat.le_of_ble_eq_true h1
  have h2 := Nat.le_of_ble_eq_true h2
  obtain ⟨u, rfl⟩ := Int.eq_ofNat_of_zero_le h3
  have h4 : u < 10 ^ k := by exact_mod_cast h4
  have h5 : (10 : Nat) ^ k ≤ 10 ^ 18 := Nat.pow_le_pow_right (by omega) h2
  exact ⟨h1, h2, u, rfl, h4, by omega⟩
theorem decOk_nat {k u : Nat} (h0 : 0 < k) (hk : k ≤ 18) (h : u < 10 ^ k) : decOk k (u : Int) = true := by
  unfold decOk
  rw [Nat.ble_eq_true_of_le (show 1 ≤ k from h0), Nat.ble_eq_true_of_le hk, decide_eq_true (show (0 : Int) ≤ (u : Int) by omega), decide_eq_true (show (u : Int) < 10 ^ k by exact_mod_cast h)]; rfl
theorem dec_sound {ext : CallF} (hext : SoundCall PR ext) : ∀ k, SoundCall PR (addF 59 (decE k) ext) := by
  refine sound_rec (takes := TK) hmixP hext _ (fn := (PR.funcs[59]?).getD default) (by kernel_rfl) (by kernel_rfl) decE (fun xs bs out h => ?_) (fun k xs bs out h => ?_)
  · unfold decE at h
    split at h
    · injection h with h
      injection h with h _
      have := (decOk_of h).1
      omega
    · cases h
  · unfold decE at h
    split at h
    · rename_i n
      injection h with h
      injection h with h1 h2
      subst h2
      obtain ⟨g1, g2, u, rfl, g3, g4⟩ := decOk_of h1
      refine ⟨0, (dec_0 _ _ _ _).trans ?_⟩
      rw [show decF (k + 1) (u : Int) = bif decide ((u : Int) < 10) then bytesOf [.int (IntKind.u8.wrap (W (48 + (u : Int))))] else decF k (W ((u : Int).tdiv 10)) ++ bytesOf [.int (IntKind.u8.wrap (W (48 + (u : Int).tmod 10)))] from rfl]
      by_cases h1 : u < 10
      · rw [decide_eq_true (show (u : Int) < 10 by omega)]; rfl
      · have e1 : (u : Int).tdiv 10 = ((u / 10 : Nat) : Int) := by rw [Int.tdiv_eq_ediv_of_nonneg (by omega)]; omega
        have hk : 0 < k := by
          cases k with
          | zero => omega
          | succ k => omega
        have hlt : u / 10 < 10 ^ k := by rw [Nat.pow_succ] at g3; omega
        have hs := decF_nat k (u / 10) hlt (by omega) hk
        have hl : (natDigits (u / 10)).length ≤ k := by
          obtain ⟨j, rfl⟩ : ∃ j, k = j + 1 := ⟨k - 1, by omega⟩
          exact natDigits_length j _ hlt
        rw [decide_eq_false (show ¬ (u : Int) < 10 by omega), cond_false, cond_false, e1, W_in (n := ((u / 10 : Nat) : Int)) (by omega), decOk_nat hk (by omega) hlt, cond_true, glueO_eq]
        rw [hs, bs_size, asU_length]
        show _ + 1 ≤ _
        omega
    · cases h
noncomputable def decC : CallF := addF 59 (decE 18) fun _ _ _ => none
theorem decC_sound : SoundCall PR decC := dec_sound sound_none 18
theorem dec18 {u : Nat} (h : u ≤ 10000000000000000) : decOk 18 (u : Int) = true ∧ decF 18 (u : Int) = bs (asU (natDigits u)) ∧ (natDigits u).length ≤ 17 := by
  have h1 : u < 10 ^ 18 := by omega
  exact ⟨decOk_nat (by omega) (by omega) h1, decF_nat 18 u h1 (by omega) (by omega), natDigits_length 16 u (by omega)⟩
def sR (s : ByteArray) : Option Out := some (.ret (S s) [none])
theorem int_0 (m : Nat) (n : Int) : evFn PR TK decC m 72 [I n] [none] =
  bif decide (n < 0) then (bif decOk 18 (W (0 - n)) then glueO ⟨#[45]⟩ (decF 18 (W (0 - n))) sR else none) else (bif decOk 18 n then sR (decF 18 n) else none) := by kernel_rfl
def rintE : List AV → Bx → Option (Bool × Out)
  | [.v (.int .i64 n)], [none] => some (decide (-10000000000000000 ≤ n) && decide (n ≤ 10000000000000000), .ret (S (itS n)) [none])
  | _, _ => none
theorem rint_sound {ext : CallF} (hext : SoundCall PR ext) : SoundCall PR (addF 72 rintE ext) := by
  refine sound_both (sound_add (takes := TK) hmixP decC_sound _ (fn := (PR.funcs[72]?).getD default) (by kernel_rfl) (by kernel_rfl) rintE fun xs bs out h => ?_) hext
  unfold rintE at h
  split at h
  · rename_i n
    injection h with h
    injection h with h1 h2
    subst h2
    rw [Bool.and_eq_true, decide_eq_true_eq, decide_eq_true_eq] at h1
    refine ⟨0, (int_0 _ _).trans ?_⟩
    by_cases hn : n < 0
    · obtain ⟨u, hu⟩ : ∃ u : Nat, 0 - n = (u : Int) := ⟨n.natAbs, by omega⟩
      obtain ⟨d1, d2, d3⟩ := dec18 (u := u) (by omega)
      rw [decide_eq_true hn, cond_true, hu, W_in (n := (u : Int)) (by omega), d1, cond_true, d2, show (⟨#[45]⟩ : ByteArray) = bs [45] from rfl, glue_bs _ (by rw [asU_length, List.length_singleton]; omega)]
      show some (Out.ret (S (bs ([45] ++ asU (natDigits u)))) [none]) = _
      unfold itS
      rw [itoaF_eq (by omega) (by omega)]
      have : n = -(u : Int) := by omega
      have e : Lib.itoa n = 45 :: asU (natDigits u) := by
        unfold Lib.itoa
        rw [if_pos hn, decDigits_asU, show n.natAbs = u by omega]
      rw [e]; rfl
    · obtain ⟨u, rfl⟩ : ∃ u : Nat, n = (u : Int) := ⟨n.natAbs, by omega⟩
      obtain ⟨d1, d2, d3⟩ := dec18 (u := u) (by omega)
      rw [decide_eq_false hn, cond_false, d1, cond_true, d2, itS_nat u (by omega)]
      rfl
  · cases h
noncomputable def rdC : CallF := addF 101 inE decC
noncomputable def rdL (call : CallF) (m r : Nat) (s : ByteArray) (p : Int) := loopF PR TK call m 73 [none] [true, true, true, true, true, true, true, false] r (sp 39 [(4, S s), (5, I p)] [])
noncomputable def rdK (m : Nat) (sg : ByteArray) (x : Int) : Option Out :=
  bif decOk 18 (W (x.tdiv 65536)) then glueO sg (decF 18 (W (x.tdiv 65536))) fun s => bif (x.tmod 65536) != 0 then glueO s ⟨#[46]⟩ fun s => rdL rdC m m s (x.tmod 65536) else rdL rdC m m s (x.tmod 65536) else none
theorem rdg_0 (m : Nat) (x : Int) : evFn PR TK rdC m 73 [I x] [none] =
  bif !inB x then dR ⟨#[]⟩ false else bif decide (x < 0) then rdK m ⟨#[45]⟩ (W (0 - x)) else rdK m ⟨#[]⟩ x := by kernel_rfl
theorem rdg_1 (m r : Nat) (s : ByteArray) (p : Int) : rdL rdC m (r + 1) s p = bif p != 0 then glueO s (bytesOf [.int (IntKind.u8.wrap (W (48 + W ((W (p * 10)).tdiv 65536))))]) fun s => rdL rdC m r s ((W (p * 10)).tmod 65536) else dR s true := by kernel_rfl
theorem rd_loop {m : Nat} : ∀ (k p r : Nat) (s : List UInt8), p < 65536 → remk k p = 0 → k < r → s.length + k ≤ 1000 → rdL rdC m r (bs s) (p : Int) = dR (bs (s ++ asU (fracD k p))) true := by
  intro k
  induction k with
  | zero =>
    intro p r s hp h hr hs
    rw [remk_zero] at h
    subst h
    cases r with
    | zero => omega
    | succ r => rw [rdg_1, fracD_zero]; simp [asU]
  | succ k ih =>
    intro p r s hp h hr hs
    cases r with
    | zero => omega
    | succ r =>
      by_cases h0 : p = 0
      · subst h0
        rw [rdg_1, fracD_zero]; simp [asU]
      · rw [remk_succ] at h
        have hd : p * 10 / 65536 < 10 := by omega
        have e1 : (((p * 10 : Nat) : Int)).tdiv 65536 = ((p * 10 / 65536 : Nat) : Int) := by rw [Int.tdiv_eq_ediv_of_nonneg (by omega)]; omega
        have e2 : (((p * 10 : Nat) : Int)).tmod 65536 = ((p * 10 % 65536 : Nat) : Int) := by rw [Int.tmod_eq_emod_of_nonneg (by omega)]; omega
        have e3 : IntKind.u8.wrap (48 + ((p * 10 / 65536 : Nat) : Int)) = ((48 + p * 10 / 65536 : Nat) : Int) := by rw [IntKind.wrap_u8]; omega
        have e4 : bytesOf [.int ((48 + p * 10 / 65536 : Nat) : Int)] = bs (asU [p * 10 / 65536]) := rfl
        rw [rdg_1, show ((p : Int) != 0) = true by rw [bne_iff_ne]; omega, cond_true, W_in (n := (p : Int) * 10) (by omega), show (p : Int) * 10 = ((p * 10 : Nat) : Int) by omega, e1, e2, W_in (n := ((p * 10 / 65536 : Nat) : Int)) (by omega), W_in (n := 48 + ((p * 10 / 65536 : Nat) : Int)) (by omega), e3, e4,
          glue_bs _ (by rw [asU_length, List.length_singleton]; omega), ih (p * 10 % 65536) r _ (Nat.mod_lt _ (by omega)) h (by omega) (by rw [List.length_append, asU_length, List.length_singleton]; omega), fracD_succ, if_neg h0, List.append_assoc, ← asU_append]
        rfl
theorem rdK_run {m : Nat} (hm : 100 ≤ m) (u : Nat) (hu : u ≤ 1099511627776) (p : List UInt8) (hp : p.length ≤ 1) : rdK m (bs p) (u : Int) = dR (bs (p ++ textBody u)) true := by
  have e1 : (u : Int).tdiv 65536 = ((u / 65536 : Nat) : Int) := by rw [Int.tdiv_eq_ediv_of_nonneg (by omega)]; omega
  have e2 : (u : Int).tmod 65536 = ((u % 65536 : Nat) : Int) := by rw [Int.tmod_eq_emod_of_nonneg (by omega)]; omega
  obtain ⟨d1, d2, d3⟩ := dec18 (u := u / 65536) (by omega)
  have hr : u % 65536 < 65536 := Nat.mod_lt _ (by omega)
  unfold rdK
  rw [e1, e2, W_in (n := ((u / 65536 : Nat) : Int)) (by omega), d1, cond_true, d2, glue_bs _ (by rw [asU_length]; omega)]
  unfold textBody
  by_cases h0 : u % 65536 = 0
  · rw [h0, if_pos rfl, rd_loop 0 0 m _ (by omega) (by rw [remk_zero]) (by omega) (by rw [List.length_append, asU_length]; omega), fracD_zero]
    simp [asU]
  · rw [if_neg h0, show (((u % 65536 : Nat) : Int) != 0) = true by rw [bne_iff_ne]; omega, cond_true, show (⟨#[46]⟩ : ByteArray) = bs [46] from rfl, glue_bs _ (by rw [List.length_append, asU_length, List.length_singleton]; omega),
      rd_loop 16 (u % 65536) m _ hr (rem16 _ hr).1 (by omega) (by simp only [List.length_append, asU_length, List.length_singleton]; omega)]
    simp
theorem rdC_sound : SoundCall PR rdC := by
  refine sound_both (rin_sound sound_none) decC_sound
theorem rdg_sound {ext : CallF} (hext : SoundCall PR ext) : SoundCall PR (addF 73 fixE ext) := by
  refine sound_both (sound_add (takes := TK) hmixP rdC_sound _ (fn := (PR.funcs[73]?).getD default) (by kernel_rfl) (by kernel_rfl) fixE fun xs bs out h => ?_) hext
  unfold fixE at h
  split at h
  · rename_i x
    injection h with h
    injection h with h1 h2
    subst h2
    refine ⟨100, (rdg_0 _ _).trans ?_⟩
    obtain ⟨b1, b2⟩ := inB_of h1
    rw [h1, Bool.not_true, cond_false]
    unfold fixT
    by_cases h3 : x < 0
    · rw [decide_eq_true h3, cond_true, if_pos h3, W_in (n := 0 - x) (by omega), show 0 - x = (x.natAbs : Int) by omega]
      exact rdK_run (by omega) x.natAbs (by omega) [45] (by simp)
    · rw [decide_eq_false h3, cond_false, if_neg h3]
      have := rdK_run (m := 100) (by omega) x.natAbs (by omega) [] (by simp)
      rw [show (x.natAbs : Int) = x by omega] at this
      exact this
  · cases h
end Go.Proofs.YtckdgcpomkefpaaGreatDoor.En
end
section
set_option linter.unusedVariables false
set_option linter.unusedSimpArgs false
set_option maxRecDepth 100000
namespace Go.Proofs.YtckdgcpomkefpaaGreatDoor.En
open Go
def itemsG (f : Dat → Int → Int) : List Dat → Int → Int
  | [], n => n
  | d :: l, n => bif decide (f d n < 0) then -1 else itemsG f l (f d n)
def flatD (d : Dat) : Bool := flatB (d.at 0).toI (d.at 2).toI (d.at 1).toB (d.at 3).toS (d.at 4).toL (d.at 5).toL
def goodO : Nat → Dat → Int → Int → Int
  | 0, _, _, _ => -1
  | k + 1, d, nest, ahead => bif decide (ahead + 1 > 65536) || !flatD d then -1 else
      bif (d.at 0).toI == 6 || (d.at 0).toI == 7 then (bif decide (nest + 1 > 32) then -1 else itemsG (fun e n => goodO k e (nest + 1) n) (d.at 5).toL (ahead + 1)) else itemsG (fun e n => goodO k e nest n) (d.at 5).toL (ahead + 1)
theorem goodO_nrm (k : Nat) (d : Dat) (nest ahead : Int) : goodO k (nrm d) nest ahead = goodO k d nest ahead := by cases k <;> rfl
def okG (k : Nat) (ks l : List Dat) (nest ahead : Int) : Prop := fitO k ks l ∧ 0 ≤ nest ∧ nest ≤ 33 ∧ 0 ≤ ahead ∧ ahead ≤ 65536
noncomputable def rgoodE (k : Nat) : List AV → Bx → Option (Bool × Out)
  | [.agg [.v (.int .i64 k1), .v (.bool b1), .v (.int .i64 n1), .v (.string s1), .row none 9 ks1, .row none 43 l1], .v (.int .i64 nest), .v (.int .i64 ahead)], [none, none, none] =>
    some (decP (okG k ks1 l1 nest ahead), .ret (I (goodO k (mkO k1 n1 b1 s1 ks1 l1) nest ahead)) [none, none, none])
  | _, _ => none
noncomputable def rgoodC (k : Nat) : CallF := addF 54 (rgoodE k) (addF 93 flatE fun _ _ _ => none)
noncomputable def rgoodL (call : CallF) (m r : Nat) (k1 n1 : Int) (b1 : Bool) (s1 : ByteArray) (ks1 l1 : List Dat) (nest n i : Int) := loopF PR TK call m 54 [none, none, none] [true, true, true, true, false, true] r (sp 48 [(1, I nest), (3, .box 3 0), (7, I n), (8, I i)] [(3, obA k1 n1 b1 s1 ks1 l1)])
section
variable (call ext : CallF) (k m r : Nat) (k1 n1 : Int) (b1 : Bool) (s1 : ByteArray) (ks1 l1 : List Dat) (nest ahead n i : Int)
theorem rgood_0 : evFn PR TK (rgoodC k) m 54 [.agg (obA k1 n1 b1 s1 ks1 l1), I nest, I ahead] [none, none, none] =
    orO (decide (W (ahead + 1) > 65536)) (bif Nat.ble ks1.length 1000000 then some (!flatB k1 n1 b1 s1 ks1 l1) else none) fun t => bif t then nR (-1) else
      orK (k1 == 6) (k1 == 7) fun t => bif t then (bif decide (W (nest + 1) > 32) then nR (-1) else rgoodL (rgoodC k) m m k1 n1 b1 s1 ks1 l1 (W (nest + 1)) (W (ahead + 1)) 0) else rgoodL (rgoodC k) m m k1 n1 b1 s1 ks1 l1 nest (W (ahead + 1)) 0 := by kernel_rfl
theorem rgood_1 : rgoodL (rgoodC k) m (r + 1) k1 n1 b1 s1 ks1 l1 nest n i = bif decide (i < l1.length) then (idx l1 i).bind fun d =>
      bif decP (okG k (d.at 4).toL (d.at 5).toL nest n) then (bif decide (goodO k (nrm d) nest n < 0) then nR (-1) else rgoodL (rgoodC k) m r k1 n1 b1 s1 ks1 l1 nest (goodO k (nrm d) nest n) (W (i + 1))) else none
    else nR n := by kernel_rfl
end
theorem itemsG_bd {f : Dat → Int → Int} : ∀ (l : List Dat) (n : Int), (∀ d ∈ l, ∀ n, 0 ≤ n → n ≤ 65536 → -1 ≤ f d n ∧ f d n ≤ 65536) → 0 ≤ n → n ≤ 65536 → -1 ≤ itemsG f l n ∧ itemsG f l n ≤ 65536
  | [], n, _, h1, h2 => ⟨by unfold itemsG; omega, h2⟩
  | d :: l, n, hf, h1, h2 => by
    have := hf d (by simp) n h1 h2
    show -1 ≤ (bif decide (f d n < 0) then -1 else itemsG f l (f d n)) ∧ (bif decide (f d n < 0) then -1 else itemsG f l (f d n)) ≤ 65536
    by_cases h : f d n < 0
    · rw [decide_eq_true h]; exact ⟨by simp, by simp⟩
    · rw [decide_eq_false h]
      exact itemsG_bd l _ (fun e he => hf e (by simp [he])) (by omega) this.2
theorem goodO_bd : ∀ (k : Nat) (d : Dat) (nest ahead : Int), 0 ≤ ahead → -1 ≤ goodO k d nest ahead ∧ goodO k d nest ahead ≤ 65536
  | 0, d, nest, ahead, _ => by simp [goodO]
  | k + 1, d, nest, ahead, h0 => by
    unfold goodO
    cases hc : decide (ahead + 1 > 65536) || !flatD d
    · rw [Bool.or_eq_false_iff] at hc
      have h1 := of_decide_eq_false hc.1
      simp only [cond_false]
      cases (d.at 0).toI == 6 || (d.at 0).toI == 7
      · exact itemsG_bd _ _ (fun e he n hn _ => goodO_bd k e nest n hn) (by omega) (by omega)
      · cases decide (nest + 1 > 32)
        · exact itemsG_bd _ _ (fun e he n hn _ => goodO_bd k e (nest + 1) n hn) (by omega) (by omega)
        · exact ⟨by simp, by simp⟩
    · exact ⟨by simp, by simp⟩
theorem rgood_loop {k m : Nat} {k1 n1 : Int} {b1 : Bool} {s1 : ByteArray} {ks1 l1 : List Dat} {nest : Int} (h2 : 0 ≤ nest) (h3 : nest ≤ 33) (hl : l1.length ≤ 1000000) (hk : ∀ d ∈ l1, fitO k (d.at 4).toL (d.at 5).toL) :
    ∀ (q i r : Nat) (n : Int), i + q = l1.length → q < r → 0 ≤ n → n ≤ 65536 → rgoodL (rgoodC k) m r k1 n1 b1 s1 ks1 l1 nest n (i : Int) = nR (itemsG (fun e n => goodO k e nest n) (l1.drop i) n) := by
  intro q
  induction q with
  | zero =>
    intro i r n hi hr hn1 hn2
    cases r with
    | zero => omega
    | succ r =>
      rw [rgood_1, show decide ((i : Int) < l1.length) = false from decide_eq_false (by omega), cond_false, List.drop_eq_nil_of_le (by omega)]
      rfl
  | succ q ih =>
    intro i r n hi hr hn1 hn2
    cases r with
    | zero => omega
    | succ r =>
      have hlt : i < l1.length := by omega
      have hb := goodO_bd k l1[i] nest n hn1
      have hok : okG k (l1[i].at 4).toL (l1[i].at 5).toL nest n := ⟨hk _ (List.getElem_mem hlt), h2, h3, hn1, hn2⟩
      rw [rgood_1, show decide ((i : Int) < l1.length) = true from decide_eq_true (by omega), cond_true, idx_at hlt, Option.bind_some, decP_eq hok, cond_true, goodO_nrm, W_in (n := (i : Int) + 1) (by omega), List.drop_eq_getElem_cons hlt]
      show _ = nR (bif decide (goodO k l1[i] nest n < 0) then -1 else itemsG (fun e n => goodO k e nest n) (l1.drop (i + 1)) (goodO k l1[i] nest n))
      by_cases hneg : goodO k l1[i] nest n < 0
      · rw [decide_eq_true hneg]; rfl
      · have ih := ih (i + 1) r (goodO k l1[i] nest n) (by omega) (by omega) (by omega) hb.2
        rw [show ((i + 1 : Nat) : Int) = (i : Int) + 1 by omega] at ih
        rw [decide_eq_false hneg, cond_false, cond_false, ih]
theorem rgood_run {k m : Nat} {k1 n1 : Int} {b1 : Bool} {s1 : ByteArray} {ks1 l1 : List Dat} {nest ahead : Int} (h : okG (k + 1) ks1 l1 nest ahead) (hm : 1000000 < m) :
    evFn PR TK (rgoodC k) m 54 [.agg (obA k1 n1 b1 s1 ks1 l1), I nest, I ahead] [none, none, none] = nR (goodO (k + 1) (mkO k1 n1 b1 s1 ks1 l1) nest ahead) := by
  obtain ⟨⟨f1, f2, f3⟩, h2, h3, h4, h5⟩ := h
  rw [rgood_0, show Nat.ble ks1.length 1000000 = true from Nat.ble_eq_true_of_le f1, cond_true, orO_eq, orK_eq, W_in (n := ahead + 1) (by omega), W_in (n := nest + 1) (by omega)]
  show _ = nR (bif decide (ahead + 1 > 65536) || !flatB k1 n1 b1 s1 ks1 l1 then -1 else
      bif k1 == 6 || k1 == 7 then (bif decide (nest + 1 > 32) then -1 else itemsG (fun e n => goodO k e (nest + 1) n) l1 (ahead + 1)) else itemsG (fun e n => goodO k e nest n) l1 (ahead + 1))
  cases hc : decide (ahead + 1 > 65536) || !flatB k1 n1 b1 s1 ks1 l1
  · rw [Bool.or_eq_false_iff] at hc
    have c1 := of_decide_eq_false hc.1
    rw [cond_false, cond_false]
    cases k1 == 6 || k1 == 7
    · have e := rgood_loop (k := k) (m := m) (k1 := k1) (n1 := n1) (b1 := b1) (s1 := s1) (ks1 := ks1) h2 h3 f2 f3 l1.length 0 m (ahead + 1) (by omega) (by omega) (by omega) (by omega)
      rw [List.drop_zero, show ((0 : Nat) : Int) = 0 from rfl] at e
      rw [cond_false, cond_false, e]
    · rw [cond_true, cond_true]
      by_cases hn : nest + 1 > 32
      · rw [decide_eq_true hn]; rfl
      · have e := rgood_loop (k := k) (m := m) (k1 := k1) (n1 := n1) (b1 := b1) (s1 := s1) (ks1 := ks1) (nest := nest + 1) (by omega) (by omega) f2 f3 l1.length 0 m (ahead + 1) (by omega) (by omega) (by omega) (by omega)
        rw [List.drop_zero, show ((0 : Nat) : Int) = 0 from rfl] at e
        rw [decide_eq_false hn, cond_false, cond_false, e]
  · rfl
theorem rgood_sound : ∀ k, SoundCall PR (rgoodC k) := by
  refine sound_rec (takes := TK) hmixP (flat_sound sound_none) _ (fn := (PR.funcs[54]?).getD default) (by kernel_rfl) (by kernel_rfl) rgoodE (fun xs bs out h => ?_) (fun k xs bs out h => ?_)
  · unfold rgoodE at h
    split at h
    · injection h with h
      injection h with h _
      exact (decP_of h).1
    · cases h
  · unfold rgoodE at h
    split at h
    · injection h with h
      injection h with h1 h2
      subst h2
      exact ⟨1000001, rgood_run (decP_of h1) (by omega)⟩
    · cases h
noncomputable def countE : List AV → Bx → Option (Bool × Out)
  | [.agg [.v (.int .i64 k1), .v (.bool b1), .v (.int .i64 n1), .v (.string s1), .row none 9 ks1, .row none 43 l1]], [none] =>
    some (decP (okG 101 ks1 l1 0 0), .ret (I (goodO 101 (mkO k1 n1 b1 s1 ks1 l1) 0 0)) [none])
  | _, _ => none
theorem count_0 (m : Nat) (k1 n1 : Int) (b1 : Bool) (s1 : ByteArray) (ks1 l1 : List Dat) : evFn PR TK (rgoodC 101) m 33 [.agg (obA k1 n1 b1 s1 ks1 l1)] [none] =
  bif decP (okG 101 ks1 l1 0 0) then some (.ret (I (goodO 101 (mkO k1 n1 b1 s1 ks1 l1) 0 0)) [none]) else none := by kernel_rfl
theorem count_sound : SoundCall PR (addF 33 countE fun _ _ _ => none) := by
  refine sound_both (sound_add (takes := TK) hmixP (rgood_sound 101) _ (fn := (PR.funcs[33]?).getD default) (by kernel_rfl) (by kernel_rfl) countE fun xs bs out h => ?_) sound_none
  unfold countE at h
  split at h
  · injection h with h
    injection h with h1 h2
    subst h2
    refine ⟨1, (count_0 _ _ _ _ _ _ _).trans ?_⟩
    rw [h1]; rfl
  · cases h
noncomputable def rGoodE : List AV → Bx → Option (Bool × Out)
  | [.agg [.v (.int .i64 k1), .v (.bool b1), .v (.int .i64 n1), .v (.string s1), .row none 9 ks1, .row none 43 l1]], [none] =>
    some (decP (okG 101 ks1 l1 0 0), .ret (B (decide (goodO 101 (mkO k1 n1 b1 s1 ks1 l1) 0 0 > 0))) [none])
  | _, _ => none
theorem rGood_0 (m : Nat) (k1 n1 : Int) (b1 : Bool) (s1 : ByteArray) (ks1 l1 : List Dat) : evFn PR TK (addF 33 countE fun _ _ _ => none) m 26 [.agg (obA k1 n1 b1 s1 ks1 l1)] [none] =
  bif decP (okG 101 ks1 l1 0 0) then some (.ret (B (decide (goodO 101 (mkO k1 n1 b1 s1 ks1 l1) 0 0 > 0))) [none]) else none := by kernel_rfl
theorem rGood_sound : SoundCall PR (addF 26 rGoodE fun _ _ _ => none) := by
  refine sound_both (sound_add (takes := TK) hmixP count_sound _ (fn := (PR.funcs[26]?).getD default) (by kernel_rfl) (by kernel_rfl) rGoodE fun xs bs out h => ?_) sound_none
  unfold rGoodE at h
  split at h
  · injection h with h
    injection h with h1 h2
    subst h2
    refine ⟨1, (rGood_0 _ _ _ _ _ _ _).trans ?_⟩
    rw [h1]; rfl
  · cases h
end Go.Proofs.YtckdgcpomkefpaaGreatDoor.En
end
section
set_option linter.unusedVariables false
set_option linter.unusedSimpArgs false
set_option maxRecDepth 100000
namespace Go.Proofs.YtckdgcpomkefpaaGreatDoor.En
open Go
def lit (l : List UInt8) : List Dat := l.map fun b => .int b.toNat
def nullT : ByteArray := ⟨#[110, 117, 108, 108]⟩
def boolT (b : Bool) : ByteArray := bif b then ⟨#[116, 114, 117, 101]⟩ else ⟨#[102, 97, 108, 115, 101]⟩
def refT : ByteArray := ⟨#[32, 48, 32, 82]⟩
def sepT (f : Dat → List Dat) : Bool → List Dat → List Dat
  | _, [] => []
  | first, d :: r => ((bif first then [] else [Dat.int 32]) ++ f d) ++ sepT f false r
def dicT (f : Dat → List Dat) : Bool → List Dat → List Dat → List Dat
  | first, key :: ks, d :: r => ((((bif first then [] else [Dat.int 32]) ++ nameT (key.at 0).toS) ++ [Dat.int 32]) ++ f d) ++ dicT f false ks r
  | _, _, _ => []
def txtK (f : Dat → List Dat) (k1 n1 : Int) (b1 : Bool) (s1 : ByteArray) (ks1 l1 : List Dat) : List Dat :=
  bif k1 == 0 then bytesTo nullT else bif k1 == 1 then bytesTo (boolT b1) else bif k1 == 2 then bytesTo (itS n1) else bif k1 == 3 then bytesTo (fixT n1) else
  bif k1 == 4 then nameT s1 else bif k1 == 5 then txtT s1 else bif k1 == 6 then (Dat.int 91 :: sepT f true l1) ++ [Dat.int 93] else
  bif k1 == 7 then ((bytesTo ⟨#[60, 60]⟩) ++ dicT f true ks1 l1) ++ bytesTo ⟨#[62, 62]⟩ else bif k1 == 8 then bytesTo (itS n1 ++ refT) else []
def txtO : Nat → Dat → List Dat
  | 0, _ => []
  | k + 1, d => txtK (txtO k) (d.at 0).toI (d.at 2).toI (d.at 1).toB (d.at 3).toS (d.at 4).toL (d.at 5).toL
theorem txtO_nrm (k : Nat) (d : Dat) : txtO k (nrm d) = txtO k d := by cases k <;> rfl
def arrW (f : Dat → List Dat → List Dat) : Bool → List Dat → List Dat → List Dat
  | _, [], l => l
  | first, d :: r, l => arrW f false r (f d (bif first then l else l ++ [Dat.int 32]))
def dicW (f : Dat → List Dat → List Dat) : Bool → List Dat → List Dat → List Dat → List Dat
  | first, key :: ks, d :: r, l => dicW f false ks r (f d (((bif first then l else l ++ [Dat.int 32]) ++ nameT (key.at 0).toS) ++ [Dat.int 32]))
  | _, _, _, l => l
def wrK (f : Dat → List Dat → List Dat) (k1 n1 : Int) (b1 : Bool) (s1 : ByteArray) (ks1 l1 : List Dat) (l : List Dat) : List Dat :=
  bif k1 == 0 then l ++ bytesTo nullT else bif k1 == 1 then l ++ bytesTo (boolT b1) else bif k1 == 2 then l ++ bytesTo (itS n1) else bif k1 == 3 then l ++ bytesTo (fixT n1) else
  bif k1 == 4 then l ++ nameT s1 else bif k1 == 5 then l ++ txtT s1 else bif k1 == 6 then arrW f true l1 (l ++ [Dat.int 91]) ++ [Dat.int 93] else
  bif k1 == 7 then dicW f true ks1 l1 (l ++ bytesTo ⟨#[60, 60]⟩) ++ bytesTo ⟨#[62, 62]⟩ else bif k1 == 8 then l ++ bytesTo (itS n1 ++ refT) else l
def wrO : Nat → Dat → List Dat → List Dat
  | 0, _, l => l
  | k + 1, d, l => bif decide ((l.length : Int) > 1048576) then l else wrK (wrO k) (d.at 0).toI (d.at 2).toI (d.at 1).toB (d.at 3).toS (d.at 4).toL (d.at 5).toL l
theorem wrO_nrm (k : Nat) (d : Dat) (l : List Dat) : wrO k (nrm d) l = wrO k d l := by cases k <;> rfl
def fitW : Nat → Dat → Prop
  | 0, _ => False
  | k + 1, d => flatD d = true ∧ (d.at 5).toL.length ≤ 1000000 ∧ ∀ e ∈ (d.at 5).toL, fitW k e
def okWr (k : Nat) (d : Dat) (l : List Dat) : Prop := fitW k d ∧ l.length + (txtO k d).length ≤ 400000000000
noncomputable def writeE (k : Nat) : List AV → Bx → Option (Bool × Out)
  | [.box 0 0, .agg [.v (.int .i64 k1), .v (.bool b1), .v (.int .i64 n1), .v (.string s1), .row none 9 ks1, .row none 43 l1]], [some [.self T, .row (some m) E l], none] =>
    bif isBu T m E then some (decP (okWr k (mkO k1 n1 b1 s1 ks1 l1) l), .ret (.tup []) [some (bu (wrO k (mkO k1 n1 b1 s1 ks1 l1) l)), none]) else none
  | _, _ => none
noncomputable def wrC0 : CallF := addF 71 wbE (addF 66 wsE (addF 46 blE (addF 67 fbE (addF 58 itoaE (addF 68 fixE (addF 69 nameE (addF 70 txtE fun _ _ _ => none)))))))
noncomputable def wrC (k : Nat) : CallF := addF 45 (writeE k) wrC0
noncomputable def wrL1 (call : CallF) (m r : Nat) (l l1 : List Dat) (i : Int) := loopF PR TK call m 45 [some (bu l), none] [true, true, true, true, true, true, true, true, true, true, true, true, true, true, true, true, false, true, false, true] r (sp 117 [(0, .box 0 0), (61, .row none 43 l1), (62, I l1.length), (63, I i)] [(0, bu l)])
noncomputable def wrL2 (call : CallF) (m r : Nat) (l : List Dat) (k1 n1 : Int) (b1 : Bool) (s1 : ByteArray) (ks1 l1 : List Dat) (i : Int) := loopF PR TK call m 45 [some (bu l), none] [true, true, true, true, true, true, true, true, true, true, true, true, true, true, true, true, true, true, false, true, false, true] r (sp 117 [(0, .box 0 0), (3, .box 3 0), (83, .row none 43 l1), (84, I l1.length), (85, I i)] [(0, bu l), (3, obA k1 n1 b1 s1 ks1 l1)])
def wsK (l : List Dat) (s : ByteArray) (k : List Dat → Option Out) : Option Out := bif Nat.ble (l.length + s.size) fitsN then k (l ++ bytesTo s) else none
def wbK (l : List Dat) (c : Int) (k : List Dat → Option Out) : Option Out := bif Nat.ble (l.length + 1) fitsN then k (l ++ [Dat.int c]) else none
section
variable (k m r : Nat) (k1 n1 : Int) (b1 : Bool) (s1 : ByteArray) (ks1 l1 l : List Dat) (i : Int)
theorem write_0 : evFn PR TK (wrC k) m 45 [.box 0 0, .agg (obA k1 n1 b1 s1 ks1 l1)] [some (bu l), none] =
  bif decide ((l.length : Int) > 1048576) then tR0 l else
  bif k1 == 0 then wsK l nullT tR0 else bif k1 == 1 then wsK l (boolT b1) tR0 else bif k1 == 2 then (bif itOk n1 then wsK l (itS n1) tR0 else none) else
  bif k1 == 3 then (bif inB n1 then wsK l (fixT n1) tR0 else none) else bif k1 == 4 then (bif nmOk s1 l.length then tR0 (l ++ nameT s1) else none) else
  bif k1 == 5 then (bif nmOk s1 l.length then tR0 (l ++ txtT s1) else none) else bif k1 == 6 then wbK l 91 (fun l' => wrL1 (wrC k) m m l' l1 0) else
  bif k1 == 7 then wsK l ⟨#[60, 60]⟩ (fun l' => wrL2 (wrC k) m m l' k1 n1 b1 s1 ks1 l1 0) else bif k1 == 8 then (bif itOk n1 then glueO (itS n1) refT (fun s => wsK l s tR0) else none) else tR0 l := by kernel_rfl
theorem write_1 : wrL1 (wrC k) m (r + 1) l l1 i = bif decide (i < l1.length) then (idx l1 i).bind fun d =>
      bif decide (i > 0) then wbK l 32 (fun l' => bif decP (okWr k (nrm d) l') then wrL1 (wrC k) m r (wrO k (nrm d) l') l1 (W (i + 1)) else none) else (bif decP (okWr k (nrm d) l) then wrL1 (wrC k) m r (wrO k (nrm d) l) l1 (W (i + 1)) else none)
    else wbK l 93 tR0 := by kernel_rfl
noncomputable def wr2K (l : List Dat) (d : Dat) : Option Out := (idx ks1 i).bind fun e => bif nmOk (e.at 0).toS l.length then wbK (l ++ nameT (e.at 0).toS) 32 (fun l' => bif decP (okWr k (nrm d) l') then wrL2 (wrC k) m r (wrO k (nrm d) l') k1 n1 b1 s1 ks1 l1 (W (i + 1)) else none) else none
theorem write_2 : wrL2 (wrC k) m (r + 1) l k1 n1 b1 s1 ks1 l1 i = bif decide (i < l1.length) then (idx l1 i).bind fun d =>
      bif decide (i > 0) then wbK l 32 (fun l' => wr2K k m r k1 n1 b1 s1 ks1 l1 i l' d) else wr2K k m r k1 n1 b1 s1 ks1 l1 i l d
    else wsK l ⟨#[62, 62]⟩ tR0 := by kernel_rfl
end
end Go.Proofs.YtckdgcpomkefpaaGreatDoor.En
end
section
set_option linter.unusedVariables false
set_option linter.unusedSimpArgs false
set_option maxRecDepth 100000
namespace Go.Proofs.YtckdgcpomkefpaaGreatDoor.En
open Go
def TK2 : FuncId → Option Nat := fun f => bif Nat.beq f 48 then some 0 else none
def tR4 (l : List Dat) : Option Out := some (.ret (.row (some 4) 5 l) [none, none])
noncomputable def rtextE (k : Nat) : List AV → Bx → Option (Bool × Out)
  | [.row (some 0) 5 l, .agg [.v (.int .i64 k1), .v (.bool b1), .v (.int .i64 n1), .v (.string s1), .row none 9 ks1, .row none 43 l1]], [none, none] =>
    some (decP (okWr k (mkO k1 n1 b1 s1 ks1 l1) l), .ret (.row (some 4) 5 (l ++ txtO k (mkO k1 n1 b1 s1 ks1 l1))) [none, none])
  | _, _ => none
noncomputable def rtC0 : CallF := addF 72 rintE (addF 73 fixE (addF 74 rnameE (addF 75 rstrE fun _ _ _ => none)))
noncomputable def rtC (k : Nat) : CallF := addF 48 (rtextE k) rtC0
noncomputable def rtL1 (call : CallF) (m r : Nat) (l : List Dat) (k1 n1 : Int) (b1 : Bool) (s1 : ByteArray) (ks1 l1 : List Dat) (i : Int) := loopF PR TK2 call m 48 [none, none] [true, false, true, true, true, true, true, true, true, true, true, true, true, true, true, true, true, true, false, true, false, true] r (sp 122 [(0, .row (some 0) 5 l), (3, .box 3 0), (7, I i)] [(3, obA k1 n1 b1 s1 ks1 l1)])
noncomputable def rtL2 (call : CallF) (m r : Nat) (l : List Dat) (k1 n1 : Int) (b1 : Bool) (s1 : ByteArray) (ks1 l1 : List Dat) (i : Int) := loopF PR TK2 call m 48 [none, none] [true, true, true, false, true] r (sp 122 [(0, .row (some 0) 5 l), (3, .box 3 0), (8, I i)] [(3, obA k1 n1 b1 s1 ks1 l1)])
def rintOk (n : Int) : Bool := decide (-10000000000000000 ≤ n) && decide (n ≤ 10000000000000000)
section
variable (k m r : Nat) (k1 n1 : Int) (b1 : Bool) (s1 : ByteArray) (ks1 l1 l : List Dat) (i : Int)
theorem rtext_0 : evFn PR TK2 (rtC k) m 48 [.row (some 0) 5 l, .agg (obA k1 n1 b1 s1 ks1 l1)] [none, none] =
  bif k1 == 0 then wsK l nullT tR4 else bif k1 == 1 then (bif b1 then wsK l ⟨#[116, 114, 117, 101]⟩ tR4 else wsK l ⟨#[102, 97, 108, 115, 101]⟩ tR4) else bif k1 == 2 then (bif rintOk n1 then wsK l (itS n1) tR4 else none) else
  bif k1 == 3 then (bif inB n1 then wsK l (fixT n1) tR4 else none) else bif k1 == 4 then (bif Nat.ble s1.size 100000000000 then wsK l (bytesOf (nameT s1)) tR4 else none) else
  bif k1 == 5 then (bif Nat.ble s1.size 100000000000 then wsK l (bytesOf (txtT s1)) tR4 else none) else bif k1 == 8 then (bif rintOk n1 then wsK l (itS n1) fun l' => wsK l' refT tR4 else none) else
  bif k1 == 6 then wbK l 91 (fun l' => rtL1 (rtC k) m m l' k1 n1 b1 s1 ks1 l1 0) else
  wsK l ⟨#[60, 60]⟩ (fun l' => rtL2 (rtC k) m m l' k1 n1 b1 s1 ks1 l1 0) := by kernel_rfl
theorem rtext_1 : rtL1 (rtC k) m (r + 1) l k1 n1 b1 s1 ks1 l1 i = bif decide (i < l1.length) then
      bif decide (i > 0) then wbK l 32 (fun l' => (idx l1 i).bind fun d => bif decP (okWr k (nrm d) l') then rtL1 (rtC k) m r (l' ++ txtO k (nrm d)) k1 n1 b1 s1 ks1 l1 (W (i + 1)) else none) else ((idx l1 i).bind fun d => bif decP (okWr k (nrm d) l) then rtL1 (rtC k) m r (l ++ txtO k (nrm d)) k1 n1 b1 s1 ks1 l1 (W (i + 1)) else none)
    else wbK l 93 tR4 := by kernel_rfl
noncomputable def rt2K (l : List Dat) : Option Out := (idx ks1 i).bind fun e => bif Nat.ble (e.at 0).toS.size 100000000000 then wsK l (bytesOf (nameT (e.at 0).toS)) (fun l' => wbK l' 32 (fun l' => (idx l1 i).bind fun d => bif decP (okWr k (nrm d) l') then rtL2 (rtC k) m r (l' ++ txtO k (nrm d)) k1 n1 b1 s1 ks1 l1 (W (i + 1)) else none)) else none
theorem rtext_2 : rtL2 (rtC k) m (r + 1) l k1 n1 b1 s1 ks1 l1 i = bif decide (i < l1.length) then
      bif decide (i > 0) then wbK l 32 (fun l' => rt2K k m r k1 n1 b1 s1 ks1 l1 i l') else rt2K k m r k1 n1 b1 s1 ks1 l1 i l
    else wsK l ⟨#[62, 62]⟩ tR4 := by kernel_rfl
end
end Go.Proofs.YtckdgcpomkefpaaGreatDoor.En
end
section
set_option linter.unusedVariables false
set_option linter.unusedSimpArgs false
set_option maxRecDepth 100000
namespace Go.Proofs.YtckdgcpomkefpaaGreatDoor.En
open Go
theorem bytesTo_len (s : ByteArray) : (bytesTo s).length = s.size := by
  unfold bytesTo
  rw [List.length_map]
  exact Array.length_toList
theorem kinds9 {k1 n1 : Int} {s1 : ByteArray} {ks1 l1 : List Dat} (h : kindB k1 n1 s1 ks1 l1 = true) : k1 = 0 ∨ k1 = 1 ∨ k1 = 2 ∨ k1 = 3 ∨ k1 = 4 ∨ k1 = 5 ∨ k1 = 6 ∨ k1 = 7 ∨ k1 = 8 := by
  by_cases h2 : k1 = 2; · simp [h2]
  by_cases h3 : k1 = 3; · simp [h3]
  by_cases h4 : k1 = 4; · simp [h4]
  by_cases h5 : k1 = 5; · simp [h5]
  by_cases h7 : k1 = 7; · simp [h7]
  by_cases h8 : k1 = 8; · simp [h8]
  unfold kindB at h
  rw [beq_false_of_ne h2, beq_false_of_ne h3, beq_false_of_ne h4, beq_false_of_ne h5, beq_false_of_ne h7, beq_false_of_ne h8] at h
  simp only [cond_false, Bool.or_eq_true, beq_iff_eq] at h
  omega
theorem kindB_of {k1 n1 : Int} {b1 : Bool} {s1 : ByteArray} {ks1 l1 : List Dat} (h : flatB k1 n1 b1 s1 ks1 l1 = true) : kindB k1 n1 s1 ks1 l1 = true := by
  unfold flatB at h
  rw [Bool.and_eq_true] at h
  exact h.2
theorem named_size {s : ByteArray} (h : namedB s = true) : s.size ≤ 127 := by
  unfold namedB at h
  rw [Bool.and_eq_true, Bool.and_eq_true, decide_eq_true_eq, decide_eq_true_eq] at h
  exact h.2.1
theorem keysR_named : ∀ (pre ks : List Dat), keysR pre ks = true → ∀ d ∈ ks, (d.at 0).toS.size ≤ 127
  | pre, [], h, d, hd => by cases hd
  | pre, e :: r, h, d, hd => by
    unfold keysR at h
    rw [Bool.and_eq_true, Bool.and_eq_true] at h
    rcases List.mem_cons.1 hd with rfl | hd
    · exact named_size h.1
    · exact keysR_named _ r h.2.2 d hd
theorem kb7 {n1 : Int} {s1 : ByteArray} {ks1 l1 : List Dat} (h : kindB 7 n1 s1 ks1 l1 = true) : ks1.length = l1.length ∧ ∀ d ∈ ks1, (d.at 0).toS.size ≤ 127 := by
  have h' : (bif ((ks1.length : Int) != l1.length) then false else keysR [] ks1) = true := h
  cases hc : ((ks1.length : Int) != l1.length)
  · rw [hc, cond_false] at h'
    have hc' : (ks1.length : Int) = (l1.length : Int) := by simpa using hc
    exact ⟨by omega, keysR_named _ _ h'⟩
  · rw [hc] at h'; cases h'
theorem wsK_eq {l : List Dat} {s : ByteArray} (k : List Dat → Option Out) (h : l.length + s.size ≤ 1000000000000) : wsK l s k = k (l ++ bytesTo s) := by
  unfold wsK
  rw [fits_le (by omega)]; rfl
theorem wbK_eq {l : List Dat} {c : Int} (k : List Dat → Option Out) (h : l.length + 1 ≤ 1000000000000) : wbK l c k = k (l ++ [Dat.int c]) := by
  unfold wbK
  rw [fits_le (by omega)]; rfl
theorem itOk_in {n : Int} (h : inB n = true) : itOk n = true := by
  have := inB_of h
  unfold itOk
  rw [decide_eq_true (by omega), decide_eq_true (by omega)]; rfl
theorem nmOk_of {s : ByteArray} {n : Nat} (h1 : s.size ≤ 100000000000) (h2 : n ≤ 500000000000) : nmOk s n = true := by
  unfold nmOk
  rw [Nat.ble_eq_true_of_le h1, Nat.ble_eq_true_of_le h2]; rfl
def asFar (x y : List Dat) : Prop := x.length ≤ y.length ∧ (y.length ≤ 1048576 → x = y) ∧ (1048576 < y.length → 1048576 < x.length)
theorem asFar.refl (x : List Dat) : asFar x x := ⟨Nat.le_refl _, fun _ => rfl, fun h => h⟩
theorem asFar.app {x y : List Dat} (h : asFar x y) (a : List Dat) : asFar (x ++ a) (y ++ a) := by
  obtain ⟨h1, h2, h3⟩ := h
  refine ⟨by simp; omega, fun h => ?_, fun h => ?_⟩
  · rw [List.length_append] at h
    rw [h2 (by omega)]
  · rw [List.length_append] at h ⊢
    by_cases hy : y.length ≤ 1048576
    · rw [h2 hy]; omega
    · have := h3 (by omega); omega
theorem arrW_far {f : Dat → List Dat → List Dat} {t : Dat → List Dat} (hf : ∀ d x y, asFar x y → asFar (f d x) (y ++ t d)) : ∀ (l : List Dat) (first : Bool) (x y : List Dat), asFar x y → asFar (arrW f first l x) (y ++ sepT t first l)
  | [], first, x, y, h => by unfold arrW sepT; rw [List.append_nil]; exact h
  | d :: r, first, x, y, h => by
    unfold arrW sepT
    have h1 : asFar (bif first then x else x ++ [Dat.int 32]) (y ++ bif first then [] else [Dat.int 32]) := by
      cases first
      · exact h.app _
      · rw [cond_true, cond_true, List.append_nil]; exact h
    have := arrW_far hf r false _ _ (hf d _ _ h1)
    rw [List.append_assoc, ← List.append_assoc] at this
    rw [List.append_assoc] at this ⊢
    simpa [List.append_assoc] using this
theorem dicW_far {f : Dat → List Dat → List Dat} {t : Dat → List Dat} (hf : ∀ d x y, asFar x y → asFar (f d x) (y ++ t d)) : ∀ (ks l : List Dat) (first : Bool) (x y : List Dat), asFar x y → asFar (dicW f first ks l x) (y ++ dicT t first ks l)
  | [], l, first, x, y, h => by unfold dicW dicT; rw [List.append_nil]; exact h
  | key :: ks, [], first, x, y, h => by unfold dicW dicT; rw [List.append_nil]; exact h
  | key :: ks, d :: r, first, x, y, h => by
    unfold dicW dicT
    have h1 : asFar (bif first then x else x ++ [Dat.int 32]) (y ++ bif first then [] else [Dat.int 32]) := by
      cases first
      · exact h.app _
      · rw [cond_true, cond_true, List.append_nil]; exact h
    have := dicW_far hf ks r false _ _ (hf d _ _ ((h1.app (nameT (key.at 0).toS)).app [Dat.int 32]))
    simpa [List.append_assoc] using this
theorem wrO_far : ∀ (k : Nat) (d : Dat) (x y : List Dat), asFar x y → asFar (wrO k d x) (y ++ txtO k d)
  | 0, d, x, y, h => by unfold wrO txtO; rw [List.append_nil]; exact h
  | k + 1, d, x, y, h => by
    unfold wrO txtO
    by_cases hx : 1048576 < x.length
    · rw [decide_eq_true (show (x.length : Int) > 1048576 by omega), cond_true]
      have := h.1
      refine ⟨by simp; omega, fun h' => ?_, fun _ => hx⟩
      rw [List.length_append] at h'
      omega
    · rw [decide_eq_false (show ¬ (x.length : Int) > 1048576 by omega), cond_false]
      unfold wrK txtK
      cases (d.at 0).toI == 0
      · cases (d.at 0).toI == 1
        · cases (d.at 0).toI == 2
          · cases (d.at 0).toI == 3
            · cases (d.at 0).toI == 4
              · cases (d.at 0).toI == 5
                · cases (d.at 0).toI == 6
                  · cases (d.at 0).toI == 7
                    · cases (d.at 0).toI == 8
                      · simp only [cond_false, List.append_nil]; exact h
                      · simp only [cond_false, cond_true]; exact h.app _
                    · simp only [cond_false, cond_true]
                      have := (dicW_far (wrO_far k) (d.at 4).toL (d.at 5).toL true _ _ (h.app (bytesTo ⟨#[60, 60]⟩))).app (bytesTo ⟨#[62, 62]⟩)
                      rw [List.append_assoc y, List.append_assoc y] at this
                      exact this
                  · simp only [cond_false, cond_true]
                    have := (arrW_far (wrO_far k) (d.at 5).toL true _ _ (h.app [Dat.int 91])).app [Dat.int 93]
                    rw [List.append_assoc y, List.append_assoc y] at this
                    exact this
                · simp only [cond_false, cond_true]; exact h.app _
              · simp only [cond_false, cond_true]; exact h.app _
            · simp only [cond_false, cond_true]; exact h.app _
          · simp only [cond_false, cond_true]; exact h.app _
        · simp only [cond_false, cond_true]; exact h.app _
      · simp only [cond_true]; exact h.app _
theorem wrO_len (k : Nat) (d : Dat) (x : List Dat) : (wrO k d x).length ≤ x.length + (txtO k d).length := by
  have := (wrO_far k d x x (asFar.refl x)).1
  rwa [List.length_append] at this
theorem gt0 (i : Nat) : decide ((i : Int) > 0) = !(i == 0) := by
  cases i with
  | zero => rfl
  | succ i => rw [decide_eq_true (by omega)]; rfl
theorem write_loop1 {k m : Nat} {l1 : List Dat} (hl : l1.length ≤ 1000000) (hk : ∀ d ∈ l1, fitW k d) :
    ∀ (q i r : Nat) (l : List Dat), i + q = l1.length → q < r → l.length + (sepT (txtO k) (i == 0) (l1.drop i)).length ≤ 400000000000 → wrL1 (wrC k) m r l l1 (i : Int) = tR0 (arrW (wrO k) (i == 0) (l1.drop i) l ++ [Dat.int 93]) := by
  intro q
  induction q with
  | zero =>
    intro i r l hi hr hf
    cases r with
    | zero => omega
    | succ r =>
      rw [write_1, show decide ((i : Int) < l1.length) = false from decide_eq_false (by omega), cond_false, List.drop_eq_nil_of_le (by omega), wbK_eq _ (by omega)]
      rfl
  | succ q ih =>
    intro i r l hi hr hf
    cases r with
    | zero => omega
    | succ r =>
      have hlt : i < l1.length := by omega
      rw [List.drop_eq_getElem_cons hlt] at hf
      unfold sepT at hf
      rw [List.length_append, List.length_append] at hf
      rw [write_1, show decide ((i : Int) < l1.length) = true from decide_eq_true (by omega), cond_true, idx_at hlt, Option.bind_some, gt0, W_in (n := (i : Int) + 1) (by omega), List.drop_eq_getElem_cons hlt, wrO_nrm, ]
      unfold arrW
      have ih' := fun l => ih (i + 1) r l (by omega) (by omega)
      rw [show ((i + 1 == 0) = false) from rfl, nat_succ_cast] at ih'
      have hw := fun l => wrO_len k l1[i] l
      have hfit := hk _ (List.getElem_mem hlt)
      have step : ∀ l' : List Dat, l'.length ≤ l.length + (bif i == 0 then ([] : List Dat) else [Dat.int 32]).length → (bif decP (okWr k (nrm l1[i]) l') then wrL1 (wrC k) m r (wrO k l1[i] l') l1 ((i : Int) + 1) else none) = tR0 (arrW (wrO k) false (l1.drop (i + 1)) (wrO k l1[i] l') ++ [Dat.int 93]) := fun l' hl' => by
        have hok : okWr k (nrm l1[i]) l' := by
          refine ⟨?_, by rw [txtO_nrm]; omega⟩
          cases k with
          | zero => exact hfit
          | succ k => exact hfit
        rw [decP_eq hok, cond_true]
        refine ih' _ ?_
        have := hw l'
        omega
      cases hi0 : (i == 0)
      · rw [hi0] at step hf
        rw [Bool.not_false, cond_true, cond_false, wbK_eq _ (by omega)]
        simp only [wrO_nrm]
        exact step _ (by simp)
      · rw [hi0] at step
        rw [Bool.not_true, cond_false, cond_true]
        exact step _ (by simp)
theorem write_loop2 {k m : Nat} {k1 n1 : Int} {b1 : Bool} {s1 : ByteArray} {ks1 l1 : List Dat} (hl : l1.length ≤ 1000000) (hk : ∀ d ∈ l1, fitW k d) (hks : ks1.length = l1.length) (hkz : ∀ d ∈ ks1, (d.at 0).toS.size ≤ 127) :
    ∀ (q i r : Nat) (l : List Dat), i + q = l1.length → q < r → l.length + (dicT (txtO k) (i == 0) (ks1.drop i) (l1.drop i)).length ≤ 400000000000 → wrL2 (wrC k) m r l k1 n1 b1 s1 ks1 l1 (i : Int) = tR0 (dicW (wrO k) (i == 0) (ks1.drop i) (l1.drop i) l ++ bytesTo ⟨#[62, 62]⟩) := by
  intro q
  induction q with
  | zero =>
    intro i r l hi hr hf
    cases r with
    | zero => omega
    | succ r =>
      rw [write_2, show decide ((i : Int) < l1.length) = false from decide_eq_false (by omega), cond_false, show ks1.drop i = [] from List.drop_eq_nil_of_le (by omega), show l1.drop i = [] from List.drop_eq_nil_of_le (by omega), wsK_eq _ (by show _ + 2 ≤ _; omega)]
      rfl
  | succ q ih =>
    intro i r l hi hr hf
    cases r with
    | zero => omega
    | succ r =>
      have hlt : i < l1.length := by omega
      have hlk : i < ks1.length := by omega
      rw [List.drop_eq_getElem_cons hlt, List.drop_eq_getElem_cons hlk] at hf
      unfold dicT at hf
      rw [List.length_append, List.length_append, List.length_append, List.length_append, List.length_singleton] at hf
      rw [write_2, show decide ((i : Int) < l1.length) = true from decide_eq_true (by omega), cond_true, idx_at hlt, Option.bind_some, gt0, List.drop_eq_getElem_cons hlt, List.drop_eq_getElem_cons hlk]
      unfold dicW
      have ih' := fun l => ih (i + 1) r l (by omega) (by omega)
      rw [show ((i + 1 == 0) = false) from rfl, nat_succ_cast] at ih'
      have hw := fun l => wrO_len k l1[i] l
      have hfit := hk _ (List.getElem_mem hlt)
      have hkey := hkz _ (List.getElem_mem hlk)
      have step : ∀ l' : List Dat, l'.length ≤ l.length + (bif i == 0 then ([] : List Dat) else [Dat.int 32]).length → wr2K k m r k1 n1 b1 s1 ks1 l1 (i : Int) l' l1[i] = tR0 (dicW (wrO k) false (ks1.drop (i + 1)) (l1.drop (i + 1)) (wrO k l1[i] ((l' ++ nameT (ks1[i].at 0).toS) ++ [Dat.int 32])) ++ bytesTo ⟨#[62, 62]⟩) := fun l' hl' => by
        unfold wr2K
        have hok : okWr k (nrm l1[i]) ((l' ++ nameT (ks1[i].at 0).toS) ++ [Dat.int 32]) := by
          refine ⟨?_, by rw [txtO_nrm, List.length_append, List.length_append, List.length_singleton]; omega⟩
          cases k with
          | zero => exact hfit
          | succ k => exact hfit
        rw [idx_at hlk, Option.bind_some, nmOk_of (by omega) (by omega), cond_true, wbK_eq _ (by rw [List.length_append]; omega), decP_eq hok, cond_true, wrO_nrm, W_in (n := (i : Int) + 1) (by omega)]
        refine ih' _ ?_
        have := hw ((l' ++ nameT (ks1[i].at 0).toS) ++ [Dat.int 32])
        rw [List.length_append, List.length_append, List.length_singleton] at this
        omega
      cases hi0 : (i == 0)
      · rw [hi0] at step hf
        rw [Bool.not_false, cond_true, cond_false, wbK_eq _ (by omega)]
        exact step _ (by simp)
      · rw [hi0] at step
        rw [Bool.not_true, cond_false, cond_true]
        exact step _ (by simp)
theorem write_run {k m : Nat} {k1 n1 : Int} {b1 : Bool} {s1 : ByteArray} {ks1 l1 l : List Dat} (h : okWr (k + 1) (mkO k1 n1 b1 s1 ks1 l1) l) (hm : 1000000 < m) :
    evFn PR TK (wrC k) m 45 [.box 0 0, .agg (obA k1 n1 b1 s1 ks1 l1)] [some (bu l), none] = tR0 (wrO (k + 1) (mkO k1 n1 b1 s1 ks1 l1) l) := by
  obtain ⟨⟨f1, f2, f3⟩, h2⟩ := h
  have f1 : flatB k1 n1 b1 s1 ks1 l1 = true := f1
  have q2 : l1.length ≤ 1000000 := f2
  have q3 : ∀ d ∈ l1, fitW k d := f3
  have hkb := kindB_of f1
  have h2 : l.length + (txtK (txtO k) k1 n1 b1 s1 ks1 l1).length ≤ 400000000000 := h2
  rw [write_0]
  show _ = tR0 (bif decide ((l.length : Int) > 1048576) then l else wrK (wrO k) k1 n1 b1 s1 ks1 l1 l)
  cases decide ((l.length : Int) > 1048576)
  · rw [cond_false, cond_false]
    rcases kinds9 hkb with rfl | rfl | rfl | rfl | rfl | rfl | rfl | rfl | rfl
    · have h2 : l.length + (bytesTo nullT).length ≤ 400000000000 := h2
      rw [bytesTo_len] at h2
      exact wsK_eq _ (by omega)
    · have h2 : l.length + (bytesTo (boolT b1)).length ≤ 400000000000 := h2
      rw [bytesTo_len] at h2
      exact wsK_eq _ (by omega)
    · have h2 : l.length + (bytesTo (itS n1)).length ≤ 400000000000 := h2
      rw [bytesTo_len] at h2
      have hk : inB n1 = true := hkb
      show (bif itOk n1 then wsK l (itS n1) tR0 else none) = _
      rw [itOk_in hk, cond_true]
      exact wsK_eq _ (by omega)
    · have h2 : l.length + (bytesTo (fixT n1)).length ≤ 400000000000 := h2
      rw [bytesTo_len] at h2
      have hk : (inB n1 && (n1.tmod 65536) != 0) = true := hkb
      rw [Bool.and_eq_true] at hk
      show (bif inB n1 then wsK l (fixT n1) tR0 else none) = _
      rw [hk.1, cond_true]
      exact wsK_eq _ (by omega)
    · have h2 : l.length + (nameT s1).length ≤ 400000000000 := h2
      have hk : namedB s1 = true := hkb
      have := named_size hk
      show (bif nmOk s1 l.length then tR0 (l ++ nameT s1) else none) = _
      rw [nmOk_of (by omega) (by omega)]; rfl
    · have h2 : l.length + (txtT s1).length ≤ 400000000000 := h2
      have hk : decide ((s1.size : Int) ≤ 65536) = true := hkb
      have := of_decide_eq_true hk
      show (bif nmOk s1 l.length then tR0 (l ++ txtT s1) else none) = _
      rw [nmOk_of (by omega) (by omega)]; rfl
    · have h2 : l.length + ((Dat.int 91 :: sepT (txtO k) true l1) ++ [Dat.int 93]).length ≤ 400000000000 := h2
      rw [List.length_append, List.length_cons, List.length_singleton] at h2
      show wbK l 91 (fun l' => wrL1 (wrC k) m m l' l1 0) = _
      have e := write_loop1 (k := k) (m := m) q2 q3 l1.length 0 m (l ++ [Dat.int 91]) (by omega) (by omega) (by rw [List.drop_zero, List.length_append, List.length_singleton]; show _ + (sepT (txtO k) true l1).length ≤ _; omega)
      rw [List.drop_zero, show ((0 : Nat) : Int) = 0 from rfl] at e
      rw [wbK_eq _ (by omega), e]
      rfl
    · have h2 : l.length + (((bytesTo ⟨#[60, 60]⟩) ++ dicT (txtO k) true ks1 l1) ++ bytesTo ⟨#[62, 62]⟩).length ≤ 400000000000 := h2
      rw [List.length_append, List.length_append, bytesTo_len, bytesTo_len] at h2
      have h2 : l.length + (2 + (dicT (txtO k) true ks1 l1).length + 2) ≤ 400000000000 := h2
      obtain ⟨g1, g2⟩ := kb7 hkb
      show wsK l ⟨#[60, 60]⟩ (fun l' => wrL2 (wrC k) m m l' 7 n1 b1 s1 ks1 l1 0) = _
      have e := write_loop2 (k := k) (m := m) (k1 := 7) (n1 := n1) (b1 := b1) (s1 := s1) q2 q3 g1 g2 l1.length 0 m (l ++ bytesTo ⟨#[60, 60]⟩) (by omega) (by omega) (by rw [List.drop_zero, List.drop_zero, List.length_append, bytesTo_len]; show _ + 2 + (dicT (txtO k) true ks1 l1).length ≤ _; omega)
      rw [List.drop_zero, List.drop_zero, show ((0 : Nat) : Int) = 0 from rfl] at e
      rw [wsK_eq _ (by show _ + 2 ≤ _; omega), e]
      rfl
    · have h2 : l.length + (bytesTo (itS n1 ++ refT)).length ≤ 400000000000 := h2
      rw [bytesTo_len] at h2
      have hk : (decide (n1 ≥ 1) && decide (n1 ≤ 4096)) = true := hkb
      rw [Bool.and_eq_true, decide_eq_true_eq, decide_eq_true_eq] at hk
      show (bif itOk n1 then glueO (itS n1) refT (fun s => wsK l s tR0) else none) = _
      have hz : (itS n1).size + refT.size ≤ 400000000000 := by
        rw [ByteArray.size_append] at h2; omega
      rw [show itOk n1 = true by unfold itOk; rw [decide_eq_true (by omega), decide_eq_true (by omega)]; rfl, cond_true, glueO_eq _ (by omega)]
      exact wsK_eq _ (by omega)
  · rfl
theorem wrC0_sound : SoundCall PR wrC0 :=
  wb_sound (ws_sound (bl_sound (fb_sound (itoa_sound (dg_sound (name_sound (text_sound sound_none)))))))
theorem write_sound : ∀ k, SoundCall PR (wrC k) := by
  refine sound_rec (takes := TK) hmixP wrC0_sound _ (fn := (PR.funcs[45]?).getD default) (by kernel_rfl) (by kernel_rfl) writeE (fun xs bs out h => ?_) (fun k xs bs out h => ?_)
  · unfold writeE at h
    split at h
    · obtain ⟨_, h⟩ := bif_some h
      injection h with h
      injection h with h _
      exact (decP_of h).1
    · cases h
  · unfold writeE at h
    split at h
    · obtain ⟨hc, h⟩ := bif_some h
      injection h with h
      injection h with h1 h2
      obtain ⟨rfl, rfl, rfl⟩ := isBu_eq hc
      subst h2
      exact ⟨1000001, write_run (decP_of h1) (by omega)⟩
    · cases h
end Go.Proofs.YtckdgcpomkefpaaGreatDoor.En
end
