/- Part 6 of a proof: what it needs of the program's functions as plain Lean functions, with the proof that the machine's calls come to them, and of plain laws; put together out of smaller texts. No conditions besides those that each statement names. -/
import Derived.Lib.Hide
import Derived.Maps.Own
import Derived.Maps.Views
import Derived.Test.YtckdgcpomkefpaaGreatDoorLa0
import Derived.Test.YtckdgcpomkefpaaGreatDoorLa5
import Derived.WalkKit
section
set_option linter.unusedVariables false
set_option linter.unusedSimpArgs false
set_option maxRecDepth 100000
namespace Go.Proofs.YtckdgcpomkefpaaGreatDoor.En
open Go
def orO {β : Type} (c : Bool) (d : Option Bool) (k : Bool → Option β) : Option β := (bif c then some true else d).bind k
theorem orO_eq {β : Type} (c d : Bool) (k : Bool → Option β) : orO c (some d) k = k (c || d) := by cases c <;> rfl
noncomputable def flatL1 (call : CallF) (m r : Nat) (k1 n1 : Int) (b1 : Bool) (s1 : ByteArray) (ks1 l1 : List Dat) (i : Int) := loopF PR TK call m 93 [none] [true, true, false, true, true, true, true, true, true, true, true, true, true, false, true, false, true] r (sp 165 [(1, .box 1 0), (3, I i)] [(1, obA k1 n1 b1 s1 ks1 l1)])
noncomputable def flatL2 (call : CallF) (m r1 r : Nat) (k1 n1 : Int) (b1 : Bool) (s1 : ByteArray) (ks1 l1 : List Dat) (i j : Int) := loopF2 PR TK call m 93 [none] [true, true, false, true, true, true, true, true, true, true, true, true, true, false, true, false, true] r1 [true, false, true, true] r (sp 165 [(1, .box 1 0), (3, I i), (4, I j)] [(1, obA k1 n1 b1 s1 ks1 l1)])
noncomputable def flC (ext : CallF) : CallF := addF 112 namedE (addF 101 inE ext)
section
variable (ext : CallF) (m r r1 : Nat) (k1 n1 : Int) (b1 : Bool) (s1 : ByteArray) (ks1 l1 : List Dat) (i j : Int)
def bare (k1 n1 : Int) (b1 : Bool) (s1 : ByteArray) (ks1 l1 : List Dat) {β : Type} (kk : Bool → Option β) : Option β :=
  andK b1 (k1 != 1) fun t => orO t (andK (n1 != 0) (k1 != 2) fun t => andK t (k1 != 3) fun t => andK t (k1 != 8) fun t => some t) fun t =>
    orO t (andK (!(s1.toList == (⟨#[]⟩ : ByteArray).toList)) (k1 != 4) fun t => andK t (k1 != 5) fun t => some t) fun t =>
    orO t (andK (decide ((ks1.length : Int) > 0)) (k1 != 7) fun t => some t) fun t =>
    orO t (andK (decide ((l1.length : Int) > 0)) (k1 != 6) fun t => andK t (k1 != 7) fun t => some t) kk
theorem flat_0 : evFn PR TK (flC ext) m 93 [.agg (obA k1 n1 b1 s1 ks1 l1)] [none] = bare k1 n1 b1 s1 ks1 l1 fun t => bif t then bR1 false else
    bif (k1 == 2) then bR1 (inB n1) else bif (k1 == 3) then andK (inB n1) ((n1.tmod 65536) != 0) bR1 else bif (k1 == 4) then bR1 (namedB s1) else bif (k1 == 5) then bR1 (decide ((s1.size : Int) ≤ 65536)) else
    bif (k1 == 7) then (bif ((ks1.length : Int) != l1.length) then bR1 false else flatL1 (flC ext) m m k1 n1 b1 s1 ks1 l1 0) else
    bif (k1 == 8) then andK (decide (n1 ≥ 1)) (decide (n1 ≤ 4096)) bR1 else orK (k1 == 0) (k1 == 1) fun t => orK t (k1 == 6) bR1 := by kernel_rfl
theorem flat_1 : flatL1 (flC ext) m (r + 1) k1 n1 b1 s1 ks1 l1 i = bif decide (i < ks1.length) then (idx ks1 i).bind fun d => bif !(namedB (d.at 0).toS) then bR1 false else flatL2 (flC ext) m r m k1 n1 b1 s1 ks1 l1 i 0
    else bR1 true := by kernel_rfl
theorem flat_2 : flatL2 (flC ext) m r1 (r + 1) k1 n1 b1 s1 ks1 l1 i j = bif decide (j < i) then (idx ks1 j).bind fun d => (idx ks1 i).bind fun e =>
      bif ((d.at 0).toS.toList == (e.at 0).toS.toList) then bR1 false else flatL2 (flC ext) m r1 r k1 n1 b1 s1 ks1 l1 i (IntKind.i64.wrap (j + 1))
    else flatL1 (flC ext) m r1 k1 n1 b1 s1 ks1 l1 (IntKind.i64.wrap (i + 1)) := by kernel_rfl
end
def eqK (d e : Dat) : Bool := (d.at 0).toS.toList == (e.at 0).toS.toList
def keysR : List Dat → List Dat → Bool
  | _, [] => true
  | pre, d :: r => namedB (d.at 0).toS && (!(pre.any fun e => eqK e d) && keysR (pre ++ [d]) r)
theorem flat_loop2 {ext : CallF} {m r1 : Nat} {k1 n1 : Int} {b1 : Bool} {s1 : ByteArray} {ks1 l1 : List Dat} {i : Nat} (hi : i < ks1.length) (hf : ks1.length ≤ 1000000) :
    ∀ (n j r : Nat), j + n = i → n < r → flatL2 (flC ext) m r1 r k1 n1 b1 s1 ks1 l1 (i : Int) (j : Int) = bif (((ks1.take i).drop j).any fun e => eqK e ks1[i]) then bR1 false else flatL1 (flC ext) m r1 k1 n1 b1 s1 ks1 l1 ((i + 1 : Nat) : Int) := by
  intro n
  induction n with
  | zero =>
    intro j r hj hr
    cases r with
    | zero => omega
    | succ r =>
      have : j = i := by omega
      subst this
      rw [flat_2, show decide ((j : Int) < (j : Int)) = false from decide_eq_false (by omega), cond_false, IntWalk.i64_in _ (by omega), List.drop_eq_nil_of_le (by simp; omega), List.any_nil, cond_false]
      rfl
  | succ n ih =>
    intro j r hj hr
    cases r with
    | zero => omega
    | succ r =>
      have h1 : j < ks1.length := by omega
      have h2 : j < (ks1.take i).length := by simp; omega
      have ih := ih (j + 1) r (by omega) (by omega)
      rw [show ((j + 1 : Nat) : Int) = (j : Int) + 1 by omega] at ih
      rw [flat_2, show decide ((j : Int) < (i : Int)) = true from decide_eq_true (by omega), cond_true, idx_at h1, idx_at hi, Option.bind_some, Option.bind_some, IntWalk.i64_in _ (by omega), ih, List.drop_eq_getElem_cons h2, List.any_cons, List.getElem_take]
      show (bif eqK ks1[j] ks1[i] then _ else _) = _
      cases eqK ks1[j] ks1[i]
      · rw [cond_false, Bool.false_or]
      · rw [cond_true, Bool.true_or, cond_true]
theorem flat_loop1 {ext : CallF} {m : Nat} {k1 n1 : Int} {b1 : Bool} {s1 : ByteArray} {ks1 l1 : List Dat} (hf : ks1.length ≤ 1000000) (hm : 1000000 < m) :
    ∀ (n i r : Nat), i + n = ks1.length → n < r → flatL1 (flC ext) m r k1 n1 b1 s1 ks1 l1 (i : Int) = bR1 (keysR (ks1.take i) (ks1.drop i)) := by
  intro n
  induction n with
  | zero =>
    intro i r hi hr
    cases r with
    | zero => omega
    | succ r =>
      rw [flat_1, show decide ((i : Int) < ks1.length) = false from decide_eq_false (by omega), cond_false, List.drop_eq_nil_of_le (by omega)]
      rfl
  | succ n ih =>
    intro i r hi hr
    cases r with
    | zero => omega
    | succ r =>
      have h1 : i < ks1.length := by omega
      have ih := ih (i + 1) r (by omega) (by omega)
      have e := flat_loop2 (ext := ext) (m := m) (r1 := r) (k1 := k1) (n1 := n1) (b1 := b1) (s1 := s1) (l1 := l1) h1 hf i 0 m (by omega) (by omega)
      rw [List.drop_zero, show ((0 : Nat) : Int) = 0 from rfl, ih] at e
      rw [flat_1, show decide ((i : Int) < ks1.length) = true from decide_eq_true (by omega), cond_true, idx_at h1, Option.bind_some, e, List.drop_eq_getElem_cons h1]
      show _ = bR1 (namedB (ks1[i].at 0).toS && (!((ks1.take i).any fun e => eqK e ks1[i]) && keysR (ks1.take i ++ [ks1[i]]) (ks1.drop (i + 1))))
      rw [List.take_append_getElem h1]
      cases namedB (ks1[i].at 0).toS
      · rfl
      · cases ((ks1.take i).any fun e => eqK e ks1[i]) <;> rfl
def bareB (k1 n1 : Int) (b1 : Bool) (s1 : ByteArray) (ks1 l1 : List Dat) : Bool :=
  ((((b1 && k1 != 1) || (((n1 != 0 && k1 != 2) && k1 != 3) && k1 != 8)) || ((!(s1.toList == (⟨#[]⟩ : ByteArray).toList) && k1 != 4) && k1 != 5)) || (decide ((ks1.length : Int) > 0) && k1 != 7)) || ((decide ((l1.length : Int) > 0) && k1 != 6) && k1 != 7)
theorem bare_eq (k1 n1 : Int) (b1 : Bool) (s1 : ByteArray) (ks1 l1 : List Dat) {β : Type} (kk : Bool → Option β) : bare k1 n1 b1 s1 ks1 l1 kk = kk (bareB k1 n1 b1 s1 ks1 l1) := by
  unfold bare bareB
  simp only [andK_eq, orO_eq]
def kindB (k1 n1 : Int) (s1 : ByteArray) (ks1 l1 : List Dat) : Bool :=
  bif (k1 == 2) then inB n1 else bif (k1 == 3) then inB n1 && (n1.tmod 65536) != 0 else bif (k1 == 4) then namedB s1 else bif (k1 == 5) then decide ((s1.size : Int) ≤ 65536) else
    bif (k1 == 7) then (bif ((ks1.length : Int) != l1.length) then false else keysR [] ks1) else bif (k1 == 8) then decide (n1 ≥ 1) && decide (n1 ≤ 4096) else (k1 == 0 || k1 == 1) || k1 == 6
def flatB (k1 n1 : Int) (b1 : Bool) (s1 : ByteArray) (ks1 l1 : List Dat) : Bool := !bareB k1 n1 b1 s1 ks1 l1 && kindB k1 n1 s1 ks1 l1
def flatE : List AV → Bx → Option (Bool × Out)
  | [.agg [.v (.int .i64 k1), .v (.bool b1), .v (.int .i64 n1), .v (.string s1), .row none 9 ks1, .row none 43 l1]], [none] =>
    some (Nat.ble ks1.length 1000000, .ret (B (flatB k1 n1 b1 s1 ks1 l1)) [none])
  | _, _ => none
theorem flat_run {ext : CallF} {m : Nat} {k1 n1 : Int} {b1 : Bool} {s1 : ByteArray} {ks1 l1 : List Dat} (hf : ks1.length ≤ 1000000) (hm : 1000000 < m) :
    evFn PR TK (flC ext) m 93 [.agg (obA k1 n1 b1 s1 ks1 l1)] [none] = bR1 (flatB k1 n1 b1 s1 ks1 l1) := by
  have e := flat_loop1 (ext := ext) (k1 := k1) (n1 := n1) (b1 := b1) (s1 := s1) (l1 := l1) hf hm ks1.length 0 m (by omega) (by omega)
  rw [List.drop_zero, List.take_zero, show ((0 : Nat) : Int) = 0 from rfl] at e
  rw [flat_0, bare_eq, e]
  unfold flatB kindB
  cases bareB k1 n1 b1 s1 ks1 l1
  · simp only [andK_eq, orK_eq, cond_false, Bool.not_false, Bool.true_and]
    cases (k1 == 2)
    · cases (k1 == 3)
      · cases (k1 == 4)
        · cases (k1 == 5)
          · cases (k1 == 7)
            · cases (k1 == 8) <;> rfl
            · cases ((ks1.length : Int) != l1.length) <;> rfl
          · rfl
        · rfl
      · rfl
    · rfl
  · rfl
theorem flat_sound {ext : CallF} (hext : SoundCall PR ext) : SoundCall PR (addF 93 flatE ext) := by
  refine sound_both (sound_add (takes := TK) hmixP (rname_sound (rin_sound sound_none)) _ (fn := (PR.funcs[93]?).getD default) (by kernel_rfl) (by kernel_rfl) flatE fun xs bs out h => ?_) hext
  unfold flatE at h
  split at h
  · injection h with h
    injection h with h1 h2
    subst h2
    exact ⟨1000001, flat_run (Nat.le_of_ble_eq_true h1) (by omega)⟩
  · cases h
end Go.Proofs.YtckdgcpomkefpaaGreatDoor.En
end
section
set_option linter.unusedVariables false
set_option linter.unusedSimpArgs false
set_option maxRecDepth 100000
namespace Go.Proofs.YtckdgcpomkefpaaGreatDoor.En
open Go
def bu (l : List Dat) : List AV := [.self 79, .row (some (sub 0 1)) 5 l]
noncomputable def bC (ext : CallF) : CallF := addF 96 ccE ext
theorem wb_0 (ext : CallF) (m : Nat) (l : List Dat) (c : Int) : evFn PR TK (bC ext) m 71 [.box 0 0, .v (.int .u8 c)] [some (bu l), none] =
  bif Nat.ble (l.length + 1) fitsN then some (.ret (.v .nilIface) [some (bu (l ++ [.int c])), none]) else none := by kernel_rfl
theorem ws_0 (ext : CallF) (m : Nat) (l : List Dat) (s : ByteArray) : evFn PR TK (bC ext) m 66 [.box 0 0, S s] [some (bu l), none] =
  bif Nat.ble (l.length + s.size) fitsN then some (.ret (.tup [I s.size, .v .nilIface]) [some (bu (l ++ bytesTo s)), none]) else none := by kernel_rfl
theorem bl_0 (call : CallF) (m : Nat) (l : List Dat) : evFn PR TK call m 46 [.box 0 0] [some (bu l)] = some (.ret (I l.length) [some (bu l)]) := by kernel_rfl
def isBu (T m E : Nat) : Bool := Nat.beq T 79 && Nat.beq m (sub 0 1) && Nat.beq E 5
def wbE : List AV → Bx → Option (Bool × Out)
  | [.box 0 0, .v (.int .u8 c)], [some [.self T, .row (some m) E l], none] => bif isBu T m E then some (Nat.ble (l.length + 1) fitsN, .ret (.v .nilIface) [some (bu (l ++ [.int c])), none]) else none
  | _, _ => none
def wsE : List AV → Bx → Option (Bool × Out)
  | [.box 0 0, .v (.string s)], [some [.self T, .row (some m) E l], none] => bif isBu T m E then some (Nat.ble (l.length + s.size) fitsN, .ret (.tup [I s.size, .v .nilIface]) [some (bu (l ++ bytesTo s)), none]) else none
  | _, _ => none
def blE : List AV → Bx → Option (Bool × Out)
  | [.box 0 0], [some [.self T, .row (some m) E l]] => bif isBu T m E then some (true, .ret (I l.length) [some (bu l)]) else none
  | _, _ => none
theorem isBu_eq {T m E : Nat} (h : isBu T m E = true) : T = 79 ∧ m = sub 0 1 ∧ E = 5 := by
  unfold isBu at h
  simp only [Bool.and_eq_true] at h
  exact ⟨Nat.eq_of_beq_eq_true h.1.1, Nat.eq_of_beq_eq_true h.1.2, Nat.eq_of_beq_eq_true h.2⟩
theorem wb_sound {ext : CallF} (hext : SoundCall PR ext) : SoundCall PR (addF 71 wbE ext) := by
  refine sound_both (sound_add (takes := TK) hmixP (cc_sound sound_none) _ (fn := (PR.funcs[71]?).getD default) (by kernel_rfl) (by kernel_rfl) wbE fun xs bs out h => ?_) hext
  unfold wbE at h
  split at h
  · obtain ⟨hc, h⟩ := bif_some h
    injection h with h
    injection h with h1 h2
    obtain ⟨rfl, rfl, rfl⟩ := isBu_eq hc
    subst h2
    refine ⟨1, (wb_0 _ _ _ _).trans ?_⟩
    rw [h1]; rfl
  · cases h
theorem ws_sound {ext : CallF} (hext : SoundCall PR ext) : SoundCall PR (addF 66 wsE ext) := by
  refine sound_both (sound_add (takes := TK) hmixP (cc_sound sound_none) _ (fn := (PR.funcs[66]?).getD default) (by kernel_rfl) (by kernel_rfl) wsE fun xs bs out h => ?_) hext
  unfold wsE at h
  split at h
  · obtain ⟨hc, h⟩ := bif_some h
    injection h with h
    injection h with h1 h2
    obtain ⟨rfl, rfl, rfl⟩ := isBu_eq hc
    subst h2
    refine ⟨1, (ws_0 _ _ _ _).trans ?_⟩
    rw [h1]; rfl
  · cases h
theorem bl_sound {ext : CallF} (hext : SoundCall PR ext) : SoundCall PR (addF 46 blE ext) := by
  refine sound_add (takes := TK) hmixP hext _ (fn := (PR.funcs[46]?).getD default) (by kernel_rfl) (by kernel_rfl) blE fun xs bs out h => ?_
  unfold blE at h
  split at h
  · obtain ⟨hc, h⟩ := bif_some h
    injection h with h
    injection h with h1 h2
    obtain ⟨rfl, rfl, rfl⟩ := isBu_eq hc
    subst h2
    exact ⟨1, bl_0 _ _ _⟩
  · cases h
def delB (c : Int) : Bool := c == 40 || (c == 41 || (c == 60 || (c == 62 || (c == 91 || (c == 93 || (c == 123 || (c == 125 || (c == 47 || c == 37))))))))
def plainB (c : Int) : Bool := ((decide (33 ≤ c) && decide (c ≤ 126)) && !delB c) && c != 35
def del1 : List Int → Int → Option Out
  | [], _ => bR1 false
  | [a], c => bif c == a then bR1 true else bR1 false
  | a :: l, c => bif c == a then (bif c == a then bR1 true else bR1 false) else del1 l c
theorem del_0 (call : CallF) (m : Nat) (c : Int) : evFn PR TK call m 107 [.v (.int .u8 c)] [none] = del1 [40, 41, 60, 62, 91, 93, 123, 125, 47, 37] c := by kernel_rfl
def delE : List AV → Bx → Option (Bool × Out)
  | [.v (.int .u8 c)], [none] => some (true, .ret (B (delB c)) [none])
  | _, _ => none
theorem del1_eq (c : Int) : del1 [40, 41, 60, 62, 91, 93, 123, 125, 47, 37] c = bR1 (delB c) := by
  unfold delB
  simp only [del1]
  cases c == 40 <;> cases c == 41 <;> cases c == 60 <;> cases c == 62 <;> cases c == 91 <;> cases c == 93 <;> cases c == 123 <;> cases c == 125 <;> cases c == 47 <;> cases c == 37 <;> rfl
theorem del_sound {ext : CallF} (hext : SoundCall PR ext) : SoundCall PR (addF 107 delE ext) := by
  refine sound_add (takes := TK) hmixP hext _ (fn := (PR.funcs[107]?).getD default) (by kernel_rfl) (by kernel_rfl) delE fun xs bs out h => ?_
  unfold delE at h
  split at h
  · cases h
    exact ⟨0, (del_0 _ _ _).trans (del1_eq _)⟩
  · cases h
def plainE : List AV → Bx → Option (Bool × Out)
  | [.v (.int .u8 c)], [none] => some (true, .ret (B (plainB c)) [none])
  | _, _ => none
theorem plain_0 (ext : CallF) (m : Nat) (c : Int) : evFn PR TK (addF 107 delE ext) m 100 [.v (.int .u8 c)] [none] =
    andK (decide (33 ≤ c)) (decide (c ≤ 126)) fun t => andK t (!delB c) fun t => andK t (c != 35) bR1 := by kernel_rfl
theorem plain_sound {ext : CallF} (hext : SoundCall PR ext) : SoundCall PR (addF 100 plainE ext) := by
  refine sound_both (sound_add (takes := TK) hmixP (del_sound sound_none) _ (fn := (PR.funcs[100]?).getD default) (by kernel_rfl) (by kernel_rfl) plainE fun xs bs out h => ?_) hext
  unfold plainE at h
  split at h
  · cases h
    refine ⟨0, (plain_0 _ _ _).trans ?_⟩
    simp only [andK_eq]
    rfl
  · cases h
def figs : ByteArray := ⟨#[48, 49, 50, 51, 52, 53, 54, 55, 56, 57, 65, 66, 67, 68, 69, 70]⟩
noncomputable def nmC (ext : CallF) : CallF := addF 71 wbE (addF 100 plainE ext)
def tR0 (l : List Dat) : Option Out := some (.ret (.tup []) [some (bu l), none])
noncomputable def onmL (call : CallF) (m r : Nat) (l : List Dat) (s : ByteArray) (i : Int) := loopF PR TK call m 69 [some (bu l), none] [true, true] r (sp 34 [(0, .box 0 0), (1, S s), (9, I s.size), (10, I i)] [(0, bu l)])
theorem oname_0 (ext : CallF) (m : Nat) (l : List Dat) (s : ByteArray) : evFn PR TK (nmC ext) m 69 [.box 0 0, S s] [some (bu l), none] =
  bif Nat.ble (l.length + 1) fitsN then onmL (nmC ext) m m (l ++ [.int 47]) s 0 else none := by kernel_rfl
def hi4 (c : Int) : Int := c.fdiv (2 ^ (min (4 : Int).toNat IntKind.u8.bits))
def lo4 (c : Int) : Int := IntKind.u8.wrap (BitVec.ofInt IntKind.u8.bits c &&& BitVec.ofInt IntKind.u8.bits 15).toNat
theorem oname_1 (ext : CallF) (m r : Nat) (l : List Dat) (s : ByteArray) (i : Int) : onmL (nmC ext) m (r + 1) l s i =
  bif decide (i < s.size) then (bif (true && decide (0 ≤ i) && decide (i < s.size)) then
    (bif plainB (bt s i) then (bif Nat.ble (l.length + 1) fitsN then onmL (nmC ext) m r (l ++ [.int (bt s i)]) s (W (i + 1)) else none) else
      bif Nat.ble (l.length + 1) fitsN then (bif (true && decide (0 ≤ hi4 (bt s i)) && decide (hi4 (bt s i) < (figs.size : Int))) then
        (bif Nat.ble ((l ++ [Dat.int 35]).length + 1) fitsN then (bif (true && decide (0 ≤ lo4 (bt s i)) && decide (lo4 (bt s i) < (figs.size : Int))) then
          (bif Nat.ble (((l ++ [Dat.int 35]) ++ [Dat.int (bt figs (hi4 (bt s i)))]).length + 1) fitsN then onmL (nmC ext) m r (((l ++ [Dat.int 35]) ++ [Dat.int (bt figs (hi4 (bt s i)))]) ++ [Dat.int (bt figs (lo4 (bt s i)))]) s (W (i + 1)) else none) else none) else none) else none) else none) else none)
  else tR0 l := by kernel_rfl
end Go.Proofs.YtckdgcpomkefpaaGreatDoor.En
end
section
set_option linter.unusedVariables false
set_option linter.unusedSimpArgs false
set_option maxRecDepth 100000
namespace Go.Proofs.YtckdgcpomkefpaaGreatDoor.En
open Go
def qu (c : Int) : Int := IntKind.u8.wrap (c.tdiv 16)
def andO {β : Type} (c : Bool) (d : Option Bool) (k : Bool → Option β) : Option β := (bif c then d else some false).bind k
theorem andO_eq {β : Type} (c d : Bool) (k : Bool → Option β) : andO c (some d) k = k (c && d) := by cases c <;> rfl
def okI (s : ByteArray) (i : Int) : Bool := true && decide (0 ≤ i) && decide (i < s.size)
def digOk (n : Nat) : Bool := okI figs (hi4 n) && (okI figs (lo4 n) && (decide (hi4 n = qu n) && decide (lo4 n = (n : Int).tmod 16)))
theorem dig_all : ∀ n : Fin 256, digOk n.val = true := by decide +kernel
theorem dig_ok (b : UInt8) : okI figs (hi4 b.toNat) = true ∧ okI figs (lo4 b.toNat) = true ∧ hi4 b.toNat = qu b.toNat ∧ lo4 b.toNat = (b.toNat : Int).tmod 16 := by
  have h := dig_all ⟨b.toNat, b.toNat_lt⟩
  unfold digOk at h
  simp only [Bool.and_eq_true, decide_eq_true_eq] at h
  exact ⟨h.1, h.2.1, h.2.2.1, h.2.2.2⟩
def esc (b : UInt8) : List Dat := bif plainB b.toNat then [Dat.int b.toNat] else [Dat.int 35, Dat.int (bt figs (hi4 b.toNat)), Dat.int (bt figs (lo4 b.toNat))]
def nameT (s : ByteArray) : List Dat := Dat.int 47 :: s.data.toList.flatMap esc
theorem esc_len (b : UInt8) : (esc b).length ≤ 3 := by unfold esc; cases plainB b.toNat <;> simp
theorem okI_nat {s : ByteArray} {i : Nat} (h : i < s.size) : okI s (i : Int) = true := by
  unfold okI
  rw [decide_eq_true (show (0 : Int) ≤ i by omega), decide_eq_true (show (i : Int) < s.size by omega)]; rfl
theorem fits_le {n : Nat} (h : n ≤ 1099511627776) : Nat.ble n fitsN = true := Nat.ble_eq_true_of_le h
theorem oname_loop {ext : CallF} {m : Nat} {s : ByteArray} (hf : s.size ≤ 140737488355328) : ∀ (n i r : Nat) (l : List Dat), i + n = s.data.toList.length → n < r → l.length + 3 * n ≤ 1099511627000 → onmL (nmC ext) m r l s (i : Int) = tR0 (l ++ (s.data.toList.drop i).flatMap esc) := by
  have hsz : s.data.toList.length = s.size := Array.length_toList
  intro n
  induction n with
  | zero =>
    intro i r l hi hr hl
    cases r with
    | zero => omega
    | succ r =>
      rw [oname_1, show decide ((i : Int) < s.size) = false from decide_eq_false (by omega), cond_false, List.drop_eq_nil_of_le (by omega), List.flatMap_nil, List.append_nil]
  | succ n ih =>
    intro i r l hi hr hl
    cases r with
    | zero => omega
    | succ r =>
      have h1 : i < s.data.toList.length := by omega
      have hbt := bt_nat s i h1
      obtain ⟨d1, d2, d3, d4⟩ := dig_ok s.data.toList[i]
      have hok : (true && decide ((0 : Int) ≤ i) && decide ((i : Int) < s.size)) = true := okI_nat (by omega)
      have d1' : (true && decide (0 ≤ hi4 (s.data.toList[i].toNat : Int)) && decide (hi4 (s.data.toList[i].toNat : Int) < (figs.size : Int))) = true := d1
      have d2' : (true && decide (0 ≤ lo4 (s.data.toList[i].toNat : Int)) && decide (lo4 (s.data.toList[i].toNat : Int) < (figs.size : Int))) = true := d2
      rw [oname_1, hok, show decide ((i : Int) < s.size) = true from decide_eq_true (by omega), cond_true, cond_true, hbt, d1', d2', W_in (n := (i : Int) + 1) (by omega), List.drop_eq_getElem_cons h1, List.flatMap_cons]
      have ih' := fun l h => ih (i + 1) r l (by omega) (by omega) h
      rw [show ((i + 1 : Nat) : Int) = (i : Int) + 1 by omega] at ih'
      rw [show esc s.data.toList[i] = bif plainB (s.data.toList[i].toNat : Int) then [Dat.int s.data.toList[i].toNat] else [Dat.int 35, Dat.int (bt figs (hi4 s.data.toList[i].toNat)), Dat.int (bt figs (lo4 s.data.toList[i].toNat))] from rfl]
      cases plainB (s.data.toList[i].toNat : Int)
      · rw [cond_false, cond_true, cond_true, fits_le (by omega), cond_true, fits_le (by simp; omega), cond_true, fits_le (by simp; omega), cond_true, ih' _ (by simp; omega), cond_false]
        simp
      · rw [cond_true, fits_le (by omega), cond_true, ih' _ (by simp; omega), cond_true]
        simp
def nmOk (s : ByteArray) (n : Nat) : Bool := Nat.ble s.size 100000000000 && Nat.ble n 500000000000
def nameE : List AV → Bx → Option (Bool × Out)
  | [.box 0 0, .v (.string s)], [some [.self T, .row (some m) E l], none] => bif isBu T m E then some (nmOk s l.length, .ret (.tup []) [some (bu (l ++ nameT s)), none]) else none
  | _, _ => none
theorem name_sound {ext : CallF} (hext : SoundCall PR ext) : SoundCall PR (addF 69 nameE ext) := by
  refine sound_both (sound_add (takes := TK) hmixP (wb_sound (plain_sound sound_none)) _ (fn := (PR.funcs[69]?).getD default) (by kernel_rfl) (by kernel_rfl) nameE fun xs bs out h => ?_) hext
  unfold nameE at h
  split at h
  · rename_i s T mm E l
    obtain ⟨hc, h⟩ := bif_some h
    injection h with h
    injection h with h1 h2
    obtain ⟨rfl, rfl, rfl⟩ := isBu_eq hc
    subst h2
    unfold nmOk at h1
    rw [Bool.and_eq_true] at h1
    have b1 := Nat.le_of_ble_eq_true h1.1
    have b2 := Nat.le_of_ble_eq_true h1.2
    have hsz : s.data.toList.length = s.size := Array.length_toList
    refine ⟨s.size + 1, (oname_0 _ _ _ _).trans ?_⟩
    have e := oname_loop (ext := fun _ _ _ => none) (m := s.size + 1) (s := s) (by omega) s.data.toList.length 0 (s.size + 1) (l ++ [Dat.int 47]) (by omega) (by omega) (by simp; omega)
    rw [List.drop_zero, show ((0 : Nat) : Int) = 0 from rfl] at e
    rw [fits_le (by omega), cond_true, e, List.append_assoc]
    rfl
  · cases h
end Go.Proofs.YtckdgcpomkefpaaGreatDoor.En
end
section
set_option linter.unusedVariables false
set_option linter.unusedSimpArgs false
set_option maxRecDepth 100000
namespace Go.Proofs.YtckdgcpomkefpaaGreatDoor.En
open Go
def fltV : Value := .iface 85 (.agg #[])
def blkB (c : Int) : Bool := c == 9 || (c == 10 || (c == 12 || (c == 13 || c == 32)))
theorem blank_0 (call : CallF) (m : Nat) (c : Int) : evFn PR TK call m 76 [.v (.int .u8 c)] [none] =
    orK (c == 9) (c == 10) fun t => orK t (c == 12) fun t => orK t (c == 13) fun t => orK t (c == 32) bR1 := by kernel_rfl
def blankE : List AV → Bx → Option (Bool × Out)
  | [.v (.int .u8 c)], [none] => some (true, .ret (B (blkB c)) [none])
  | _, _ => none
theorem blank_eq (c : Int) : (orK (c == 9) (c == 10) fun t => orK t (c == 12) fun t => orK t (c == 13) fun t => orK t (c == 32) bR1) = some (.ret (B (blkB c)) [none]) := by
  simp only [orK_eq]
  unfold blkB
  simp only [Bool.or_assoc]
  rfl
theorem blank_sound {ext : CallF} (hext : SoundCall PR ext) : SoundCall PR (addF 76 blankE ext) := by
  refine sound_add (takes := TK) hmixP hext _ (fn := (PR.funcs[76]?).getD default) (by kernel_rfl) (by kernel_rfl) blankE fun xs bs out h => ?_
  unfold blankE at h
  split at h
  · cases h; exact ⟨0, (blank_0 _ _ _).trans (blank_eq _)⟩
  · cases h
def wantE : List AV → Bx → Option (Bool × Out)
  | [.v (.bool b)], [none] => some (true, .alt b (.ret (.tup []) [none]) (.thr fltV))
  | _, _ => none
theorem want_0 (call : CallF) (m : Nat) (b : Bool) : evFn PR TK call m 77 [B b] [none] = bif !b then some (.thr fltV) else some (.ret (.tup []) [none]) := by kernel_rfl
theorem want_sound {ext : CallF} (hext : SoundCall PR ext) : SoundCall PR (addF 77 wantE ext) := by
  refine sound_addF (takes := TK) hmixP hext _ (fn := (PR.funcs[77]?).getD default) (by kernel_rfl) (by kernel_rfl) wantE fun xs bs out h => ?_
  unfold wantE at h
  split at h
  · rename_i b
    cases h
    cases b
    · exact ⟨0, _, want_0 _ _ _, rfl⟩
    · exact ⟨0, _, want_0 _ _ _, rfl⟩
  · cases h
def hexB (c : Int) : Bool := (decide (48 ≤ c) && decide (c ≤ 57)) || ((decide (65 ≤ c) && decide (c ≤ 70)) || (decide (97 ≤ c) && decide (c ≤ 102)))
def U8 (n : Int) : Int := IntKind.u8.wrap n
def hexV (c : Int) : Int := bif decide (48 ≤ c) && decide (c ≤ 57) then U8 (c - 48) else bif decide (65 ≤ c) && decide (c ≤ 70) then U8 (U8 (c - 65) + 10) else U8 (U8 (c - 97) + 10)
def digitE : List AV → Bx → Option (Bool × Out)
  | [.v (.int .u8 c)], [none] => some (true, .alt (hexB c) (.ret (.v (.int .u8 (hexV c))) [none]) (.thr fltV))
  | _, _ => none
def uR1 (n : Int) : Option Out := some (.ret (.v (.int .u8 n)) [none])
theorem digit_0 (ext : CallF) (m : Nat) (c : Int) : evFn PR TK (addF 77 wantE ext) m 127 [.v (.int .u8 c)] [none] =
    andK (decide (48 ≤ c)) (decide (c ≤ 57)) fun t => bif t then uR1 (U8 (c - 48)) else andK (decide (65 ≤ c)) (decide (c ≤ 70)) fun t => bif t then uR1 (U8 (U8 (c - 65) + 10)) else
      andK (decide (97 ≤ c)) (decide (c ≤ 102)) fun t => bif t then uR1 (U8 (U8 (c - 97) + 10)) else some (.thr fltV) := by kernel_rfl
theorem digit_sound {ext : CallF} (hext : SoundCall PR ext) : SoundCall PR (addF 127 digitE ext) := by
  refine sound_both (sound_addF (takes := TK) hmixP (want_sound sound_none) _ (fn := (PR.funcs[127]?).getD default) (by kernel_rfl) (by kernel_rfl) digitE fun xs bs out h => ?_) hext
  unfold digitE at h
  split at h
  · rename_i c
    cases h
    have e := digit_0 (fun _ _ _ => none) 0 c
    simp only [andK_eq] at e
    unfold hexB hexV
    cases h1 : decide (48 ≤ c) && decide (c ≤ 57) <;> cases h2 : decide (65 ≤ c) && decide (c ≤ 70) <;> cases h3 : decide (97 ≤ c) && decide (c ≤ 102) <;> rw [h1, h2, h3] at e <;> exact ⟨0, _, e, rfl⟩
  · cases h
def preB (s t : ByteArray) : Bool := decide (t.size ≤ s.size) && ((s.extract 0 t.size).toList == t.toList)
def prefE : List AV → Bx → Option (Bool × Out)
  | [.v (.string s), .v (.string t)], [none, none] => some (true, .ret (B (preB s t)) [none, none])
  | _, _ => none
theorem pref_0 (call : CallF) (m : Nat) (s t : ByteArray) : evFn PR TK call m 126 [S s, S t] [none, none] =
    andO (decide ((s.size : Int) ≥ (t.size : Int))) (bif (true && decide ((0 : Int) ≤ (t.size : Int)) && decide ((t.size : Int) ≤ (s.size : Int)) && decide ((0 : Int) ≤ 0) && decide ((0 : Int) ≤ (t.size : Int))) then some ((s.extract (0 : Int).toNat ((t.size : Int)).toNat).toList == t.toList) else none) bR := by kernel_rfl
theorem pref1_0 (ext : CallF) (m : Nat) (s t : ByteArray) : evFn PR TK (addF 126 prefE ext) m 103 [S s, S t] [none, none] = bR (preB s t) := by kernel_rfl
theorem pref0_sound {ext : CallF} (hext : SoundCall PR ext) : SoundCall PR (addF 126 prefE ext) := by
  refine sound_add (takes := TK) hmixP hext _ (fn := (PR.funcs[126]?).getD default) (by kernel_rfl) (by kernel_rfl) prefE fun xs bs out h => ?_
  unfold prefE at h
  split at h
  · rename_i s t
    cases h
    refine ⟨0, (pref_0 _ _ _ _).trans ?_⟩
    unfold preB andO
    by_cases hc : t.size ≤ s.size
    · rw [decide_eq_true (p := (s.size : Int) ≥ (t.size : Int)) (by omega), decide_eq_true hc, decide_eq_true (p := (0 : Int) ≤ (t.size : Int)) (by omega), decide_eq_true (p := (0 : Int) ≤ 0) (by omega)]
      rfl
    · rw [decide_eq_false (p := (s.size : Int) ≥ (t.size : Int)) (by omega), decide_eq_false hc]
      rfl
  · cases h
theorem pref_sound {ext : CallF} (hext : SoundCall PR ext) : SoundCall PR (addF 103 prefE ext) := by
  refine sound_both (sound_add (takes := TK) hmixP (pref0_sound sound_none) _ (fn := (PR.funcs[103]?).getD default) (by kernel_rfl) (by kernel_rfl) prefE fun xs bs out h => ?_) hext
  unfold prefE at h
  split at h
  · cases h; exact ⟨0, pref1_0 _ _ _ _⟩
  · cases h
def rd (s : ByteArray) (a l : Int) : List AV := [S s, I a, I l]
def rdOk (s : ByteArray) (a : Int) : Bool := decide (0 ≤ a) && (decide (a ≤ s.size) && Nat.ble s.size 16777216)
theorem rdOk_eq {s : ByteArray} {a : Int} (h : rdOk s a = true) : 0 ≤ a ∧ a ≤ s.size ∧ s.size ≤ 16777216 := by
  unfold rdOk at h
  simp only [Bool.and_eq_true, decide_eq_true_eq] at h
  exact ⟨h.1, h.2.1, Nat.le_of_ble_eq_true h.2.2⟩
theorem rdOk_of {s : ByteArray} {a : Int} (h0 : 0 ≤ a) (h1 : a ≤ s.size) (h2 : s.size ≤ 16777216) : rdOk s a = true := by
  unfold rdOk
  rw [decide_eq_true h0, decide_eq_true h1, show Nat.ble s.size 16777216 = true from Nat.ble_eq_true_of_le h2]
  rfl
def begB (s : ByteArray) (a : Int) (t : ByteArray) : Bool := preB (s.extract a.toNat s.size) t
noncomputable def begC : CallF := addF 103 prefE fun _ _ _ => none
theorem beg_0 (m : Nat) (s t : ByteArray) (a l : Int) : evFn PR TK begC m 78 [.box 0 0, S t] [some (rd s a l), none] =
    bif (true && decide ((0 : Int) ≤ (s.size : Int)) && decide ((s.size : Int) ≤ (s.size : Int)) && decide (0 ≤ a) && decide (a ≤ (s.size : Int))) then
      (bif !preB (s.extract a.toNat ((s.size : Int)).toNat) t then some (.ret (B false) [some (rd s a l), none]) else some (.ret (B true) [some (rd s (W (a + (t.size : Int))) l), none])) else none := by kernel_rfl
def begE : List AV → Bx → Option (Bool × Out)
  | [.box 0 0, .v (.string t)], [some [.v (.string s), .v (.int .i64 a), .v (.int .i64 l)], none] => some (rdOk s a, .alt (begB s a t) (.ret (B true) [some (rd s (a + (t.size : Int)) l), none]) (.ret (B false) [some (rd s a l), none]))
  | _, _ => none
theorem beg_sound {ext : CallF} (hext : SoundCall PR ext) : SoundCall PR (addF 78 begE ext) := by
  refine sound_both (sound_addF (takes := TK) hmixP (show SoundCall PR begC from pref_sound sound_none) _ (fn := (PR.funcs[78]?).getD default) (by kernel_rfl) (by kernel_rfl) begE fun xs bs out h => ?_) hext
  unfold begE at h
  split at h
  · rename_i t s a l
    injection h with h
    injection h with h1 h2
    subst h2
    obtain ⟨q1, q2, q3⟩ := rdOk_eq h1
    have e := beg_0 0 s t a l
    rw [decide_eq_true (p := (0 : Int) ≤ (s.size : Int)) (by omega), decide_eq_true (p := (s.size : Int) ≤ (s.size : Int)) (by omega), decide_eq_true q1, decide_eq_true q2] at e
    cases hb : begB s a t
    · have hb' : preB (s.extract a.toNat ((s.size : Int)).toNat) t = false := hb
      rw [hb'] at e
      exact ⟨0, _, e, rfl⟩
    · have hb' : preB (s.extract a.toNat ((s.size : Int)).toNat) t = true := hb
      rw [hb'] at e
      have hlt : a + (t.size : Int) ≤ s.size := by
        unfold preB at hb'
        rw [Bool.and_eq_true, decide_eq_true_eq] at hb'
        have := hb'.1
        rw [ByteArray.size_extract] at this
        omega
      have hw : W (a + (t.size : Int)) = a + (t.size : Int) := W_in ⟨by omega, by omega⟩
      rw [hw] at e
      exact ⟨0, _, e, rfl⟩
  · cases h
def nextE : List AV → Bx → Option (Bool × Out)
  | [.box 0 0], [some [.v (.string s), .v (.int .i64 a), .v (.int .i64 l)]] => some (rdOk s a, .alt (decide (a < s.size)) (.ret (.v (.int .u8 (bt s a))) [some (rd s (a + 1) l)]) (.thr fltV))
  | _, _ => none
noncomputable def nextC : CallF := addF 77 wantE fun _ _ _ => none
theorem next_0 (m : Nat) (s : ByteArray) (a l : Int) : evFn PR TK nextC m 105 [.box 0 0] [some (rd s a l)] =
    bif decide (a < (s.size : Int)) then (bif (true && decide (0 ≤ W (W (a + 1) - 1)) && decide (W (W (a + 1) - 1) < (s.size : Int))) then some (.ret (.v (.int .u8 (bt s (W (W (a + 1) - 1))))) [some (rd s (W (a + 1)) l)]) else none) else some (.thr fltV) := by kernel_rfl
theorem next_sound {ext : CallF} (hext : SoundCall PR ext) : SoundCall PR (addF 105 nextE ext) := by
  refine sound_both (sound_addF (takes := TK) hmixP (show SoundCall PR nextC from want_sound sound_none) _ (fn := (PR.funcs[105]?).getD default) (by kernel_rfl) (by kernel_rfl) nextE fun xs bs out h => ?_) hext
  unfold nextE at h
  split at h
  · rename_i s a l
    injection h with h
    injection h with h1 h2
    subst h2
    obtain ⟨q1, q2, q3⟩ := rdOk_eq h1
    have e := next_0 0 s a l
    have w1 : W (a + 1) = a + 1 := W_in ⟨by omega, by omega⟩
    have w2 : W (a + 1 - 1) = a := by rw [show a + 1 - 1 = a by omega]; exact W_in ⟨by omega, by omega⟩
    rw [w1, w2, decide_eq_true q1] at e
    cases hd : decide (a < (s.size : Int)) <;> rw [hd] at e <;> exact ⟨0, _, e, rfl⟩
  · cases h
end Go.Proofs.YtckdgcpomkefpaaGreatDoor.En
end
section
set_option linter.unusedVariables false
set_option linter.unusedSimpArgs false
set_option maxRecDepth 100000
namespace Go.Proofs.YtckdgcpomkefpaaGreatDoor.En
open Go
def skp (f : Int → Bool) (s : ByteArray) : Nat → Int → Int
  | 0, a => a
  | k + 1, a => bif decide (a < s.size) && f (bt s a) then skp f s k (a + 1) else a
def skA (f : Int → Bool) (s : ByteArray) (a : Int) : Int := skp f s ((s.size : Int) - a).toNat a
theorem skA_eq (f : Int → Bool) (s : ByteArray) (a : Int) : skA f s a = bif decide (a < s.size) && f (bt s a) then skA f s (a + 1) else a := by
  unfold skA
  by_cases h : a < s.size
  · obtain ⟨k, hk⟩ : ∃ k, ((s.size : Int) - a).toNat = k + 1 := ⟨((s.size : Int) - a).toNat - 1, by omega⟩
    have hk2 : ((s.size : Int) - (a + 1)).toNat = k := by omega
    rw [hk, hk2]
    rfl
  · rw [decide_eq_false h, show ((s.size : Int) - a).toNat = 0 by omega]
    rfl
theorem skp_ge (f : Int → Bool) (s : ByteArray) : ∀ (k : Nat) (a : Int), a ≤ skp f s k a
  | 0, a => Int.le_refl _
  | k + 1, a => by
    unfold skp
    cases decide (a < s.size) && f (bt s a)
    · exact Int.le_refl _
    · have := skp_ge f s k (a + 1)
      show a ≤ skp f s k (a + 1)
      omega
theorem skp_le (f : Int → Bool) (s : ByteArray) : ∀ (k : Nat) (a : Int), a ≤ s.size → skp f s k a ≤ s.size
  | 0, a, h => h
  | k + 1, a, h => by
    unfold skp
    cases hc : decide (a < s.size) && f (bt s a)
    · exact h
    · rw [Bool.and_eq_true, decide_eq_true_eq] at hc
      exact skp_le f s k (a + 1) (by omega)
theorem skA_ge (f : Int → Bool) (s : ByteArray) (a : Int) : a ≤ skA f s a := skp_ge _ _ _ _
theorem skA_le (f : Int → Bool) (s : ByteArray) (a : Int) (h : a ≤ s.size) : skA f s a ≤ s.size := skp_le _ _ _ _ h
def blA (s : ByteArray) (a : Int) : Int := skA blkB s a
def wordB (c : Int) : Bool := !blkB c && !delB c
def wdA (s : ByteArray) (a : Int) : Int := skA wordB s a
def sub' (s : ByteArray) (a b : Int) : ByteArray := s.extract a.toNat b.toNat
theorem okI_of {s : ByteArray} {a : Int} (h0 : 0 ≤ a) (h : a < s.size) : okI s a = true := by
  unfold okI
  rw [decide_eq_true h0, decide_eq_true h]
  rfl
noncomputable def blC : CallF := addF 76 blankE fun _ _ _ => none
noncomputable def blL (m r : Nat) (s : ByteArray) (a l from_ : Int) := loopF PR TK blC m 50 [some (rd s a l)] [true, true, false] r (sp 43 [(0, .box 0 0), (3, I from_)] [(0, rd s a l)])
def bRd (x : Bool) (s : ByteArray) (a l : Int) : Option Out := some (.ret (B x) [some (rd s a l)])
theorem bls_0 (m : Nat) (s : ByteArray) (a l : Int) : evFn PR TK blC m 50 [.box 0 0] [some (rd s a l)] = blL m m s a l a := by kernel_rfl
theorem bls_1 (m r : Nat) (s : ByteArray) (a l f : Int) : blL m (r + 1) s a l f =
  andO (decide (a < s.size)) (bif okI s a then some (blkB (bt s a)) else none) fun t => bif t then blL m r s (W (a + 1)) l f else bRd (decide (a > f)) s a l := by kernel_rfl
theorem bls_run (m : Nat) (s : ByteArray) (l f : Int) (hs : s.size ≤ 16777216) : ∀ (k r : Nat) (a : Int), 0 ≤ a → a ≤ s.size → ((s.size : Int) - a).toNat = k → k < r → blL m r s a l f = bRd (decide (blA s a > f)) s (blA s a) l
  | k, 0, a, _, _, _, h => by omega
  | k, r + 1, a, h0, h1, hk, hr => by
    rw [bls_1]
    unfold blA
    rw [skA_eq]
    by_cases h : a < s.size
    · rw [decide_eq_true h, okI_of h0 h, cond_true, andO_eq, Bool.true_and]
      cases hb : blkB (bt s a)
      · rfl
      · rw [cond_true, cond_true, W_in ⟨by omega, by omega⟩]
        exact bls_run m s l f hs (k - 1) r (a + 1) (by omega) (by omega) (by omega) (by omega)
    · rw [decide_eq_false h]
      rfl
def blsE : List AV → Bx → Option (Bool × Out)
  | [.box 0 0], [some [.v (.string s), .v (.int .i64 a), .v (.int .i64 l)]] => some (rdOk s a, .ret (B (decide (blA s a > a))) [some (rd s (blA s a) l)])
  | _, _ => none
theorem bls_sound {ext : CallF} (hext : SoundCall PR ext) : SoundCall PR (addF 50 blsE ext) := by
  refine sound_both (sound_add (takes := TK) hmixP (show SoundCall PR blC from blank_sound sound_none) _ (fn := (PR.funcs[50]?).getD default) (by kernel_rfl) (by kernel_rfl) blsE fun xs bs out h => ?_) hext
  unfold blsE at h
  split at h
  · rename_i s a l
    injection h with h
    injection h with h1 h2
    subst h2
    obtain ⟨q1, q2, q3⟩ := rdOk_eq h1
    exact ⟨s.size + 1, (bls_0 _ _ _ _).trans (bls_run _ s l a q3 _ _ a q1 q2 rfl (by omega))⟩
  · cases h
noncomputable def wdC : CallF := addF 107 delE blC
noncomputable def wdL (m r : Nat) (s : ByteArray) (a l from_ : Int) := loopF PR TK wdC m 85 [some (rd s a l)] [true, true, false] r (sp 61 [(0, .box 0 0), (3, I from_)] [(0, rd s a l)])
def slOk (s : ByteArray) (f a : Int) : Bool := (((true && decide (0 ≤ a)) && decide (a ≤ (s.size : Int))) && decide (0 ≤ f)) && decide (f ≤ a)
theorem slOk_of {s : ByteArray} {f a : Int} (h0 : 0 ≤ f) (h1 : f ≤ a) (h2 : a ≤ s.size) : slOk s f a = true := by
  unfold slOk
  rw [decide_eq_true h0, decide_eq_true h1, decide_eq_true h2, decide_eq_true (p := 0 ≤ a) (by omega)]
  rfl
theorem wd_0 (m : Nat) (s : ByteArray) (a l : Int) : evFn PR TK wdC m 85 [.box 0 0] [some (rd s a l)] = wdL m m s a l a := by kernel_rfl
theorem wd_1 (m r : Nat) (s : ByteArray) (a l f : Int) : wdL m (r + 1) s a l f =
  andO (decide (a < s.size)) (bif okI s a then some (!blkB (bt s a)) else none) fun t => andO t (bif okI s a then some (!delB (bt s a)) else none) fun t =>
    bif t then wdL m r s (W (a + 1)) l f else bif slOk s f a then some (.ret (S (sub' s f a)) [some (rd s a l)]) else none := by kernel_rfl
theorem wd_run (m : Nat) (s : ByteArray) (l f : Int) (hs : s.size ≤ 16777216) (hf : 0 ≤ f) : ∀ (k r : Nat) (a : Int), f ≤ a → a ≤ s.size → ((s.size : Int) - a).toNat = k → k < r → wdL m r s a l f = some (.ret (S (sub' s f (wdA s a))) [some (rd s (wdA s a) l)])
  | k, 0, a, _, _, _, h => by omega
  | k, r + 1, a, h0, h1, hk, hr => by
    rw [wd_1]
    unfold wdA
    rw [skA_eq]
    by_cases h : a < s.size
    · rw [decide_eq_true h, okI_of (by omega) h, cond_true, cond_true, andO_eq, andO_eq, Bool.true_and, Bool.true_and]
      show (bif wordB (bt s a) then _ else _) = _
      cases hb : wordB (bt s a)
      · rw [cond_false, cond_false, slOk_of hf h0 h1]
        rfl
      · rw [cond_true, cond_true, W_in ⟨by omega, by omega⟩]
        exact wd_run m s l f hs hf (k - 1) r (a + 1) (by omega) (by omega) (by omega) (by omega)
    · rw [decide_eq_false h]
      show (bif slOk s f a then _ else _) = _
      rw [slOk_of hf h0 h1]
      rfl
def wdE : List AV → Bx → Option (Bool × Out)
  | [.box 0 0], [some [.v (.string s), .v (.int .i64 a), .v (.int .i64 l)]] => some (rdOk s a, .ret (S (sub' s a (wdA s a))) [some (rd s (wdA s a) l)])
  | _, _ => none
theorem wd_sound {ext : CallF} (hext : SoundCall PR ext) : SoundCall PR (addF 85 wdE ext) := by
  refine sound_both (sound_add (takes := TK) hmixP (show SoundCall PR wdC from del_sound (blank_sound sound_none)) _ (fn := (PR.funcs[85]?).getD default) (by kernel_rfl) (by kernel_rfl) wdE fun xs bs out h => ?_) hext
  unfold wdE at h
  split at h
  · rename_i s a l
    injection h with h
    injection h with h1 h2
    subst h2
    obtain ⟨q1, q2, q3⟩ := rdOk_eq h1
    exact ⟨s.size + 1, (wd_0 _ _ _ _).trans (wd_run _ s l a q3 q1 _ _ a (Int.le_refl _) q2 rfl (by omega))⟩
  · cases h
end Go.Proofs.YtckdgcpomkefpaaGreatDoor.En
end
section
set_option linter.unusedVariables false
set_option linter.unusedSimpArgs false
set_option maxRecDepth 100000
namespace Go.Proofs.YtckdgcpomkefpaaGreatDoor.En
open Go
def pairB (s : ByteArray) (a : Int) : Bool := decide (a + 1 < s.size) && (hexB (bt s a) && hexB (bt s (a + 1)))
def pairV (s : ByteArray) (a : Int) : Int := U8 (BitVec.ofInt IntKind.u8.bits (U8 (hexV (bt s a) * 2 ^ (min (4 : Int).toNat IntKind.u8.bits))) ||| BitVec.ofInt IntKind.u8.bits (hexV (bt s (a + 1)))).toNat
def thrR : Option Out := some (.thr fltV)
noncomputable def prC0 : CallF := addF 105 nextE (addF 127 digitE fun _ _ _ => none)
theorem pair_0 (m : Nat) (s : ByteArray) (a l : Int) : evFn PR TK prC0 m 104 [.box 0 0] [some (rd s a l)] =
    bif rdOk s a then (bif decide (a < (s.size : Int)) then (bif hexB (bt s a) then (bif rdOk s (a + 1) then (bif decide (a + 1 < (s.size : Int)) then (bif hexB (bt s (a + 1)) then
      some (.ret (.v (.int .u8 (pairV s a))) [some (rd s (a + 1 + 1) l)]) else thrR) else thrR) else none) else thrR) else thrR) else none := by kernel_rfl
def pairE : List AV → Bx → Option (Bool × Out)
  | [.box 0 0], [some [.v (.string s), .v (.int .i64 a), .v (.int .i64 l)]] => some (rdOk s a, .alt (pairB s a) (.ret (.v (.int .u8 (pairV s a))) [some (rd s (a + 2) l)]) (.thr fltV))
  | _, _ => none
theorem pair_sound {ext : CallF} (hext : SoundCall PR ext) : SoundCall PR (addF 104 pairE ext) := by
  refine sound_both (sound_addF (takes := TK) hmixP (show SoundCall PR prC0 from next_sound (digit_sound sound_none)) _ (fn := (PR.funcs[104]?).getD default) (by kernel_rfl) (by kernel_rfl) pairE fun xs bs out h => ?_) hext
  unfold pairE at h
  split at h
  · rename_i s a l
    injection h with h
    injection h with h1 h2
    subst h2
    obtain ⟨q1, q2, q3⟩ := rdOk_eq h1
    have e := pair_0 0 s a l
    rw [h1, cond_true] at e
    unfold pairB
    by_cases c1 : a < s.size
    · rw [decide_eq_true c1, cond_true, rdOk_of (by omega) (by omega) q3, cond_true] at e
      rw [show a + 1 + 1 = a + 2 by omega] at e
      cases c2 : hexB (bt s a) <;> rw [c2] at e
      · exact ⟨0, _, e, by simp [Out.flat]⟩
      · cases c3 : decide (a + 1 < (s.size : Int)) <;> rw [c3] at e
        · exact ⟨0, _, e, rfl⟩
        · cases c4 : hexB (bt s (a + 1)) <;> rw [c4] at e <;> exact ⟨0, _, e, rfl⟩
    · rw [decide_eq_false c1] at e
      rw [decide_eq_false (by omega)]
      exact ⟨0, _, e, rfl⟩
  · cases h
def nmP (s : ByteArray) : Nat → Int → List Dat → Option (List Dat × Int)
  | 0, _, _ => none
  | k + 1, a, acc => bif decide (a < s.size) && wordB (bt s a) then
      (bif bt s a == 35 then (bif pairB s (a + 1) then nmP s k (a + 3) (acc ++ [.int (pairV s (a + 1))]) else none)
      else bif plainB (bt s a) then nmP s k (a + 1) (acc ++ [.int (bt s a)]) else none) else some (acc, a)
def nmA (s : ByteArray) (a : Int) : Option (List Dat × Int) := nmP s (((s.size : Int) - a).toNat + 1) a []
def getP (o : Option (List Dat × Int)) : List Dat × Int := o.getD ([], 0)
def altP (o : Option (List Dat × Int)) (s : ByteArray) (l : Int) : Out := .alt o.isSome (.ret (S (bytesOf (getP o).1)) [some (rd s (getP o).2 l)]) (.thr fltV)
noncomputable def nmC0 : CallF := addF 104 pairE (addF 105 nextE (addF 100 plainE (addF 77 wantE wdC)))
noncomputable def nmL (m r : Nat) (s : ByteArray) (a l : Int) (acc : List Dat) := loopF PR TK nmC0 m 82 [some (rd s a l)] [true, true, false] r (sp 56 [(0, .box 0 0), (3, .row (some 3) 5 acc)] [(0, rd s a l)])
theorem nm_0 (m : Nat) (s : ByteArray) (a l : Int) : evFn PR TK nmC0 m 82 [.box 0 0] [some (rd s a l)] = nmL m m s a l [] := by kernel_rfl
theorem nm_1 (m r : Nat) (s : ByteArray) (a l : Int) (acc : List Dat) : nmL m (r + 1) s a l acc =
  andO (decide (a < s.size)) (bif okI s a then some (!blkB (bt s a)) else none) fun t => andO t (bif okI s a then some (!delB (bt s a)) else none) fun t =>
    bif t then (bif rdOk s a then (bif decide (a < (s.size : Int)) then (bif bt s a == 35 then
        (bif rdOk s (a + 1) then (bif pairB s (a + 1) then (bif Nat.ble (acc.length + 1) fitsN then nmL m r s (a + 1 + 2) l (acc ++ [Dat.int (pairV s (a + 1))]) else none) else thrR) else none) else
        bif plainB (bt s a) then (bif Nat.ble (acc.length + 1) fitsN then nmL m r s (a + 1) l (acc ++ [Dat.int (bt s a)]) else none) else thrR) else thrR) else none)
    else some (.ret (S (bytesOf acc)) [some (rd s a l)]) := by kernel_rfl
def outP (o : Option (List Dat × Int)) (s : ByteArray) (l : Int) : Option Out := match o with | some (acc, a) => some (.ret (S (bytesOf acc)) [some (rd s a l)]) | none => thrR
theorem outP_flat (o : Option (List Dat × Int)) (s : ByteArray) (l : Int) : ∃ x, outP o s l = some x ∧ x.flat = (altP o s l).flat := by
  cases o with
  | none => exact ⟨_, rfl, rfl⟩
  | some p => obtain ⟨acc, a⟩ := p; exact ⟨_, rfl, rfl⟩
theorem fits_of {n : Nat} (h : n ≤ 40000000) : Nat.ble n fitsN = true := Nat.ble_eq_true_of_le (Nat.le_trans h (by unfold fitsN; decide))
theorem nm_run (m : Nat) (s : ByteArray) (l : Int) (hs : s.size ≤ 16777216) : ∀ (k r : Nat) (a : Int) (acc : List Dat), 0 ≤ a → a ≤ s.size → ((s.size : Int) - a).toNat < k → k ≤ r → (acc.length : Int) ≤ a → nmL m r s a l acc = outP (nmP s k a acc) s l
  | 0, r, a, acc, _, _, h, _, _ => by omega
  | k + 1, 0, a, acc, _, _, _, h, _ => by omega
  | k + 1, r + 1, a, acc, h0, h1, hk, hr, hl => by
    rw [nm_1]
    unfold nmP
    by_cases h : a < s.size
    · rw [decide_eq_true h, okI_of (by omega) h, cond_true, cond_true, andO_eq, andO_eq, Bool.true_and, Bool.true_and]
      show (bif wordB (bt s a) then _ else _) = outP (bif wordB (bt s a) then _ else _) s l
      cases hb : wordB (bt s a)
      · rfl
      · rw [cond_true, cond_true, rdOk_of h0 h1 hs, rdOk_of (by omega) (by omega) hs, fits_of (by omega)]
        simp only [cond_true]
        cases hc : bt s a == 35
        · rw [cond_false, cond_false]
          cases hp : plainB (bt s a)
          · rfl
          · exact nm_run m s l hs k r (a + 1) _ (by omega) (by omega) (by omega) (by omega) (by simp; omega)
        · rw [cond_true, cond_true]
          cases hp : pairB s (a + 1)
          · rfl
          · have hp' := hp
            unfold pairB at hp'
            rw [Bool.and_eq_true, decide_eq_true_eq] at hp'
            have h3 := hp'.1
            rw [cond_true, cond_true, show a + 1 + 2 = a + 3 by omega]
            exact nm_run m s l hs k r (a + 3) _ (by omega) (by omega) (by omega) (by omega) (by simp; omega)
    · rw [decide_eq_false h]
      rfl
def nmE : List AV → Bx → Option (Bool × Out)
  | [.box 0 0], [some [.v (.string s), .v (.int .i64 a), .v (.int .i64 l)]] => some (rdOk s a, altP (nmA s a) s l)
  | _, _ => none
theorem nm_sound {ext : CallF} (hext : SoundCall PR ext) : SoundCall PR (addF 82 nmE ext) := by
  refine sound_both (sound_addF (takes := TK) hmixP (show SoundCall PR nmC0 from pair_sound (next_sound (plain_sound (want_sound (del_sound (blank_sound sound_none)))))) _ (fn := (PR.funcs[82]?).getD default) (by kernel_rfl) (by kernel_rfl) nmE fun xs bs out h => ?_) hext
  unfold nmE at h
  split at h
  · rename_i s a l
    injection h with h
    injection h with h1 h2
    subst h2
    obtain ⟨q1, q2, q3⟩ := rdOk_eq h1
    obtain ⟨x, e1, e2⟩ := outP_flat (nmA s a) s l
    exact ⟨s.size + 1, x, ((nm_0 _ _ _ _).trans (nm_run _ s l q3 _ _ a [] q1 q2 (by omega) (by omega) (by simpa using q1))).trans e1, e2⟩
  · cases h
def isB (s : ByteArray) (a c : Int) : Bool := decide (a < s.size) && (bt s a == c)
theorem ext_get (s : ByteArray) (i j k : Nat) (h1 : j ≤ s.size) (h2 : i + k < j) : (s.extract i j).data.toList[k]? = some (s.data.getD (i + k) 0) := by
  have hlt : i + k < s.data.size := by have : s.data.size = s.size := rfl; omega
  rw [ByteArray.data_extract, Array.toList_extract]
  simp only [List.extract]
  rw [List.getElem?_take, if_pos (by omega), List.getElem?_drop, Array.getElem?_toList, Array.getElem?_eq_getElem hlt]
  unfold Array.getD
  rw [dif_pos hlt]
  rfl
theorem preB_one (x : ByteArray) (c : UInt8) : preB x ⟨#[c]⟩ = match x.data.toList[0]? with | some d => d == c | none => false := by
  obtain ⟨⟨l⟩⟩ := x
  unfold preB
  rw [Lib.toList_data, Lib.toList_data, ByteArray.data_extract, Array.toList_extract]
  cases l with
  | nil => rfl
  | cons d l =>
    simp [List.extract, ByteArray.size]
theorem preB_two (x : ByteArray) (c e : UInt8) : preB x ⟨#[c, e]⟩ = match x.data.toList[0]?, x.data.toList[1]? with | some d, some f => d == c && f == e | _, _ => false := by
  obtain ⟨⟨l⟩⟩ := x
  unfold preB
  rw [Lib.toList_data, Lib.toList_data, ByteArray.data_extract, Array.toList_extract]
  match l with
  | [] => rfl
  | [d] => rfl
  | d :: f :: l =>
    simp [List.extract, ByteArray.size]
theorem u8_eq (d c : UInt8) : (d == c) = (((d.toNat : Nat) : Int) == ((c.toNat : Nat) : Int)) := by
  rw [Bool.eq_iff_iff, beq_iff_eq, beq_iff_eq]
  constructor
  · intro h; rw [h]
  · intro h; exact UInt8.toNat_inj.1 (by omega)
theorem beg_one (s : ByteArray) (a : Int) (c : UInt8) (h0 : 0 ≤ a) : begB s a ⟨#[c]⟩ = isB s a (c.toNat : Int) := by
  unfold begB isB
  rw [preB_one]
  by_cases h : a < s.size
  · rw [ext_get s a.toNat s.size 0 (Nat.le_refl _) (by omega), decide_eq_true h, Bool.true_and]
    show (s.data.getD (a.toNat + 0) 0 == c) = (bt s a == _)
    rw [u8_eq]
    rfl
  · have : (s.extract a.toNat s.size).data.toList = [] := by
      rw [← List.length_eq_zero_iff, Array.length_toList]
      have h2 : (s.extract a.toNat s.size).size = min s.size s.size - a.toNat := by rw [ByteArray.size_extract]
      have h3 : (s.extract a.toNat s.size).data.size = (s.extract a.toNat s.size).size := rfl
      omega
    rw [this, decide_eq_false h]
    rfl
theorem beg_two (s : ByteArray) (a : Int) (c e : UInt8) (h0 : 0 ≤ a) : begB s a ⟨#[c, e]⟩ = (isB s a (c.toNat : Int) && isB s (a + 1) (e.toNat : Int)) := by
  unfold begB isB
  rw [preB_two]
  by_cases h : a + 1 < s.size
  · rw [ext_get s a.toNat s.size 0 (Nat.le_refl _) (by omega), ext_get s a.toNat s.size 1 (Nat.le_refl _) (by omega), decide_eq_true h, decide_eq_true (p := a < (s.size : Int)) (by omega), Bool.true_and, Bool.true_and]
    show (s.data.getD (a.toNat + 0) 0 == c && s.data.getD (a.toNat + 1) 0 == e) = (bt s a == _ && bt s (a + 1) == _)
    rw [u8_eq, u8_eq, show a.toNat + 1 = (a + 1).toNat by omega]
    rfl
  · have h2 : (s.extract a.toNat s.size).size = min s.size s.size - a.toNat := by rw [ByteArray.size_extract]
    have h3 : (s.extract a.toNat s.size).data.size = (s.extract a.toNat s.size).size := rfl
    have : (s.extract a.toNat s.size).data.toList[1]? = none := by
      rw [List.getElem?_eq_none_iff, Array.length_toList]
      omega
    rw [this, decide_eq_false h, Bool.false_and, Bool.and_false]
    split
    · rename_i q; cases q
    · rfl
def hxP (s : ByteArray) : Nat → Int → List Dat → Option (List Dat × Int)
  | 0, _, _ => none
  | k + 1, a, acc => bif isB s a 62 then some (acc, a + 1) else bif pairB s a then hxP s k (a + 2) (acc ++ [.int (pairV s a)]) else none
def hxA (s : ByteArray) (a : Int) : Option (List Dat × Int) := hxP s (((s.size : Int) - a).toNat + 1) a []
noncomputable def hxC : CallF := addF 78 begE (addF 104 pairE fun _ _ _ => none)
noncomputable def hxL (m r : Nat) (s : ByteArray) (a l : Int) (acc : List Dat) := loopF PR TK hxC m 80 [some (rd s a l)] [true, true, false] r (sp 14 [(0, .box 0 0), (3, .row (some 3) 5 acc)] [(0, rd s a l)])
theorem hx_0 (m : Nat) (s : ByteArray) (a l : Int) : evFn PR TK hxC m 80 [.box 0 0] [some (rd s a l)] = hxL m m s a l [] := by kernel_rfl
theorem hx_1 (m r : Nat) (s : ByteArray) (a l : Int) (acc : List Dat) : hxL m (r + 1) s a l acc =
  bif rdOk s a then (bif begB s a ⟨#[62]⟩ then some (.ret (S (bytesOf acc)) [some (rd s (a + ((⟨#[62]⟩ : ByteArray).size : Int)) l)]) else
    (bif rdOk s a then (bif pairB s a then (bif Nat.ble (acc.length + 1) fitsN then hxL m r s (a + 2) l (acc ++ [Dat.int (pairV s a)]) else none) else thrR) else none)) else none := by kernel_rfl
theorem hx_run (m : Nat) (s : ByteArray) (l : Int) (hs : s.size ≤ 16777216) : ∀ (k r : Nat) (a : Int) (acc : List Dat), 0 ≤ a → a ≤ s.size → ((s.size : Int) - a).toNat < k → k ≤ r → (acc.length : Int) ≤ a → hxL m r s a l acc = outP (hxP s k a acc) s l
  | 0, r, a, acc, _, _, h, _, _ => by omega
  | k + 1, 0, a, acc, _, _, _, h, _ => by omega
  | k + 1, r + 1, a, acc, h0, h1, hk, hr, hl => by
    rw [hx_1, rdOk_of h0 h1 hs, cond_true, cond_true, beg_one s a 62 h0, fits_of (by omega)]
    unfold hxP
    show (bif isB s a 62 then _ else _) = _
    cases hb : isB s a 62
    · rw [cond_false, cond_false]
      cases hp : pairB s a
      · rfl
      · have hp' := hp
        unfold pairB at hp'
        rw [Bool.and_eq_true, decide_eq_true_eq] at hp'
        have h3 := hp'.1
        simp only [cond_true]
        exact hx_run m s l hs k r (a + 2) _ (by omega) (by omega) (by omega) (by omega) (by simp; omega)
    · rfl
def hxE : List AV → Bx → Option (Bool × Out)
  | [.box 0 0], [some [.v (.string s), .v (.int .i64 a), .v (.int .i64 l)]] => some (rdOk s a, altP (hxA s a) s l)
  | _, _ => none
theorem hx_sound {ext : CallF} (hext : SoundCall PR ext) : SoundCall PR (addF 80 hxE ext) := by
  refine sound_both (sound_addF (takes := TK) hmixP (show SoundCall PR hxC from beg_sound (pair_sound sound_none)) _ (fn := (PR.funcs[80]?).getD default) (by kernel_rfl) (by kernel_rfl) hxE fun xs bs out h => ?_) hext
  unfold hxE at h
  split at h
  · rename_i s a l
    injection h with h
    injection h with h1 h2
    subst h2
    obtain ⟨q1, q2, q3⟩ := rdOk_eq h1
    obtain ⟨x, e1, e2⟩ := outP_flat (hxA s a) s l
    exact ⟨s.size + 1, x, ((hx_0 _ _ _ _).trans (hx_run _ s l q3 _ _ a [] q1 q2 (by omega) (by omega) (by simpa using q1))).trans e1, e2⟩
  · cases h
end Go.Proofs.YtckdgcpomkefpaaGreatDoor.En
end
section
set_option linter.unusedVariables false
set_option linter.unusedSimpArgs false
set_option maxRecDepth 100000
namespace Go.Proofs.YtckdgcpomkefpaaGreatDoor.En
open Go
theorem bt_byte (s : ByteArray) (a : Int) : ∃ n : Nat, n < 256 ∧ bt s a = (n : Int) := ⟨(s.data.getD a.toNat 0).toNat, UInt8.toNat_lt _, rfl⟩
end Go.Proofs.YtckdgcpomkefpaaGreatDoor.En
end
section
set_option linter.unusedVariables false
set_option linter.unusedSimpArgs false
set_option maxRecDepth 100000
namespace Go.Proofs.YtckdgcpomkefpaaGreatDoor.En
open Go
def escFrom : ByteArray := ⟨#[110, 114, 116, 98, 102, 40, 41, 92]⟩
def escTo : ByteArray := ⟨#[10, 13, 9, 8, 12, 40, 41, 92]⟩
def escIx (c : Int) : Int := Lib.indexByte escFrom.data.toList c.toNat.toUInt8
def eB (c : Int) : Bool := c == 110 || (c == 114 || (c == 116 || (c == 98 || (c == 102 || (c == 40 || (c == 41 || c == 92))))))
def eV (c : Int) : Int := bif c == 110 then 10 else bif c == 114 then 13 else bif c == 116 then 9 else bif c == 98 then 8 else bif c == 102 then 12 else c
def escTb (n : Nat) : Bool := (decide (escIx n ≥ 0) == eB n) && (!eB n || (okI escTo (escIx n) && decide (bt escTo (escIx n) = eV n)))
theorem esc_tb : ∀ n : Fin 256, escTb n.val = true := by decide +kernel
theorem esc_ix (s : ByteArray) (a : Int) : decide (escIx (bt s a) ≥ 0) = eB (bt s a) ∧ (eB (bt s a) = true → okI escTo (escIx (bt s a)) = true ∧ bt escTo (escIx (bt s a)) = eV (bt s a)) := by
  obtain ⟨n, hn, e⟩ := bt_byte s a
  have h := esc_tb ⟨n, hn⟩
  unfold escTb at h
  rw [e]
  rw [Bool.and_eq_true, beq_iff_eq] at h
  refine ⟨h.1, fun hb => ?_⟩
  have h2 := h.2
  dsimp only at h2
  rw [hb, Bool.not_true, Bool.false_or, Bool.and_eq_true, decide_eq_true_eq] at h2
  exact h2
def oc (c : Int) : Bool := decide (48 ≤ c) && decide (c ≤ 55)
def octB (s : ByteArray) (a : Int) : Bool := decide (a + 2 < s.size) && (oc (bt s a) && (oc (bt s (a + 1)) && oc (bt s (a + 2))))
def ocV (c : Int) : Int := W (U8 (c - 48))
def octN (s : ByteArray) (a : Int) : Int := W (W (8 * W (W (8 * W (W (8 * 0) + ocV (bt s a))) + ocV (bt s (a + 1)))) + ocV (bt s (a + 2)))
def escOk (s : ByteArray) (a : Int) : Bool := decide (a < s.size) && (eB (bt s a) || (octB s a && decide (octN s a < 256)))
def escV (s : ByteArray) (a : Int) : Int := bif eB (bt s a) then eV (bt s a) else U8 (octN s a)
def esP (s : ByteArray) (a : Int) : Int := bif eB (bt s a) then a + 1 else a + 3
noncomputable def esC : CallF := addF 105 nextE (addF 95 ixE (addF 77 wantE fun _ _ _ => none))
def uRd (x : Int) (s : ByteArray) (a l : Int) : Option Out := some (.ret (.v (.int .u8 x)) [some (rd s a l)])
theorem es_0 (s : ByteArray) (a l : Int) : evFn PR TK esC 5 106 [.box 0 0] [some (rd s a l)] =
    bif rdOk s a then (bif decide (a < (s.size : Int)) then (bif decide (escIx (bt s a) ≥ 0) then (bif okI escTo (escIx (bt s a)) then uRd (bt escTo (escIx (bt s a))) s (a + 1) l else none) else
      andK (decide (48 ≤ bt s a)) (decide (bt s a ≤ 55)) fun t => bif t then (bif rdOk s (a + 1) then (bif decide (a + 1 < (s.size : Int)) then
        andK (decide (48 ≤ bt s (a + 1))) (decide (bt s (a + 1) ≤ 55)) fun t => bif t then (bif rdOk s (a + 1 + 1) then (bif decide (a + 1 + 1 < (s.size : Int)) then
          andK (decide (48 ≤ bt s (a + 1 + 1))) (decide (bt s (a + 1 + 1) ≤ 55)) fun t => bif t then
            (bif decide (W (W (8 * W (W (8 * W (W (8 * 0) + ocV (bt s a))) + ocV (bt s (a + 1)))) + ocV (bt s (a + 1 + 1))) < 256) then
              uRd (U8 (W (W (8 * W (W (8 * W (W (8 * 0) + ocV (bt s a))) + ocV (bt s (a + 1)))) + ocV (bt s (a + 1 + 1))))) s (a + 1 + 1 + 1) l else thrR) else thrR
          else thrR) else none) else thrR
        else thrR) else none) else thrR)
      else thrR) else none := by kernel_rfl
def esE : List AV → Bx → Option (Bool × Out)
  | [.box 0 0], [some [.v (.string s), .v (.int .i64 a), .v (.int .i64 l)]] => some (rdOk s a, .alt (escOk s a) (.ret (.v (.int .u8 (escV s a))) [some (rd s (esP s a) l)]) (.thr fltV))
  | _, _ => none
theorem es_eq (s : ByteArray) (a l : Int) (h : rdOk s a = true) : evFn PR TK esC 5 106 [.box 0 0] [some (rd s a l)] = bif escOk s a then uRd (escV s a) s (esP s a) l else thrR := by
  obtain ⟨q1, q2, q3⟩ := rdOk_eq h
  rw [es_0, h, cond_true]
  unfold escOk escV esP
  by_cases c1 : a < s.size
  · rw [decide_eq_true c1, cond_true, Bool.true_and, rdOk_of (by omega) (by omega) q3, cond_true, (esc_ix s a).1]
    cases hb : eB (bt s a)
    · rw [cond_false, andK_eq, Bool.false_or, cond_false, cond_false]
      show (bif oc (bt s a) then _ else _) = _
      unfold octB octN
      rw [show a + 1 + 1 = a + 2 by omega, show a + 2 + 1 = a + 3 by omega]
      cases x1 : oc (bt s a)
      · rw [Bool.false_and, Bool.and_false, Bool.false_and]
        rfl
      · rw [cond_true, Bool.true_and, andK_eq]
        by_cases c2 : a + 1 < s.size
        · rw [decide_eq_true c2, cond_true]
          show (bif oc (bt s (a + 1)) then _ else _) = _
          rw [rdOk_of (a := a + 2) (by omega) (by omega) q3, andK_eq]
          cases x2 : oc (bt s (a + 1))
          · rw [Bool.false_and, Bool.and_false, Bool.false_and]
            rfl
          · rw [cond_true, cond_true, Bool.true_and]
            by_cases c3 : a + 2 < s.size
            · rw [decide_eq_true c3, cond_true, Bool.true_and]
              show (bif oc (bt s (a + 2)) then _ else _) = _
              cases x3 : oc (bt s (a + 2))
              · rfl
              · rfl
            · rw [decide_eq_false c3]
              rfl
        · rw [decide_eq_false c2, decide_eq_false (p := a + 2 < (s.size : Int)) (by omega)]
          rfl
    · obtain ⟨e1, e2⟩ := (esc_ix s a).2 hb
      rw [cond_true, e1, e2]
      rfl
  · rw [decide_eq_false c1]
    rfl
theorem es_sound {ext : CallF} (hext : SoundCall PR ext) : SoundCall PR (addF 106 esE ext) := by
  refine sound_both (sound_addF (takes := TK) hmixP (show SoundCall PR esC from next_sound (ix_sound (want_sound sound_none))) _ (fn := (PR.funcs[106]?).getD default) (by kernel_rfl) (by kernel_rfl) esE fun xs bs out h => ?_) hext
  unfold esE at h
  split at h
  · rename_i s a l
    injection h with h
    injection h with h1 h2
    subst h2
    have e := es_eq s a l h1
    cases hb : escOk s a <;> rw [hb] at e <;> exact ⟨5, _, e, rfl⟩
  · cases h
end Go.Proofs.YtckdgcpomkefpaaGreatDoor.En
end
section
set_option linter.unusedVariables false
set_option linter.unusedSimpArgs false
set_option maxRecDepth 100000
namespace Go.Proofs.YtckdgcpomkefpaaGreatDoor.En
open Go
def quP (s : ByteArray) : Nat → Int → Int → List Dat → Option (List Dat × Int)
  | 0, _, _, _ => none
  | k + 1, a, o, acc => bif decide (a < s.size) then
      (bif bt s a == 40 then quP s k (a + 1) (o + 1) (acc ++ [.int (bt s a)]) else bif bt s a == 41 then (bif o == 0 then some (acc, a + 1) else quP s k (a + 1) (o - 1) (acc ++ [.int (bt s a)])) else
        bif bt s a == 92 then (bif escOk s (a + 1) then quP s k (esP s (a + 1)) o (acc ++ [.int (escV s (a + 1))]) else none) else quP s k (a + 1) o (acc ++ [.int (bt s a)])) else none
def txA (s : ByteArray) (a : Int) : Option (List Dat × Int) := quP s (((s.size : Int) - a).toNat + 1) a 0 []
theorem escP_le {s : ByteArray} {a : Int} (h : escOk s a = true) : a + 1 ≤ esP s a ∧ esP s a ≤ s.size := by
  unfold escOk at h
  rw [Bool.and_eq_true, decide_eq_true_eq] at h
  unfold esP
  cases hb : eB (bt s a)
  · have h2 := h.2
    rw [hb, Bool.false_or, Bool.and_eq_true] at h2
    have h3 := h2.1
    unfold octB at h3
    rw [Bool.and_eq_true, decide_eq_true_eq] at h3
    have := h3.1
    rw [cond_false]
    omega
  · have := h.1
    rw [cond_true]
    omega
noncomputable def txC : CallF := addF 105 nextE (addF 106 esE fun _ _ _ => none)
noncomputable def txL (m r : Nat) (s : ByteArray) (a l o : Int) (acc : List Dat) := loopF PR TK txC m 81 [some (rd s a l)] [true, true, true] r (sp 29 [(0, .box 0 0), (3, .row (some 3) 5 acc), (4, I o)] [(0, rd s a l)])
noncomputable def txK (m r : Nat) (s : ByteArray) (a l o : Int) (acc : List Dat) (x : Int) : Option Out := bif Nat.ble (acc.length + 1) fitsN then txL m r s a l o (acc ++ [Dat.int x]) else none
theorem tx_0 (m : Nat) (s : ByteArray) (a l : Int) : evFn PR TK txC m 81 [.box 0 0] [some (rd s a l)] = txL m m s a l 1 [] := by kernel_rfl
theorem tx_1 (m r : Nat) (s : ByteArray) (a l o : Int) (acc : List Dat) : txL m (r + 1) s a l o acc =
  bif rdOk s a then (bif decide (a < s.size) then
    (bif bt s a == 40 then txK m r s (a + 1) l (W (o + 1)) acc (bt s a) else bif bt s a == 41 then (bif W (o - 1) == 0 then some (.ret (S (bytesOf acc)) [some (rd s (a + 1) l)]) else txK m r s (a + 1) l (W (o - 1)) acc (bt s a)) else
      bif bt s a == 92 then (bif rdOk s (a + 1) then (bif escOk s (a + 1) then txK m r s (esP s (a + 1)) l o acc (escV s (a + 1)) else thrR) else none) else txK m r s (a + 1) l o acc (bt s a)) else thrR) else none := by kernel_rfl
theorem tx_run (m : Nat) (s : ByteArray) (l : Int) (hs : s.size ≤ 16777216) : ∀ (k r : Nat) (a o : Int) (acc : List Dat), 0 ≤ a → a ≤ s.size → 0 ≤ o → o ≤ a → ((s.size : Int) - a).toNat < k → k ≤ r → (acc.length : Int) ≤ a → txL m r s a l (o + 1) acc = outP (quP s k a o acc) s l
  | 0, r, a, o, acc, _, _, _, _, h, _, _ => by omega
  | k + 1, 0, a, o, acc, _, _, _, _, _, h, _ => by omega
  | k + 1, r + 1, a, o, acc, h0, h1, ho, ho2, hk, hr, hl => by
    rw [tx_1, rdOk_of h0 h1 hs, cond_true]
    unfold quP
    by_cases h : a < s.size
    · rw [decide_eq_true h, cond_true, cond_true, W_in (n := o + 1 + 1) ⟨by omega, by omega⟩, W_in (n := o + 1 - 1) ⟨by omega, by omega⟩, rdOk_of (a := a + 1) (by omega) (by omega) hs, show o + 1 - 1 = o by omega]
      have hK : ∀ b o' x, txK m r s b l o' acc x = txL m r s b l o' (acc ++ [Dat.int x]) := fun b o' x => by
        unfold txK
        rw [fits_of (by omega)]
        rfl
      simp only [hK, cond_true]
      cases bt s a == 40
      · cases bt s a == 41
        · cases bt s a == 92
          · exact tx_run m s l hs k r (a + 1) o _ (by omega) (by omega) ho (by omega) (by omega) (by omega) (by simp; omega)
          · simp only [cond_true, cond_false]
            cases he : escOk s (a + 1)
            · rfl
            · have hp := escP_le he
              exact tx_run m s l hs k r _ o _ (by omega) (by omega) ho (by omega) (by omega) (by omega) (by simp; omega)
        · simp only [cond_true, cond_false]
          cases ho0 : o == 0
          · have : ¬ o = 0 := by simpa using ho0
            rw [cond_false, cond_false]
            have e := tx_run m s l hs k r (a + 1) (o - 1) (acc ++ [Dat.int (bt s a)]) (by omega) (by omega) (by omega) (by omega) (by omega) (by omega) (by simp; omega)
            rw [show o - 1 + 1 = o by omega] at e
            exact e
          · rfl
      · exact tx_run m s l hs k r (a + 1) (o + 1) _ (by omega) (by omega) (by omega) (by omega) (by omega) (by omega) (by simp; omega)
    · rw [decide_eq_false h]
      rfl
def txE : List AV → Bx → Option (Bool × Out)
  | [.box 0 0], [some [.v (.string s), .v (.int .i64 a), .v (.int .i64 l)]] => some (rdOk s a, altP (txA s a) s l)
  | _, _ => none
theorem tx_sound {ext : CallF} (hext : SoundCall PR ext) : SoundCall PR (addF 81 txE ext) := by
  refine sound_both (sound_addF (takes := TK) hmixP (show SoundCall PR txC from next_sound (es_sound sound_none)) _ (fn := (PR.funcs[81]?).getD default) (by kernel_rfl) (by kernel_rfl) txE fun xs bs out h => ?_) hext
  unfold txE at h
  split at h
  · rename_i s a l
    injection h with h
    injection h with h1 h2
    subst h2
    obtain ⟨q1, q2, q3⟩ := rdOk_eq h1
    obtain ⟨x, e1, e2⟩ := outP_flat (txA s a) s l
    exact ⟨s.size + 1, x, ((tx_0 _ _ _ _).trans (tx_run _ s l q3 _ _ a 0 [] q1 q2 (Int.le_refl _) q1 (by omega) (by omega) (by simpa using q1))).trans e1, e2⟩
  · cases h
end Go.Proofs.YtckdgcpomkefpaaGreatDoor.En
end
section
set_option linter.unusedVariables false
set_option linter.unusedSimpArgs false
set_option maxRecDepth 100000
namespace Go.Proofs.YtckdgcpomkefpaaGreatDoor.En
open Go
section
variable {P : Program} {g : Gh} {w w' : World} {bs : Bx}
theorem post_t (hm : Mem P g w bs) (hb : ∀ x ∈ bs, x = none) {xs : List AV} {vs : Array Value} (hs : vs.size = xs.length) (hr : ∀ (j : Nat) x, xs[j]? = some x → ∃ u, vs[j]? = some u ∧ RepT P g w' x u) (hp : ∀ x ∈ xs, (∃ y, x = .v y) ∨ x = .err) (hw : Fr (fun _ _ => False) w w') : PostOf P g w bs (.ret (.tup xs) bs) (.returned (.tuple vs)) w' := by
  have hn : ∀ (d : Nat) cs, bs[d]? = some (some cs) → False := fun d cs h => by have := hb _ (List.mem_of_getElem? h); cases this
  have hpl : ∀ (j : Nat) x, xs[j]? = some x → (∃ y, x = .v y) ∨ x = .err := fun j x h => hp x (List.mem_of_getElem? h)
  refine ⟨.tuple vs, g, rfl, hm.still hw, rfl, fun i cs h => ⟨cs, h⟩, ⟨vs, rfl, hs, hr⟩, hw.mono fun _ _ _ t => t.elim, fun _ _ h => h, fun β j h _ => .inl h, fun n y E β h1 h2 => .inr ⟨n, y, E, h1, h2⟩, fun i cs h => rfl, fun i j m cs E l h => (hn i cs h).elim, ⟨fun j d o h => ?_, fun j f a b h => ?_, fun j cs h => ?_, fun j j' m E l E' l' h => ?_⟩, fun j m E l h => ?_⟩ <;>
  · rcases hpl j _ h with ⟨y, e⟩ | e <;> cases e
end
def atK (w : ByteArray) : Bool := match Lib.atoiAll w.data.toList with | .ok _ => true | _ => false
def atV (w : ByteArray) : Int := match Lib.atoiAll w.data.toList with | .ok v => v | .range => Lib.atoiSat w.data.toList | .«syntax» => 0
def aoE : List AV → Bx → Option (Bool × Out)
  | [.v (.string w)], [none] => some (Nat.ble w.size 16777216, .alt (atK w) (.ret (.tup [I (atV w), .v .nilIface]) [none]) (.ret (.tup [I (atV w), .err]) [none]))
  | _, _ => none
theorem fr_bytes (w : World) (e : TypeId) (t : ByteArray) : Fr (fun _ _ => False) w (Lib.bytesWorld w e t) := by
  have h1 : Fr (fun _ _ => False) w (w.drew.alloc (.cells (Lib.bytesCells w e t) e)) := (Fr.drew w).trans (Fr.alloc w.drew _) (fun _ _ _ t => t) (fun _ _ _ t => t)
  refine ⟨rfl, rfl, rfl, ?_, fun β o ho => .inl ?_⟩
  · show w.heap.size ≤ ((w.heap.push _).modify _ _).size
    simp
  · have hlt := (Array.getElem?_eq_some_iff.1 ho).1
    show ((w.heap.push _).modify w.heap.size _)[β]? = some o
    rw [Array.getElem?_modify, if_neg (by omega), Array.getElem?_push, if_neg (by omega)]
    exact ho
theorem ao_sound {ext : CallF} (hext : SoundCall PR ext) : SoundCall PR (addF 108 aoE ext) := by
  refine sound_ext hext _ (fn := (PR.funcs[108]?).getD default) (by kernel_rfl) (by kernel_rfl) aoE fun xs bs out h g w vs hm hL hl hv hr => ?_
  unfold aoE at h
  split at h
  · rename_i s
    injection h with h
    injection h with hc h
    subst h
    have hc := Nat.le_of_ble_eq_true hc
    obtain rfl := args_v (P := PR) [.string s] hv hr
    have errs : ∀ (n : Int) (N : Nat) w', Go.RowKit.Below w.heap.size w w' → PostOf PR g w [none] (.ret (.tup [I n, .err]) [none]) (.returned (.tuple #[.int .i64 n, .iface 164 (.pointer (some ⟨N, 0, none⟩))])) w' := fun n N w' hb => by
      refine post_t hm (by simp) rfl (fun j x hj => ?_) (fun x hx => ?_) (Fr.of_below hb (Nat.le_refl _))
      · match j, hj with
        | 0, hj => cases hj; exact ⟨_, rfl, rfl, rfl⟩
        | 1, hj => cases hj; exact ⟨_, rfl, _, _, rfl⟩
      · simp at hx
        rcases hx with rfl | rfl
        · exact .inl ⟨_, rfl⟩
        · exact .inr rfl
    cases hA : Lib.atoiAll s.data.toList with
    | ok v =>
      refine (Tryz.strconv_Atoi_ok s (by omega) v hA w).mono fun e w' he => ?_
      obtain ⟨rfl, hw⟩ := he
      have hk : atK s = true := by unfold atK; rw [hA]
      have hv : atV s = v := by unfold atV; rw [hA]
      have hp : PostOf PR g w [none] (.ret (.tup [I v, .v .nilIface]) [none]) (.returned (.tuple #[.int .i64 v, .nilIface])) w' := by
        refine post_t hm (by simp) rfl (fun j x hj => ?_) (fun x hx => ?_) ?_
        · match j, hj with
          | 0, hj => cases hj; exact ⟨_, rfl, rfl, rfl⟩
          | 1, hj => cases hj; exact ⟨_, rfl, rfl, rfl⟩
        · simp at hx
          rcases hx with rfl | rfl <;> exact .inl ⟨_, rfl⟩
        · rcases hw with rfl | ⟨t, rfl⟩
          · exact Fr.refl _ _
          · exact fr_bytes _ _ _
      exact hp.congr (by rw [hk, hv]; rfl)
    | «syntax» =>
      obtain ⟨ev, h1, h2⟩ := hL.P.errS
      refine (Tryz.strconv_Atoi_syntax s (by omega) hA ev w h1 h2).mono fun e w' he => ?_
      obtain ⟨N, rfl, _, _, hb⟩ := he
      exact (errs 0 N w' hb).congr (by unfold atK atV; rw [hA]; rfl)
    | range =>
      obtain ⟨ev, h1, h2⟩ := hL.P.errR
      refine (Tryz.strconv_Atoi_range s (by omega) hA ev w h1 h2).mono fun e w' he => ?_
      obtain ⟨N, rfl, _, _, hb⟩ := he
      exact (errs _ N w' hb).congr (by unfold atK atV; rw [hA]; rfl)
  · cases h
def zeroT : ByteArray := ⟨#[48]⟩
def rT : ByteArray := ⟨#[82]⟩
def rf1 (s : ByteArray) (a : Int) : Int := wdA s (blA s a)
def rf2 (s : ByteArray) (a : Int) : Int := blA s (rf1 s a)
def rf3 (s : ByteArray) (a : Int) : Int := wdA s (rf2 s a)
def rfB (s : ByteArray) (a : Int) : Bool := decide (blA s a > a) && (((sub' s (blA s a) (rf1 s a)).toList == zeroT.toList) && (decide (rf2 s a > rf1 s a) && ((sub' s (rf2 s a) (rf3 s a)).toList == rT.toList)))
noncomputable def rfC : CallF := addF 50 blsE (addF 85 wdE fun _ _ _ => none)
theorem rf_0 (m : Nat) (s : ByteArray) (a l : Int) : evFn PR TK rfC m 109 [.box 0 0] [some (rd s a l)] =
  bif rdOk s a then (bif (decide (blA s a > a)) == true then (bif rdOk s (blA s a) then (bif ((sub' s (blA s a) (rf1 s a)).toList == zeroT.toList) == true then
    (bif rdOk s (rf1 s a) then (bif (decide (rf2 s a > rf1 s a)) == true then (bif rdOk s (rf2 s a) then (bif ((sub' s (rf2 s a) (rf3 s a)).toList == rT.toList) then bRd true s (rf3 s a) l else bRd false s a l) else none) else bRd false s a l) else none) else bRd false s a l) else none) else bRd false s a l) else none := by kernel_rfl
def rfE : List AV → Bx → Option (Bool × Out)
  | [.box 0 0], [some [.v (.string s), .v (.int .i64 a), .v (.int .i64 l)]] => some (rdOk s a, .alt (rfB s a) (.ret (B true) [some (rd s (rf3 s a) l)]) (.ret (B false) [some (rd s a l)]))
  | _, _ => none
theorem rf_bd (s : ByteArray) (a : Int) (h0 : 0 ≤ a) (h1 : a ≤ s.size) : a ≤ blA s a ∧ blA s a ≤ rf1 s a ∧ rf1 s a ≤ rf2 s a ∧ rf2 s a ≤ rf3 s a ∧ rf3 s a ≤ s.size := by
  have e1 : a ≤ blA s a := skA_ge _ _ _
  have f1 : blA s a ≤ s.size := skA_le _ _ _ h1
  have e2 : blA s a ≤ rf1 s a := skA_ge _ _ _
  have f2 : rf1 s a ≤ s.size := skA_le _ _ _ f1
  have e3 : rf1 s a ≤ rf2 s a := skA_ge _ _ _
  have f3 : rf2 s a ≤ s.size := skA_le _ _ _ f2
  have e4 : rf2 s a ≤ rf3 s a := skA_ge _ _ _
  have f4 : rf3 s a ≤ s.size := skA_le _ _ _ f3
  exact ⟨e1, e2, e3, e4, f4⟩
theorem rf_sound {ext : CallF} (hext : SoundCall PR ext) : SoundCall PR (addF 109 rfE ext) := by
  refine sound_both (sound_addF (takes := TK) hmixP (show SoundCall PR rfC from bls_sound (wd_sound sound_none)) _ (fn := (PR.funcs[109]?).getD default) (by kernel_rfl) (by kernel_rfl) rfE fun xs bs out h => ?_) hext
  unfold rfE at h
  split at h
  · rename_i s a l
    injection h with h
    injection h with h1 h2
    subst h2
    obtain ⟨q1, q2, q3⟩ := rdOk_eq h1
    obtain ⟨b1, b2, b3, b4, b5⟩ := rf_bd s a q1 q2
    have e := rf_0 0 s a l
    rw [h1, rdOk_of (a := blA s a) (by omega) (by omega) q3, rdOk_of (a := rf1 s a) (by omega) (by omega) q3, rdOk_of (a := rf2 s a) (by omega) (by omega) q3] at e
    simp only [cond_true] at e
    unfold rfB
    cases c1 : decide (blA s a > a) <;> cases c2 : ((sub' s (blA s a) (rf1 s a)).toList == zeroT.toList) <;> cases c3 : decide (rf2 s a > rf1 s a) <;> cases c4 : ((sub' s (rf2 s a) (rf3 s a)).toList == rT.toList) <;> rw [c1, c2, c3, c4] at e <;> exact ⟨0, _, e, rfl⟩
  · cases h
end Go.Proofs.YtckdgcpomkefpaaGreatDoor.En
end
section
set_option linter.unusedVariables false
set_option linter.unusedSimpArgs false
set_option maxRecDepth 100000
namespace Go.Proofs.YtckdgcpomkefpaaGreatDoor.En
open Go
def dpE (f : ByteArray → Bool × Int) : List AV → Bx → Option (Bool × Out)
  | [.v (.string w)], [none] => some (Nat.ble w.size 16777216, .ret (.tup [I (f w).2, B (f w).1]) [none])
  | _, _ => none
def nulT : ByteArray := ⟨#[110, 117, 108, 108]⟩
def trueT : ByteArray := ⟨#[116, 114, 117, 101]⟩
def falseT : ByteArray := ⟨#[102, 97, 108, 115, 101]⟩
def isT (w t : ByteArray) : Bool := w.toList == t.toList
def obV (k n : Int) (b : Bool) (t : ByteArray) (ks l : List Dat) : AV := .agg [I k, B b, I n, S t, .row (some (sub 4 4)) 9 ks, .row (some (sub 4 5)) 43 l]
def oRd (k n : Int) (b : Bool) (s : ByteArray) (a l : Int) : Out := .ret (obV k n b ⟨#[]⟩ [] []) [some (rd s a l), none]
def i64B (v : Int) : Bool := decide (-9223372036854775808 ≤ v) && decide (v ≤ 9223372036854775807)
def itT (v : Int) : ByteArray := ⟨(itoaF v).toArray⟩
section
variable (f : ByteArray → Bool × Int)
noncomputable def sdC : CallF := addF 108 aoE (addF 58 itoaE (addF 109 rfE (addF 77 wantE (addF 110 (dpE f) fun _ _ _ => none))))
def sdZ (s w : ByteArray) (a l : Int) : Option Out := bif rdOk s a then (bif rfB s a then some (oRd 8 (atV w) false s (rf3 s a) l) else some (oRd 2 (atV w) false s a l)) else none
def sdD (s w : ByteArray) (a l : Int) : Option Out := bif Nat.ble w.size 16777216 then (bif (f w).1 then some (oRd 3 (f w).2 false s a l) else thrR) else none
def sdY (s w : ByteArray) (a l : Int) : Option Out := bif Nat.ble w.size 16777216 then (bif atK w then
  (bif i64B (atV w) then some ((itT (atV w)).toList == w.toList) else none).bind (fun t => bif t then sdZ s w a l else sdD f s w a l) else sdD f s w a l) else none
theorem sd_0 (m : Nat) (s w : ByteArray) (a l : Int) : evFn PR TK (sdC f) m 84 [.box 0 0, S w] [some (rd s a l), none] =
  bif isT w nulT then some (oRd 0 0 false s a l) else bif isT w trueT then (bif isT w trueT then some (oRd 1 0 (isT w trueT) s a l) else sdY f s w a l) else
    bif isT w falseT then some (oRd 1 0 (isT w trueT) s a l) else sdY f s w a l := by kernel_rfl
abbrev ObR := Dat × Int × Int
def rvO (o : Option ObR) : ObR := o.getD (.int 0, 0, 0)
def obVD (d : Dat) : AV := obV (d.at 0).toI (d.at 2).toI (d.at 1).toB (d.at 3).toS (d.at 4).toL (d.at 5).toL
def altO (o : Option ObR) (s : ByteArray) : Out := .alt o.isSome (.ret (obVD (rvO o).1) [some (rd s (rvO o).2.1 (rvO o).2.2), none]) (.thr fltV)
def outO (o : Option ObR) (s : ByteArray) : Option Out := match o with | some (d, a, l) => some (.ret (obVD d) [some (rd s a l), none]) | none => thrR
theorem outO_flat (o : Option ObR) (s : ByteArray) : ∃ x, outO o s = some x ∧ x.flat = (altO o s).flat := by
  cases o with
  | none => exact ⟨_, rfl, rfl⟩
  | some p => obtain ⟨d, a, l⟩ := p; exact ⟨_, rfl, rfl⟩
def plO (k n : Int) (b : Bool) (t : ByteArray) : Dat := mkO k n b t [] []
def isI (w : ByteArray) : Bool := atK w && isT (itT (atV w)) w
def sdS (s w : ByteArray) (a l : Int) : Option ObR :=
  bif isT w nulT then some (plO 0 0 false ⟨#[]⟩, a, l) else bif isT w trueT then some (plO 1 0 true ⟨#[]⟩, a, l) else bif isT w falseT then some (plO 1 0 false ⟨#[]⟩, a, l) else
  bif isI w then (bif rfB s a then some (plO 8 (atV w) false ⟨#[]⟩, rf3 s a, l) else some (plO 2 (atV w) false ⟨#[]⟩, a, l)) else
  bif (f w).1 then some (plO 3 (f w).2 false ⟨#[]⟩, a, l) else none
theorem atV_bd {w : ByteArray} (h : atK w = true) : i64B (atV w) = true := by
  unfold atK at h
  unfold atV i64B
  cases hA : Lib.atoiAll w.data.toList with
  | ok v =>
    obtain ⟨h1, h2⟩ := Lib.atoiAll_bounds hA
    dsimp only
    rw [decide_eq_true h1, decide_eq_true h2]
    rfl
  | «syntax» => rw [hA] at h; cases h
  | range => rw [hA] at h; cases h
theorem sd_eq (s w : ByteArray) (a l : Int) (h : rdOk s a = true) (hw : Nat.ble w.size 16777216 = true) : evFn PR TK (sdC f) 0 84 [.box 0 0, S w] [some (rd s a l), none] = outO (sdS f s w a l) s := by
  rw [sd_0]
  have hD : sdD f s w a l = outO (bif (f w).1 then some (plO 3 (f w).2 false ⟨#[]⟩, a, l) else none) s := by
    unfold sdD
    rw [hw]
    cases (f w).1 <;> rfl
  have hY : sdY f s w a l = outO (bif isI w then (bif rfB s a then some (plO 8 (atV w) false ⟨#[]⟩, rf3 s a, l) else some (plO 2 (atV w) false ⟨#[]⟩, a, l)) else
      bif (f w).1 then some (plO 3 (f w).2 false ⟨#[]⟩, a, l) else none) s := by
    unfold sdY isI
    rw [hw, cond_true, hD]
    cases hk : atK w
    · rfl
    · rw [cond_true, atV_bd hk, cond_true, Option.bind_some, Bool.true_and]
      show (bif isT (itT (atV w)) w then _ else _) = _
      cases isT (itT (atV w)) w
      · rfl
      · unfold sdZ
        rw [h]
        cases rfB s a <;> rfl
  rw [hY]
  unfold sdS
  cases isT w nulT
  · cases isT w trueT
    · cases isT w falseT <;> rfl
    · rfl
  · rfl
def sdE : List AV → Bx → Option (Bool × Out)
  | [.box 0 0, .v (.string w)], [some [.v (.string s), .v (.int .i64 a), .v (.int .i64 l)], none] => some (rdOk s a && Nat.ble w.size 16777216, altO (sdS f s w a l) s)
  | _, _ => none
theorem sd_sound (hd : SoundCall PR (addF 110 (dpE f) fun _ _ _ => none)) {ext : CallF} (hext : SoundCall PR ext) : SoundCall PR (addF 84 (sdE f) ext) := by
  refine sound_both (sound_addF (takes := TK) hmixP (show SoundCall PR (sdC f) from ao_sound (itoa_sound (rf_sound (want_sound hd)))) _ (fn := (PR.funcs[84]?).getD default) (by kernel_rfl) (by kernel_rfl) (sdE f) fun xs bs out h => ?_) hext
  unfold sdE at h
  split at h
  · rename_i w s a l
    injection h with h
    injection h with h1 h2
    subst h2
    rw [Bool.and_eq_true] at h1
    obtain ⟨x, e1, e2⟩ := outO_flat (sdS f s w a l) s
    exact ⟨0, x, (sd_eq f s w a l h1.1 h1.2).trans e1, e2⟩
  · cases h
end
end Go.Proofs.YtckdgcpomkefpaaGreatDoor.En
end
section
set_option linter.unusedVariables false
set_option linter.unusedSimpArgs false
set_option maxRecDepth 100000
namespace Go.Proofs.YtckdgcpomkefpaaGreatDoor.En
open Go
section
variable (s : ByteArray) (ob : Int → Int → Option ObR)
def arP : Nat → Int → Int → List Dat → Option ObR
  | 0, _, _, _ => none
  | k + 1, a, l, acc => bif isB s a 93 then some (mkO 6 0 false ⟨#[]⟩ [] acc, a + 1, l) else match ob a l with
    | none => none
    | some (d, p, l') => arP k (blA s p) l' (acc ++ [nrm d])
def dcP : Nat → Int → Int → List Dat → List Dat → Option ObR
  | 0, _, _, _, _ => none
  | k + 1, a, l, ks, acc => bif isB s a 62 && isB s (a + 1) 62 then some (mkO 7 0 false ⟨#[]⟩ ks acc, a + 2, l) else bif isB s a 47 then (match nmA s (a + 1) with
    | none => none
    | some (b, q) => match ob (blA s q) l with
      | none => none
      | some (d, p, l') => dcP k (blA s p) l' (ks ++ [.str (bytesOf b)]) (acc ++ [nrm d])) else none
def arR (a deep l : Int) : Option ObR := bif decide (deep > 0) then arP s ob (l.toNat + 2) (blA s a) l [] else none
def dcR (a deep l : Int) : Option ObR := bif decide (deep > 0) then dcP s ob (l.toNat + 2) (blA s a) l [] [] else none
def txR (k : Int) (o : Option (List Dat × Int)) (l : Int) : Option ObR := o.map fun p => (plO k 0 false (bytesOf p.1), p.2, l)
end
section
variable (f : ByteArray → Bool × Int) (s : ByteArray)
def obB (ob : Int → Int → Option ObR) (a deep l : Int) : Option ObR := bif decide (l ≥ 0) then
  (bif isB s a 60 && isB s (a + 1) 60 then dcR s ob (a + 2) deep l else bif isB s a 60 then txR 5 (hxA s (a + 1)) l else bif isB s a 40 then txR 5 (txA s (a + 1)) l else
    bif isB s a 47 then txR 4 (nmA s (a + 1)) l else bif isB s a 91 then arR s ob (a + 1) deep l else sdS f s (sub' s a (wdA s a)) (wdA s a) l) else none
def obP : Nat → Int → Int → Int → Option ObR
  | 0, _, _, _ => none
  | k + 1, a, deep, l => obB f s (fun a l => obP k a (deep - 1) l) a deep (l - 1)
end
def obCo (k : Nat) (s : ByteArray) (a l deep : Int) : Bool := rdOk s a && (decide (0 ≤ l) && (decide (l ≤ 65536) && (decide (0 ≤ deep) && (decide (deep ≤ 32) && decide (deep < k)))))
def arCo (k : Nat) (s : ByteArray) (a l deep : Int) : Bool := rdOk s a && (decide (0 ≤ l) && (decide (l ≤ 65536) && (decide (0 ≤ deep) && (decide (deep ≤ 32) && decide (deep ≤ k)))))
section
variable (f : ByteArray → Bool × Int) (k : Nat)
def obE : List AV → Bx → Option (Bool × Out)
  | [.box 0 0, .v (.int .i64 deep)], [some [.v (.string s), .v (.int .i64 a), .v (.int .i64 l)], none] => some (obCo k s a l deep, altO (obP f s k a deep l) s)
  | _, _ => none
def arE : List AV → Bx → Option (Bool × Out)
  | [.box 0 0, .v (.int .i64 deep)], [some [.v (.string s), .v (.int .i64 a), .v (.int .i64 l)], none] => some (arCo k s a l deep, altO (arR s (fun a l => obP f s k a (deep - 1) l) a deep l) s)
  | _, _ => none
def dcE : List AV → Bx → Option (Bool × Out)
  | [.box 0 0, .v (.int .i64 deep)], [some [.v (.string s), .v (.int .i64 a), .v (.int .i64 l)], none] => some (arCo k s a l deep, altO (dcR s (fun a l => obP f s k a (deep - 1) l) a deep l) s)
  | _, _ => none
noncomputable def arC (ext : CallF) : CallF := addF 78 begE (addF 50 blsE (addF 77 wantE (addF 82 nmE (addF 51 (obE f k) ext))))
end
def z4 : List AV := [I 0, B false, I 0, S ⟨#[]⟩, .row (some (sub 4 4)) 9 [], .row (some (sub 4 5)) 43 []]
def o5 (k : Int) (ks l : List Dat) : List AV := [I k, B false, I 0, S ⟨#[]⟩, .row (some (sub 5 4)) 9 ks, .row (some (sub 5 5)) 43 l]
section
variable (f : ByteArray → Bool × Int) (k m : Nat) (s : ByteArray)
noncomputable def arL (r : Nat) (a l deep : Int) (acc : List Dat) := loopF PR TK (arC f k fun _ _ _ => none) m 83 [some (rd s a l), none] [true, true, true, false, true] r
  (sp 27 [(0, .box 0 0), (1, I deep), (4, .box 4 0), (5, .box 5 0)] [(0, rd s a l), (4, z4), (5, o5 6 [] acc)])
theorem ar_0 (a l deep : Int) : evFn PR TK (arC f k fun _ _ _ => none) m 83 [.box 0 0, I deep] [some (rd s a l), none] =
  bif decide (deep > 0) then (bif rdOk s a then arL f k m s m (blA s a) l deep [] else none) else thrR := by kernel_rfl
theorem ar_1 (r : Nat) (a l deep : Int) (acc : List Dat) : arL f k m s (r + 1) a l deep acc =
  bif rdOk s a then (bif begB s a ⟨#[93]⟩ then some (.ret (obV 6 0 false ⟨#[]⟩ [] acc) [some (rd s (a + ((⟨#[93]⟩ : ByteArray).size : Int)) l), none]) else
    bif obCo k s a l (W (deep - 1)) then (bif (obP f s k a (W (deep - 1)) l).isSome then (bif Nat.ble (acc.length + 1) fitsN then
      (bif rdOk s (rvO (obP f s k a (W (deep - 1)) l)).2.1 then arL f k m s r (blA s (rvO (obP f s k a (W (deep - 1)) l)).2.1) (rvO (obP f s k a (W (deep - 1)) l)).2.2 deep (acc ++ [nrm (rvO (obP f s k a (W (deep - 1)) l)).1]) else none) else none) else thrR) else none) else none := by kernel_rfl
noncomputable def dcL (r : Nat) (a l deep : Int) (ks acc : List Dat) := loopF PR TK (arC f k fun _ _ _ => none) m 79 [some (rd s a l), none] [true, true, true, false, true] r
  (sp 39 [(0, .box 0 0), (1, I deep), (4, .box 4 0), (5, .box 5 0)] [(0, rd s a l), (4, z4), (5, o5 7 ks acc)])
theorem dc_0 (a l deep : Int) : evFn PR TK (arC f k fun _ _ _ => none) m 79 [.box 0 0, I deep] [some (rd s a l), none] =
  bif decide (deep > 0) then (bif rdOk s a then dcL f k m s m (blA s a) l deep [] [] else none) else thrR := by kernel_rfl
theorem dc_1 (r : Nat) (a l deep : Int) (ks acc : List Dat) : dcL f k m s (r + 1) a l deep ks acc =
  bif rdOk s a then (bif begB s a ⟨#[62, 62]⟩ then some (.ret (obV 7 0 false ⟨#[]⟩ ks acc) [some (rd s (a + ((⟨#[62, 62]⟩ : ByteArray).size : Int)) l), none]) else
    bif rdOk s a then (bif begB s a ⟨#[47]⟩ then (bif rdOk s (a + ((⟨#[47]⟩ : ByteArray).size : Int)) then (bif (nmA s (a + ((⟨#[47]⟩ : ByteArray).size : Int))).isSome then (bif Nat.ble (ks.length + 1) fitsN then
      (bif rdOk s (getP (nmA s (a + ((⟨#[47]⟩ : ByteArray).size : Int)))).2 then
        (bif obCo k s (blA s (getP (nmA s (a + ((⟨#[47]⟩ : ByteArray).size : Int)))).2) l (W (deep - 1)) then (bif (obP f s k (blA s (getP (nmA s (a + ((⟨#[47]⟩ : ByteArray).size : Int)))).2) (W (deep - 1)) l).isSome then (bif Nat.ble (acc.length + 1) fitsN then
          (bif rdOk s (rvO (obP f s k (blA s (getP (nmA s (a + ((⟨#[47]⟩ : ByteArray).size : Int)))).2) (W (deep - 1)) l)).2.1 then
            dcL f k m s r (blA s (rvO (obP f s k (blA s (getP (nmA s (a + ((⟨#[47]⟩ : ByteArray).size : Int)))).2) (W (deep - 1)) l)).2.1) (rvO (obP f s k (blA s (getP (nmA s (a + ((⟨#[47]⟩ : ByteArray).size : Int)))).2) (W (deep - 1)) l)).2.2 deep
              (ks ++ [Dat.str (bytesOf (getP (nmA s (a + ((⟨#[47]⟩ : ByteArray).size : Int)))).1)]) (acc ++ [nrm (rvO (obP f s k (blA s (getP (nmA s (a + ((⟨#[47]⟩ : ByteArray).size : Int)))).2) (W (deep - 1)) l)).1])
          else none) else none) else thrR) else none) else none) else none) else thrR) else none) else thrR) else none) else none := by kernel_rfl
end
end Go.Proofs.YtckdgcpomkefpaaGreatDoor.En
end
section
set_option linter.unusedVariables false
set_option linter.unusedSimpArgs false
set_option maxRecDepth 100000
namespace Go.Proofs.YtckdgcpomkefpaaGreatDoor.En
open Go
section
variable (f : ByteArray → Bool × Int) (k m : Nat) (s : ByteArray)
noncomputable def oC2 : CallF := addF 79 (dcE f k) (addF 83 (arE f k) (addF 80 hxE (addF 81 txE (addF 82 nmE
  (addF 85 wdE (addF 84 (sdE f) (addF 78 begE (addF 77 wantE fun _ _ _ => none))))))))
def obQ (o : Option ObR) (s : ByteArray) : Option Out := bif o.isSome then some (.ret (obVD (rvO o).1) [some (rd s (rvO o).2.1 (rvO o).2.2), none]) else thrR
def txQ (n : Int) (o : Option (List Dat × Int)) (s : ByteArray) (l : Int) : Option Out := bif o.isSome then some (.ret (obV n 0 false (bytesOf (getP o).1) [] []) [some (rd s (getP o).2 l), none]) else thrR
theorem ob_0 (a l deep : Int) : evFn PR TK (oC2 f k) m 51 [.box 0 0, I deep] [some (rd s a l), none] =
  bif decide (W (l - 1) ≥ 0) then
    (bif rdOk s a then (bif begB s a ⟨#[60, 60]⟩ then (bif arCo k s (a + ((⟨#[60, 60]⟩ : ByteArray).size : Int)) (W (l - 1)) deep then obQ (dcR s (fun a l => obP f s k a (deep - 1) l) (a + ((⟨#[60, 60]⟩ : ByteArray).size : Int)) deep (W (l - 1))) s else none) else
      bif rdOk s a then (bif begB s a ⟨#[60]⟩ then (bif rdOk s (a + ((⟨#[60]⟩ : ByteArray).size : Int)) then txQ 5 (hxA s (a + ((⟨#[60]⟩ : ByteArray).size : Int))) s (W (l - 1)) else none) else
        bif rdOk s a then (bif begB s a ⟨#[40]⟩ then (bif rdOk s (a + ((⟨#[40]⟩ : ByteArray).size : Int)) then txQ 5 (txA s (a + ((⟨#[40]⟩ : ByteArray).size : Int))) s (W (l - 1)) else none) else
          bif rdOk s a then (bif begB s a ⟨#[47]⟩ then (bif rdOk s (a + ((⟨#[47]⟩ : ByteArray).size : Int)) then txQ 4 (nmA s (a + ((⟨#[47]⟩ : ByteArray).size : Int))) s (W (l - 1)) else none) else
            bif rdOk s a then (bif begB s a ⟨#[91]⟩ then (bif arCo k s (a + ((⟨#[91]⟩ : ByteArray).size : Int)) (W (l - 1)) deep then obQ (arR s (fun a l => obP f s k a (deep - 1) l) (a + ((⟨#[91]⟩ : ByteArray).size : Int)) deep (W (l - 1))) s else none) else
              bif rdOk s a then (bif rdOk s (wdA s a) && Nat.ble (sub' s a (wdA s a)).size 16777216 then obQ (sdS f s (sub' s a (wdA s a)) (wdA s a) (W (l - 1))) s else none) else none) else none) else none) else none) else none) else none)
  else thrR := by kernel_rfl
end
theorem nmP_bd (s : ByteArray) : ∀ (k : Nat) (a : Int) (acc x : List Dat) (b : Int), a ≤ s.size → nmP s k a acc = some (x, b) → a ≤ b ∧ b ≤ s.size
  | 0, a, acc, x, b, _, h => by cases h
  | k + 1, a, acc, x, b, ha, h => by
    unfold nmP at h
    cases hc : decide (a < s.size) && wordB (bt s a) <;> rw [hc] at h
    · cases h; exact ⟨Int.le_refl _, ha⟩
    · rw [Bool.and_eq_true, decide_eq_true_eq] at hc
      cases h3 : bt s a == 35 <;> rw [h3] at h
      · obtain ⟨_, h⟩ := bif_some h
        have := nmP_bd s k (a + 1) _ x b (by omega) h
        omega
      · obtain ⟨hp, h⟩ := bif_some h
        unfold pairB at hp
        rw [Bool.and_eq_true, decide_eq_true_eq] at hp
        have := nmP_bd s k (a + 3) _ x b (by omega) h
        omega
theorem hxP_bd (s : ByteArray) : ∀ (k : Nat) (a : Int) (acc x : List Dat) (b : Int), hxP s k a acc = some (x, b) → a ≤ b ∧ b ≤ s.size
  | 0, a, acc, x, b, h => by cases h
  | k + 1, a, acc, x, b, h => by
    unfold hxP at h
    cases hc : isB s a 62 <;> rw [hc] at h
    · obtain ⟨hp, h⟩ := bif_some h
      have := hxP_bd s k (a + 2) _ x b h
      omega
    · unfold isB at hc
      rw [Bool.and_eq_true, decide_eq_true_eq] at hc
      cases h
      omega
theorem quP_bd (s : ByteArray) : ∀ (k : Nat) (a o : Int) (acc x : List Dat) (b : Int), quP s k a o acc = some (x, b) → a ≤ b ∧ b ≤ s.size
  | 0, a, o, acc, x, b, h => by cases h
  | k + 1, a, o, acc, x, b, h => by
    unfold quP at h
    obtain ⟨hc, h⟩ := bif_some h
    rw [decide_eq_true_eq] at hc
    revert h
    cases bt s a == 40
    · cases bt s a == 41
      · cases bt s a == 92
        · intro h
          have := quP_bd s k (a + 1) o _ x b h
          omega
        · intro h
          obtain ⟨he, h⟩ := bif_some h
          have hp := escP_le he
          have := quP_bd s k _ o _ x b h
          omega
      · cases o == 0
        · intro h
          have := quP_bd s k (a + 1) (o - 1) _ x b h
          omega
        · intro h
          cases h
          omega
    · intro h
      have := quP_bd s k (a + 1) (o + 1) _ x b h
      omega
theorem sdS_bd (f : ByteArray → Bool × Int) {s w : ByteArray} {a l : Int} {d : Dat} {p l' : Int} (h0 : 0 ≤ a) (h1 : a ≤ s.size) (h : sdS f s w a l = some (d, p, l')) : a ≤ p ∧ p ≤ s.size ∧ l' = l := by
  have hr := rf_bd s a h0 h1
  revert h
  unfold sdS
  cases isT w nulT
  · cases isT w trueT
    · cases isT w falseT
      · cases isI w
        · cases (f w).1
          · intro h; cases h
          · intro h; cases h; exact ⟨Int.le_refl _, h1, rfl⟩
        · cases rfB s a
          · intro h; cases h; exact ⟨Int.le_refl _, h1, rfl⟩
          · intro h; cases h; exact ⟨by omega, by omega, rfl⟩
      · intro h; cases h; exact ⟨Int.le_refl _, h1, rfl⟩
    · intro h; cases h; exact ⟨Int.le_refl _, h1, rfl⟩
  · intro h; cases h; exact ⟨Int.le_refl _, h1, rfl⟩
def ObBd (s : ByteArray) (ob : Int → Int → Option ObR) : Prop := ∀ (a l : Int) (d : Dat) (p l' : Int), 0 ≤ a → a ≤ s.size → ob a l = some (d, p, l') → a ≤ p ∧ p ≤ s.size ∧ 0 ≤ l' ∧ l' ≤ l - 1
theorem blA_bd {s : ByteArray} {a : Int} (h1 : a ≤ s.size) : a ≤ blA s a ∧ blA s a ≤ s.size := ⟨skA_ge _ _ _, skA_le _ _ _ h1⟩
theorem arP_bd {s : ByteArray} {ob : Int → Int → Option ObR} (hob : ObBd s ob) : ∀ (k : Nat) (a l : Int) (acc : List Dat) (d : Dat) (p l' : Int), 0 ≤ a → a ≤ s.size → 0 ≤ l → arP s ob k a l acc = some (d, p, l') → a ≤ p ∧ p ≤ s.size ∧ 0 ≤ l' ∧ l' ≤ l
  | 0, a, l, acc, d, p, l', _, _, _, h => by cases h
  | k + 1, a, l, acc, d, p, l', h0, h1, hl, h => by
    unfold arP at h
    cases hc : isB s a 93 <;> rw [hc] at h
    · rw [cond_false] at h
      split at h
      · cases h
      · rename_i d' p' l2 he
        obtain ⟨e1, e2, e3, e4⟩ := hob a l _ _ _ h0 h1 he
        obtain ⟨b1, b2⟩ := blA_bd (s := s) (a := p') e2
        have := arP_bd hob k _ _ _ d p l' (by omega) b2 e3 h
        omega
    · unfold isB at hc
      rw [Bool.and_eq_true, decide_eq_true_eq] at hc
      cases h
      omega
theorem dcP_bd {s : ByteArray} {ob : Int → Int → Option ObR} (hob : ObBd s ob) : ∀ (k : Nat) (a l : Int) (ks acc : List Dat) (d : Dat) (p l' : Int), 0 ≤ a → a ≤ s.size → 0 ≤ l → dcP s ob k a l ks acc = some (d, p, l') → a ≤ p ∧ p ≤ s.size ∧ 0 ≤ l' ∧ l' ≤ l
  | 0, a, l, ks, acc, d, p, l', _, _, _, h => by cases h
  | k + 1, a, l, ks, acc, d, p, l', h0, h1, hl, h => by
    unfold dcP at h
    cases hc : isB s a 62 && isB s (a + 1) 62 <;> rw [hc] at h
    · rw [cond_false] at h
      obtain ⟨h47, h⟩ := bif_some h
      unfold isB at h47
      rw [Bool.and_eq_true, decide_eq_true_eq] at h47
      split at h
      · cases h
      · rename_i b q hq
        obtain ⟨n1, n2⟩ := nmP_bd s _ _ _ _ _ (by omega) hq
        obtain ⟨m1, m2⟩ := blA_bd (s := s) (a := q) n2
        split at h
        · cases h
        · rename_i d' p' l2 he
          obtain ⟨e1, e2, e3, e4⟩ := hob _ l _ _ _ (by omega) m2 he
          obtain ⟨b1, b2⟩ := blA_bd (s := s) (a := p') e2
          have := dcP_bd hob k _ _ _ _ d p l' (by omega) b2 e3 h
          omega
    · unfold isB at hc
      simp only [Bool.and_eq_true, decide_eq_true_eq] at hc
      cases h
      omega
theorem obB_bd (f : ByteArray → Bool × Int) {s : ByteArray} {ob : Int → Int → Option ObR} (hob : ObBd s ob) {a deep l : Int} {d : Dat} {p l' : Int} (h0 : 0 ≤ a) (h1 : a ≤ s.size) (h : obB f s ob a deep l = some (d, p, l')) : a ≤ p ∧ p ≤ s.size ∧ 0 ≤ l' ∧ l' ≤ l := by
  have ht : ∀ (n : Int) (o : Option (List Dat × Int)), (∀ x b, o = some (x, b) → a ≤ b ∧ b ≤ s.size) → 0 ≤ l → txR n o l = some (d, p, l') → a ≤ p ∧ p ≤ s.size ∧ 0 ≤ l' ∧ l' ≤ l := fun n o ho hl e => by
    obtain ⟨⟨x, b⟩, hx, e⟩ := Option.map_eq_some_iff.1 e
    cases e
    have := ho x b hx
    exact ⟨this.1, this.2, hl, Int.le_refl _⟩
  unfold obB at h
  obtain ⟨hl, h⟩ := bif_some h
  rw [decide_eq_true_eq] at hl
  have hB : ∀ b c, isB s b c = true → b < s.size := fun b c hb => by
    unfold isB at hb
    rw [Bool.and_eq_true, decide_eq_true_eq] at hb
    exact hb.1
  cases c1 : isB s a 60 && isB s (a + 1) 60 <;> rw [c1] at h
  · cases c2 : isB s a 60 <;> rw [c2] at h
    · cases c3 : isB s a 40 <;> rw [c3] at h
      · cases c4 : isB s a 47 <;> rw [c4] at h
        · cases c5 : isB s a 91 <;> rw [c5] at h
          · have hw1 : a ≤ wdA s a := skA_ge _ _ _
            have hw2 : wdA s a ≤ s.size := skA_le _ _ _ h1
            obtain ⟨e1, e2, e3⟩ := sdS_bd f (by omega) hw2 h
            omega
          · have := hB _ _ c5
            unfold arR at h
            obtain ⟨_, h⟩ := bif_some h
            obtain ⟨b1, b2⟩ := blA_bd (s := s) (a := a + 1) (by omega)
            have := arP_bd hob _ _ _ _ _ _ _ (by omega) b2 (by omega) h
            omega
        · have := hB _ _ c4
          exact ht 4 _ (fun x b e => by have := nmP_bd s _ _ _ _ _ (by omega) e; omega) hl h
      · exact ht 5 _ (fun x b e => by have := quP_bd s _ _ _ _ _ _ e; omega) hl h
    · exact ht 5 _ (fun x b e => by have := hxP_bd s _ _ _ _ _ e; omega) hl h
  · rw [Bool.and_eq_true] at c1
    have := hB _ _ c1.2
    unfold dcR at h
    obtain ⟨_, h⟩ := bif_some h
    obtain ⟨b1, b2⟩ := blA_bd (s := s) (a := a + 2) (by omega)
    have := dcP_bd hob _ _ _ _ _ _ _ _ (by omega) b2 (by omega) h
    omega
theorem obP_bd (f : ByteArray → Bool × Int) (s : ByteArray) : ∀ (k : Nat) (deep : Int), ObBd s fun a l => obP f s k a deep l
  | 0, deep => fun a l d p l' _ _ h => by cases h
  | k + 1, deep => fun a l d p l' h0 h1 h => by
    have := obB_bd f (obP_bd f s k (deep - 1)) h0 h1 h
    omega
end Go.Proofs.YtckdgcpomkefpaaGreatDoor.En
end
section
set_option linter.unusedVariables false
set_option linter.unusedSimpArgs false
set_option maxRecDepth 100000
namespace Go.Proofs.YtckdgcpomkefpaaGreatDoor.En
open Go
def itemsG (f : Dat → Int → Int) : List Dat → Int → Int
  | [], n => n
  | d :: l, n => bif decide (f d n < 0) then -1 else itemsG f l (f d n)
def flatD (d : Dat) : Bool := flatB (d.at 0).toI (d.at 2).toI (d.at 1).toB (d.at 3).toS (d.at 4).toL (d.at 5).toL
def goodO : Nat → Dat → Int → Int → Int
  | 0, _, _, _ => -1
  | k + 1, d, nest, ahead => bif decide (ahead + 1 > 65536) || !flatD d then -1 else
      bif (d.at 0).toI == 6 || (d.at 0).toI == 7 then (bif decide (nest + 1 > 32) then -1 else itemsG (fun e n => goodO k e (nest + 1) n) (d.at 5).toL (ahead + 1)) else itemsG (fun e n => goodO k e nest n) (d.at 5).toL (ahead + 1)
theorem goodO_nrm (k : Nat) (d : Dat) (nest ahead : Int) : goodO k (nrm d) nest ahead = goodO k d nest ahead := by cases k <;> rfl
def okG (k : Nat) (ks l : List Dat) (nest ahead : Int) : Prop := fitO k ks l ∧ 0 ≤ nest ∧ nest ≤ 33 ∧ 0 ≤ ahead ∧ ahead ≤ 65536
noncomputable def rgoodE (k : Nat) : List AV → Bx → Option (Bool × Out)
  | [.agg [.v (.int .i64 k1), .v (.bool b1), .v (.int .i64 n1), .v (.string s1), .row none 9 ks1, .row none 43 l1], .v (.int .i64 nest), .v (.int .i64 ahead)], [none, none, none] =>
    some (decP (okG k ks1 l1 nest ahead), .ret (I (goodO k (mkO k1 n1 b1 s1 ks1 l1) nest ahead)) [none, none, none])
  | _, _ => none
noncomputable def rgoodC (k : Nat) : CallF := addF 54 (rgoodE k) (addF 93 flatE fun _ _ _ => none)
noncomputable def rgoodL (call : CallF) (m r : Nat) (k1 n1 : Int) (b1 : Bool) (s1 : ByteArray) (ks1 l1 : List Dat) (nest n i : Int) := loopF PR TK call m 54 [none, none, none] [true, true, true, true, false, true] r (sp 48 [(1, I nest), (3, .box 3 0), (7, I n), (8, I i)] [(3, obA k1 n1 b1 s1 ks1 l1)])
section
variable (call ext : CallF) (k m r : Nat) (k1 n1 : Int) (b1 : Bool) (s1 : ByteArray) (ks1 l1 : List Dat) (nest ahead n i : Int)
theorem rgood_0 : evFn PR TK (rgoodC k) m 54 [.agg (obA k1 n1 b1 s1 ks1 l1), I nest, I ahead] [none, none, none] =
    orO (decide (W (ahead + 1) > 65536)) (bif Nat.ble ks1.length 1000000 then some (!flatB k1 n1 b1 s1 ks1 l1) else none) fun t => bif t then nR (-1) else
      orK (k1 == 6) (k1 == 7) fun t => bif t then (bif decide (W (nest + 1) > 32) then nR (-1) else rgoodL (rgoodC k) m m k1 n1 b1 s1 ks1 l1 (W (nest + 1)) (W (ahead + 1)) 0) else rgoodL (rgoodC k) m m k1 n1 b1 s1 ks1 l1 nest (W (ahead + 1)) 0 := by kernel_rfl
theorem rgood_1 : rgoodL (rgoodC k) m (r + 1) k1 n1 b1 s1 ks1 l1 nest n i = bif decide (i < l1.length) then (idx l1 i).bind fun d =>
      bif decP (okG k (d.at 4).toL (d.at 5).toL nest n) then (bif decide (goodO k (nrm d) nest n < 0) then nR (-1) else rgoodL (rgoodC k) m r k1 n1 b1 s1 ks1 l1 nest (goodO k (nrm d) nest n) (W (i + 1))) else none
    else nR n := by kernel_rfl
end
theorem itemsG_bd {f : Dat → Int → Int} : ∀ (l : List Dat) (n : Int), (∀ d ∈ l, ∀ n, 0 ≤ n → n ≤ 65536 → -1 ≤ f d n ∧ f d n ≤ 65536) → 0 ≤ n → n ≤ 65536 → -1 ≤ itemsG f l n ∧ itemsG f l n ≤ 65536
  | [], n, _, h1, h2 => ⟨by unfold itemsG; omega, h2⟩
  | d :: l, n, hf, h1, h2 => by
    have := hf d (by simp) n h1 h2
    show -1 ≤ (bif decide (f d n < 0) then -1 else itemsG f l (f d n)) ∧ (bif decide (f d n < 0) then -1 else itemsG f l (f d n)) ≤ 65536
    by_cases h : f d n < 0
    · rw [decide_eq_true h]; exact ⟨by simp, by simp⟩
    · rw [decide_eq_false h]
      exact itemsG_bd l _ (fun e he => hf e (by simp [he])) (by omega) this.2
theorem goodO_bd : ∀ (k : Nat) (d : Dat) (nest ahead : Int), 0 ≤ ahead → -1 ≤ goodO k d nest ahead ∧ goodO k d nest ahead ≤ 65536
  | 0, d, nest, ahead, _ => by simp [goodO]
  | k + 1, d, nest, ahead, h0 => by
    unfold goodO
    cases hc : decide (ahead + 1 > 65536) || !flatD d
    · rw [Bool.or_eq_false_iff] at hc
      have h1 := of_decide_eq_false hc.1
      simp only [cond_false]
      cases (d.at 0).toI == 6 || (d.at 0).toI == 7
      · exact itemsG_bd _ _ (fun e he n hn _ => goodO_bd k e nest n hn) (by omega) (by omega)
      · cases decide (nest + 1 > 32)
        · exact itemsG_bd _ _ (fun e he n hn _ => goodO_bd k e (nest + 1) n hn) (by omega) (by omega)
        · exact ⟨by simp, by simp⟩
    · exact ⟨by simp, by simp⟩
theorem rgood_loop {k m : Nat} {k1 n1 : Int} {b1 : Bool} {s1 : ByteArray} {ks1 l1 : List Dat} {nest : Int} (h2 : 0 ≤ nest) (h3 : nest ≤ 33) (hl : l1.length ≤ 1000000) (hk : ∀ d ∈ l1, fitO k (d.at 4).toL (d.at 5).toL) :
    ∀ (q i r : Nat) (n : Int), i + q = l1.length → q < r → 0 ≤ n → n ≤ 65536 → rgoodL (rgoodC k) m r k1 n1 b1 s1 ks1 l1 nest n (i : Int) = nR (itemsG (fun e n => goodO k e nest n) (l1.drop i) n) := by
  intro q
  induction q with
  | zero =>
    intro i r n hi hr hn1 hn2
    cases r with
    | zero => omega
    | succ r =>
      rw [rgood_1, show decide ((i : Int) < l1.length) = false from decide_eq_false (by omega), cond_false, List.drop_eq_nil_of_le (by omega)]
      rfl
  | succ q ih =>
    intro i r n hi hr hn1 hn2
    cases r with
    | zero => omega
    | succ r =>
      have hlt : i < l1.length := by omega
      have hb := goodO_bd k l1[i] nest n hn1
      have hok : okG k (l1[i].at 4).toL (l1[i].at 5).toL nest n := ⟨hk _ (List.getElem_mem hlt), h2, h3, hn1, hn2⟩
      rw [rgood_1, show decide ((i : Int) < l1.length) = true from decide_eq_true (by omega), cond_true, idx_at hlt, Option.bind_some, decP_eq hok, cond_true, goodO_nrm, W_in (n := (i : Int) + 1) (by omega), List.drop_eq_getElem_cons hlt]
      show _ = nR (bif decide (goodO k l1[i] nest n < 0) then -1 else itemsG (fun e n => goodO k e nest n) (l1.drop (i + 1)) (goodO k l1[i] nest n))
      by_cases hneg : goodO k l1[i] nest n < 0
      · rw [decide_eq_true hneg]; rfl
      · have ih := ih (i + 1) r (goodO k l1[i] nest n) (by omega) (by omega) (by omega) hb.2
        rw [show ((i + 1 : Nat) : Int) = (i : Int) + 1 by omega] at ih
        rw [decide_eq_false hneg, cond_false, cond_false, ih]
theorem rgood_run {k m : Nat} {k1 n1 : Int} {b1 : Bool} {s1 : ByteArray} {ks1 l1 : List Dat} {nest ahead : Int} (h : okG (k + 1) ks1 l1 nest ahead) (hm : 1000000 < m) :
    evFn PR TK (rgoodC k) m 54 [.agg (obA k1 n1 b1 s1 ks1 l1), I nest, I ahead] [none, none, none] = nR (goodO (k + 1) (mkO k1 n1 b1 s1 ks1 l1) nest ahead) := by
  obtain ⟨⟨f1, f2, f3⟩, h2, h3, h4, h5⟩ := h
  rw [rgood_0, show Nat.ble ks1.length 1000000 = true from Nat.ble_eq_true_of_le f1, cond_true, orO_eq, orK_eq, W_in (n := ahead + 1) (by omega), W_in (n := nest + 1) (by omega)]
  show _ = nR (bif decide (ahead + 1 > 65536) || !flatB k1 n1 b1 s1 ks1 l1 then -1 else
      bif k1 == 6 || k1 == 7 then (bif decide (nest + 1 > 32) then -1 else itemsG (fun e n => goodO k e (nest + 1) n) l1 (ahead + 1)) else itemsG (fun e n => goodO k e nest n) l1 (ahead + 1))
  cases hc : decide (ahead + 1 > 65536) || !flatB k1 n1 b1 s1 ks1 l1
  · rw [Bool.or_eq_false_iff] at hc
    have c1 := of_decide_eq_false hc.1
    rw [cond_false, cond_false]
    cases k1 == 6 || k1 == 7
    · have e := rgood_loop (k := k) (m := m) (k1 := k1) (n1 := n1) (b1 := b1) (s1 := s1) (ks1 := ks1) h2 h3 f2 f3 l1.length 0 m (ahead + 1) (by omega) (by omega) (by omega) (by omega)
      rw [List.drop_zero, show ((0 : Nat) : Int) = 0 from rfl] at e
      rw [cond_false, cond_false, e]
    · rw [cond_true, cond_true]
      by_cases hn : nest + 1 > 32
      · rw [decide_eq_true hn]; rfl
      · have e := rgood_loop (k := k) (m := m) (k1 := k1) (n1 := n1) (b1 := b1) (s1 := s1) (ks1 := ks1) (nest := nest + 1) (by omega) (by omega) f2 f3 l1.length 0 m (ahead + 1) (by omega) (by omega) (by omega) (by omega)
        rw [List.drop_zero, show ((0 : Nat) : Int) = 0 from rfl] at e
        rw [decide_eq_false hn, cond_false, cond_false, e]
  · rfl
theorem rgood_sound : ∀ k, SoundCall PR (rgoodC k) := by
  refine sound_rec (takes := TK) hmixP (flat_sound sound_none) _ (fn := (PR.funcs[54]?).getD default) (by kernel_rfl) (by kernel_rfl) rgoodE (fun xs bs out h => ?_) (fun k xs bs out h => ?_)
  · unfold rgoodE at h
    split at h
    · injection h with h
      injection h with h _
      exact (decP_of h).1
    · cases h
  · unfold rgoodE at h
    split at h
    · injection h with h
      injection h with h1 h2
      subst h2
      exact ⟨1000001, rgood_run (decP_of h1) (by omega)⟩
    · cases h
noncomputable def countE : List AV → Bx → Option (Bool × Out)
  | [.agg [.v (.int .i64 k1), .v (.bool b1), .v (.int .i64 n1), .v (.string s1), .row none 9 ks1, .row none 43 l1]], [none] =>
    some (decP (okG 101 ks1 l1 0 0), .ret (I (goodO 101 (mkO k1 n1 b1 s1 ks1 l1) 0 0)) [none])
  | _, _ => none
theorem count_0 (m : Nat) (k1 n1 : Int) (b1 : Bool) (s1 : ByteArray) (ks1 l1 : List Dat) : evFn PR TK (rgoodC 101) m 33 [.agg (obA k1 n1 b1 s1 ks1 l1)] [none] =
  bif decP (okG 101 ks1 l1 0 0) then some (.ret (I (goodO 101 (mkO k1 n1 b1 s1 ks1 l1) 0 0)) [none]) else none := by kernel_rfl
theorem count_sound : SoundCall PR (addF 33 countE fun _ _ _ => none) := by
  refine sound_both (sound_add (takes := TK) hmixP (rgood_sound 101) _ (fn := (PR.funcs[33]?).getD default) (by kernel_rfl) (by kernel_rfl) countE fun xs bs out h => ?_) sound_none
  unfold countE at h
  split at h
  · injection h with h
    injection h with h1 h2
    subst h2
    refine ⟨1, (count_0 _ _ _ _ _ _ _).trans ?_⟩
    rw [h1]; rfl
  · cases h
noncomputable def rGoodE : List AV → Bx → Option (Bool × Out)
  | [.agg [.v (.int .i64 k1), .v (.bool b1), .v (.int .i64 n1), .v (.string s1), .row none 9 ks1, .row none 43 l1]], [none] =>
    some (decP (okG 101 ks1 l1 0 0), .ret (B (decide (goodO 101 (mkO k1 n1 b1 s1 ks1 l1) 0 0 > 0))) [none])
  | _, _ => none
theorem rGood_0 (m : Nat) (k1 n1 : Int) (b1 : Bool) (s1 : ByteArray) (ks1 l1 : List Dat) : evFn PR TK (addF 33 countE fun _ _ _ => none) m 26 [.agg (obA k1 n1 b1 s1 ks1 l1)] [none] =
  bif decP (okG 101 ks1 l1 0 0) then some (.ret (B (decide (goodO 101 (mkO k1 n1 b1 s1 ks1 l1) 0 0 > 0))) [none]) else none := by kernel_rfl
theorem rGood_sound : SoundCall PR (addF 26 rGoodE fun _ _ _ => none) := by
  refine sound_both (sound_add (takes := TK) hmixP count_sound _ (fn := (PR.funcs[26]?).getD default) (by kernel_rfl) (by kernel_rfl) rGoodE fun xs bs out h => ?_) sound_none
  unfold rGoodE at h
  split at h
  · injection h with h
    injection h with h1 h2
    subst h2
    refine ⟨1, (rGood_0 _ _ _ _ _ _ _).trans ?_⟩
    rw [h1]; rfl
  · cases h
end Go.Proofs.YtckdgcpomkefpaaGreatDoor.En
end
section
set_option linter.unusedVariables false
set_option linter.unusedSimpArgs false
namespace Go.Proofs.YtckdgcpomkefpaaGreatDoor.X
open Go.RowKit Go.WideMaps Go.Maps
def namedB (s : ByteArray) : Bool := decide (1 ≤ s.size) && (decide (s.size ≤ 127) && decide (Lib.indexByte s.data.toList 0 < 0))
set_option maxHeartbeats 1000000 in
theorem named_calls (s : ByteArray) (w : World) : Calls Tryz.prog 63 #[.string s] w fun e w' => e = .returned (.bool (namedB s)) ∧ w' = w := by
  by_cases h1 : 1 ≤ s.size
  · by_cases h2 : s.size ≤ 127
    · have e1 : decide ((1 : Int) ≤ (s.size : Int)) = true := decide_eq_true (by omega)
      have e2 : decide ((s.size : Int) ≤ 127) = true := decide_eq_true (by omega)
      have HB := Lib.hid (show namedB s = decide (Lib.indexByte s.data.toList 0 < 0) by simp [namedB, h1, h2])
      clear h1 h2
      go_enter Tryz.func63, Tryz.ntmps63
      go_wp2_with (go_at_call 95; refine (Tryz.strings_IndexByte s 0 _).mono ?_; rintro e w' ⟨rfl, rfl⟩)
      go_ret
      exact ⟨by rw [HB.out]; rfl, rfl⟩
    · have e1 : decide ((1 : Int) ≤ (s.size : Int)) = true := decide_eq_true (by omega)
      have e2 : decide ((s.size : Int) ≤ 127) = false := decide_eq_false (by omega)
      have HB := Lib.hid (show namedB s = false by simp [namedB, h2])
      clear h1 h2
      go_enter Tryz.func63, Tryz.ntmps63
      go_wp2
      go_ret
      exact ⟨by rw [HB.out]; rfl, rfl⟩
  · have e1 : decide ((1 : Int) ≤ (s.size : Int)) = false := decide_eq_false (by omega)
    have HB := Lib.hid (show namedB s = false by simp [namedB, h1])
    clear h1
    go_enter Tryz.func63, Tryz.ntmps63
    go_wp2
    go_ret
    exact ⟨by rw [HB.out]; rfl, rfl⟩
theorem law : Keyed Tryz.prog 9 := string_keyed Tryz.underlying9
theorem zeroI (w : World) : (zeroValue 3).run Tryz.prog w = .ok (.int .i64 0) w := by kernel_rfl
def kl (b : List UInt8) : Lit := .string b
theorem kl_ne {a b : List UInt8} (h : a ≠ b) : kl a ≠ kl b := by
  intro e
  unfold kl at e
  injection e with e
  exact h e
theorem isKey (b : List UInt8) : WideAt.IsKeyLit (kl b) := by
  unfold kl
  simp [WideAt.IsKeyLit]
def i64 {H : Type} (n : Int) : DataW H := .lit (.int .i64 n)
def keysOf (l : List ByteArray) : List (List UInt8) := l.map (·.data.toList)
def Met (W : World) (l : List ByteArray) (j : Nat) (w : World) : Prop :=
  ∃ D : DataW Unit, w.ownsMap Tryz.prog 9 (plainElem Tryz.prog 3) W.heap.size j D ∧ IsMap D ∧ ∀ b : List UInt8, D.atKey (kl b) (i64 0) = i64 (if b ∈ (keysOf l).take j then 1 else 0)
def keyedB (l : List ByteArray) : Bool := l.all namedB && decide (keysOf l).Nodup
set_option maxHeartbeats 4000000 in
set_option maxRecDepth 100000 in
theorem keyed_calls (A : Option Addr) (c : Nat) (l : List ByteArray) (w : World) (hcs : ∀ i (hi : i < l.length), ∃ ad, A = some ad ∧ w.cell? (ad.add i) = some (.string l[i])) (hsz : ∀ s ∈ l, s.size ≤ maxLen) (hn : l.length ≤ 140737488355328) :
    Calls Tryz.prog 65 #[.slice A l.length c] w fun e w' => e = .returned (.bool (keyedB l)) ∧ Below w.heap.size w w' := by
  have HC := Lib.hid hcs
  have HS := Lib.hid hsz
  have HN := Lib.hid hn
  clear hcs hsz hn
  have hmm := @run_makeMap Tryz.prog
  go_enter Tryz.func65, Tryz.ntmps65
  go_wp2
  go_loopw [9] (fun iv wr => ∃ j : Nat, j ≤ l.length ∧ iv = .int .i64 j ∧ Hid (Met w l j wr) ∧ Hid (Below w.heap.size w wr) ∧ Hid ((l.take j).all namedB = true ∧ (keysOf (l.take j)).Nodup)) (fun iv _ => l.length - (intOf iv).toNat)
  case atStart =>
    refine ⟨0, by omega, rfl, Lib.hid ⟨.map [], World.ownsMap_made _ _ _ _, isMap_empty, fun b => ?_⟩, Lib.hid ((Below.refl _ _).alloc (Nat.le_refl _) _), Lib.hid (by simp [keysOf])⟩
    rw [if_neg (by simp)]
    exact atKey_of_not_has rfl _
  case round =>
    obtain ⟨j, hj, rfl, HM, HB, HD⟩ := hrel
    by_cases hlt : j < l.length
    · obtain ⟨ad, rfl, hx0⟩ := HC.out j hlt
      have hx : wr.cell? (ad.add j) = some (.string l[j]) := (HB.out.cell (World.block_lt_of_cell? w _ hx0)).trans hx0
      clear hx0
      have HSJ := Lib.hid (HS.out l[j] (List.getElem_mem hlt))
      have HK : Hid ((l.take (j + 1)) = l.take j ++ [l[j]]) := Lib.hid (List.take_succ_eq_append_getElem hlt)
      have HNO : Hid (namedB l[j] = false → keyedB l = false) := Lib.hid (fun h => by
        have : l.all namedB = false := by
          rw [List.all_eq_false]
          exact ⟨l[j], List.getElem_mem hlt, by simp [h]⟩
        simp [keyedB, this])
      have HTW : Hid (l[j].data.toList ∈ (keysOf l).take j → keyedB l = false) := Lib.hid (fun h => by
        have hnd : ¬ (keysOf l).Nodup := by
          intro hn
          rw [← List.take_append_drop j (keysOf l)] at hn
          have h2 := (List.nodup_append.1 hn).2.2 _ h (l[j].data.toList)
          refine h2 ?_ rfl
          have hj2 : j < (keysOf l).length := by simpa [keysOf] using hlt
          rw [List.drop_eq_getElem_cons hj2]
          simp [keysOf]
        simp [keyedB, hnd])
      obtain ⟨s, hs⟩ : ∃ s, s = l[j] := ⟨_, rfl⟩
      rw [← hs] at hx HSJ HK HNO HTW
      have HSE := Lib.hid hs
      clear hs
      obtain ⟨D, hown, hmap, hat⟩ := HM.out
      have HAT := Lib.hid hat
      have HMAP := Lib.hid hmap
      clear hat hmap HM
      have hkey : keyOf Tryz.prog 9 (.string s) = some (kl s.data.toList) := keyOf_string_mk Tryz.underlying9 HSJ.out
      obtain ⟨c2, hrun, hat, _⟩ := hown.lookup_int law Tryz.underlying117 Tryz.underlying3 (zeroI _) hkey
      have hc2 : c2 = if s.data.toList ∈ (keysOf l).take j then 1 else 0 := by
        have h1 := HAT.out s.data.toList
        have h2 : (i64 c2 : DataW Unit) = i64 (if s.data.toList ∈ (keysOf l).take j then 1 else 0) := hat.symm.trans h1
        unfold i64 at h2
        injection h2 with h2
        injection h2 with h2
      clear hat
      by_cases hnm : namedB s = true
      · have HNM := Lib.hid hnm
        clear hnm
        by_cases hin : s.data.toList ∈ (keysOf l).take j
        · rw [if_pos hin] at hc2
          subst hc2
          have HF := Lib.hid (HTW.out hin)
          clear hin
          go_wp2_with (go_at_call 63; refine ((named_calls s _).mono (fun e w' h => (⟨by rw [h.1, HNM.out], h.2⟩ : e = .returned (.bool true) ∧ w' = _))).mono ?_; rintro e w' ⟨rfl, hw⟩; rw [hw]; clear hw w')
          go_ret
          exact ⟨by rw [HF.out]; rfl, HB.out⟩
        · rw [if_neg hin] at hc2
          subst hc2
          have HF := Lib.hid hin
          clear hin
          have HLT := Lib.hid hlt
          go_wp2_with (first
            | (go_at_call 63; refine ((named_calls s _).mono (fun e w' h => (⟨by rw [h.1, HNM.out], h.2⟩ : e = .returned (.bool true) ∧ w' = _))).mono ?_; rintro e w' ⟨rfl, hw⟩; rw [hw]; clear hw w')
            | (at_mapUpdate; refine wpList_mapUpdate_own _ rfl _ _ _ 117 rfl 9 3 law Tryz.underlying117 _ w.heap.size j _ rfl hown (by have := HN.out; unfold maxLen; omega) _ _ _ rfl rfl hkey _ [] (plainElem_int Tryz.underlying3 (by decide)) ?_; intro w1 hown1 hgrow1))
          have hw1 : wrap64 ((j : Int) + 1) = ((j + 1 : Nat) : Int) := by have := HN.out; unfold wrap64; omega
          have hk1 : keysOf (l.take (j + 1)) = (keysOf l).take j ++ [s.data.toList] := by
            rw [HK.out]; simp [keysOf]
          have hk2 : (keysOf l).take (j + 1) = (keysOf l).take j ++ [s.data.toList] := by
            rw [← hk1]; simp [keysOf]
          have hkt : keysOf (l.take j) = (keysOf l).take j := by simp [keysOf]
          refine ⟨⟨j + 1, HLT.out, by rw [hw1], Lib.hid ⟨_, hown1, HMAP.out.put _ _, fun b => ?_⟩, Lib.hid (HB.out.grown hgrow1 HB.out.size (fun q hq => by cases hq; exact Nat.le_refl _)), Lib.hid ⟨?_, ?_⟩⟩, by have := HLT.out; rw [hw1]; simp only [intOf]; omega⟩
          · rw [hk2]
            by_cases hb : b = s.data.toList
            · subst hb
              rw [if_pos (by simp)]
              exact atKey_put_same HMAP.out (isKey _) _ _
            · rw [atKey_put_other (kl_ne hb), HAT.out b]
              simp [hb]
          · rw [HK.out, List.all_append, HD.out.1]
            simp [HNM.out]
          · rw [hk1, List.nodup_append]
            refine ⟨by rw [← hkt]; exact HD.out.2, by simp, ?_⟩
            intro a ha q hq e
            simp at hq
            rw [e, hq] at ha
            exact HF.out ha
      · have HNM := Lib.hid (by simpa using hnm : namedB s = false)
        clear hnm hc2
        go_wp2_with (go_at_call 63; refine ((named_calls s _).mono (fun e w' h => (⟨by rw [h.1, HNM.out], h.2⟩ : e = .returned (.bool false) ∧ w' = _))).mono ?_; rintro e w' ⟨rfl, hw⟩; rw [hw]; clear hw w')
        go_ret
        exact ⟨by rw [HNO.out HNM.out]; rfl, HB.out⟩
    · have hje : j = l.length := by omega
      subst hje
      have hd := HD.out
      rw [List.take_length] at hd
      have HD2 := Lib.hid hd
      clear hd
      go_wp2
      go_ret
      exact ⟨by have := HD2.out; simp [keyedB, this.1, this.2], HB.out⟩
end Go.Proofs.YtckdgcpomkefpaaGreatDoor.X
end
section
set_option linter.unusedVariables false
set_option linter.unusedSimpArgs false
set_option maxRecDepth 100000
namespace Go.Proofs.YtckdgcpomkefpaaGreatDoor.En
open Go
def strsOf (ks : List Dat) : List ByteArray := ks.map fun d => (d.at 0).toS
def okK (ks : List Dat) : Prop := ks.length ≤ 1000000 ∧ ∀ d ∈ ks, (d.at 0).toS.size ≤ maxLen
noncomputable def keyedE : List AV → Bx → Option (Bool × Out)
  | [.row none 9 ks], [none] => some (decP (okK ks), .ret (B (keysR [] ks)) [none])
  | _, _ => none
theorem keysR_eq : ∀ (r pre : List Dat), keysR pre r = (r.all (fun d => namedB (d.at 0).toS) && decide ((X.keysOf (strsOf r)).Nodup ∧ ∀ d ∈ r, ∀ e ∈ pre, (e.at 0).toS.data.toList ≠ (d.at 0).toS.data.toList))
  | [], pre => by simp [keysR, X.keysOf, strsOf]
  | d :: r, pre => by
    rw [keysR, keysR_eq r (pre ++ [d]), List.all_cons]
    have e1 : (pre.any fun e => eqK e d) = decide (∃ e ∈ pre, (e.at 0).toS.data.toList = (d.at 0).toS.data.toList) := by
      rw [Bool.eq_iff_iff, List.any_eq_true, decide_eq_true_eq]
      refine ⟨fun ⟨e, he, h⟩ => ⟨e, he, ?_⟩, fun ⟨e, he, h⟩ => ⟨e, he, ?_⟩⟩
      · have : ((e.at 0).toS.toList == (d.at 0).toS.toList) = true := h
        have h2 := eq_of_beq this
        rwa [Go.ByteArray.toList_eq, Go.ByteArray.toList_eq] at h2
      · show ((e.at 0).toS.toList == (d.at 0).toS.toList) = true
        rw [Go.ByteArray.toList_eq, Go.ByteArray.toList_eq, h]; simp
    rw [e1]
    cases namedB (d.at 0).toS
    · rfl
    · rw [Bool.true_and, Bool.true_and]
      cases r.all (fun d => namedB (d.at 0).toS)
      · simp
      · rw [Bool.true_and, Bool.true_and, Bool.eq_iff_iff]
        simp only [Bool.and_eq_true, Bool.not_eq_true', decide_eq_true_eq, decide_eq_false_iff_not]
        have hk : X.keysOf (strsOf (d :: r)) = (d.at 0).toS.data.toList :: X.keysOf (strsOf r) := rfl
        rw [hk, List.nodup_cons]
        have hm : (d.at 0).toS.data.toList ∈ X.keysOf (strsOf r) ↔ ∃ e ∈ r, (e.at 0).toS.data.toList = (d.at 0).toS.data.toList := by
          simp [X.keysOf, strsOf]
        rw [hm]
        constructor
        · rintro ⟨h1, h2, h3⟩
          refine ⟨⟨fun ⟨e, he, hx⟩ => h3 e he d (by simp) hx.symm, h2⟩, fun e he x hx => ?_⟩
          rcases List.mem_cons.1 he with rfl | he
          · exact fun hh => h1 ⟨x, hx, hh⟩
          · exact h3 e he x (by simp [hx])
        · rintro ⟨⟨h1, h2⟩, h3⟩
          refine ⟨fun ⟨e, he, hx⟩ => h3 d (by simp) e he hx, h2, fun e he x hx => ?_⟩
          rcases List.mem_append.1 hx with hx | hx
          · exact h3 e (by simp [he]) x hx
          · rw [List.mem_singleton.1 hx]
            exact fun hh => h1 ⟨e, he, hh.symm⟩
theorem keyed_eq (ks : List Dat) : X.keyedB (strsOf ks) = keysR [] ks := by
  rw [keysR_eq]
  unfold X.keyedB
  have : (strsOf ks).all X.namedB = ks.all fun d => namedB (d.at 0).toS := by
    unfold strsOf
    rw [List.all_map]; rfl
  rw [this]
  congr 1
  simp
theorem keyed_sound {ext : CallF} (hext : SoundCall PR ext) : SoundCall PR (addF 65 keyedE ext) := by
  refine sound_ext hext _ (fn := (PR.funcs[65]?).getD default) (by kernel_rfl) (by kernel_rfl) keyedE fun xs bs out h g w vs hm hL hl hv hr => ?_
  unfold keyedE at h
  split at h
  · rename_i ks
    injection h with h
    injection h with hc h
    subst h
    obtain ⟨h1, h2⟩ := decP_of hc
    obtain ⟨v, hv0, hrow, _⟩ := hr 0 _ rfl
    obtain ⟨A, cap, rfl⟩ := hrow.slice
    have hvs : vs = #[.slice A ks.length cap] := by
      apply Array.ext_getElem?
      intro i
      match i with
      | 0 => exact hv0
      | i + 1 => rw [Array.getElem?_eq_none (by simp at hv; omega), Array.getElem?_eq_none (by simp)]
    subst hvs
    have hlen : (strsOf ks).length = ks.length := by simp [strsOf]
    have hc := X.keyed_calls A cap (strsOf ks) w (fun i hi => ?_) (fun s hs => ?_) (by omega)
    · rw [hlen] at hc
      refine hc.mono fun e w' he => ?_
      obtain ⟨rfl, hb⟩ := he
      rw [keyed_eq]
      exact post_v hm (by simp) rfl (Fr.of_below hb (Nat.le_refl _))
    · have hi' : i < ks.length := by omega
      cases hrow with
      | nil => simp at hi'
      | mk _ _ β off _ ks' vals hk hlen hcc hss hrr =>
        have hk' : kinds PR 9 = some [.str] := by kernel_rfl
        rw [hk'] at hk
        cases hk
        obtain ⟨c1, c2, c3⟩ := hcc i 0 hi' (by simp)
        have hsc : vals i 0 = .string (ks[i].at 0).toS := hss i 0 ks[i] .str (List.getElem?_eq_getElem hi') rfl
        refine ⟨⟨β, off, none⟩, rfl, ?_⟩
        rw [hsc] at c2
        have e : (⟨β, off, none⟩ : Addr).add i = ⟨β, off + i, none⟩ := by
          by_cases hj : i = 0
          · subst hj; simp [Addr.add]
          · simp [Addr.add, hj]
        rw [e]
        simpa [strsOf] using c2
    · obtain ⟨d, hd, rfl⟩ := List.mem_map.1 hs
      exact h2 d hd
  · cases h
def ogI (f : Dat → Int → Int → Bool × Int) (deep : Int) : List Dat → Int → Bool × Int
  | [], left => (true, left)
  | d :: l, left => bif !(f d (deep - 1) left).1 then (false, (f d (deep - 1) left).2) else ogI f deep l (f d (deep - 1) left).2
def allO (f : Dat → Int → Int → Bool × Int) (l : List Dat) (deep left : Int) : Bool × Int := bif decide (deep < 1) then (false, left) else ogI f deep l left
def sm (k : Nat) (n : Int) (b : Bool) (s : ByteArray) (ks l : List Dat) : Bool := sameO k (mkO 0 n b s ks l) (mkO 0 0 false ⟨#[]⟩ [] [])
def ogS (k : Nat) (f : Dat → Int → Int → Bool × Int) (k1 n1 : Int) (b1 : Bool) (s1 : ByteArray) (ks1 l1 : List Dat) (deep left : Int) : Bool × Int :=
  bif k1 == 0 then (sm k n1 b1 s1 ks1 l1, left) else bif k1 == 1 then (sm k n1 false s1 ks1 l1, left) else
  bif k1 == 2 then (inB n1 && sm k 0 b1 s1 ks1 l1, left) else bif k1 == 3 then ((inB n1 && (n1.tmod 65536) != 0) && sm k 0 b1 s1 ks1 l1, left) else
  bif k1 == 4 then (namedB s1 && sm k n1 b1 ⟨#[]⟩ ks1 l1, left) else bif k1 == 5 then (decide ((s1.size : Int) ≤ 65536) && sm k n1 b1 ⟨#[]⟩ ks1 l1, left) else
  bif k1 == 6 then ((allO f l1 deep left).1 && sm k n1 b1 s1 ks1 [], (allO f l1 deep left).2) else
  bif k1 == 7 then (bif keysR [] ks1 && ((ks1.length : Int) == l1.length) then ((allO f l1 deep left).1 && sm k n1 b1 s1 [] [], (allO f l1 deep left).2) else (false, left)) else
  bif k1 == 8 then ((decide (1 ≤ n1) && decide (n1 ≤ 4096)) && sm k 0 b1 s1 ks1 l1, left) else (false, left)
def ogO : Nat → Dat → Int → Int → Bool × Int
  | 0, _, _, left => (false, left)
  | k + 1, d, deep, left => bif decide (left - 1 < 0) then (false, left - 1) else ogS (k + 1) (ogO k) (d.at 0).toI (d.at 2).toI (d.at 1).toB (d.at 3).toS (d.at 4).toL (d.at 5).toL deep (left - 1)
theorem ogO_nrm (k : Nat) (d : Dat) (deep left : Int) : ogO k (nrm d) deep left = ogO k d deep left := by cases k <;> rfl
def keyZ : Nat → List Dat → List Dat → Prop
  | 0, _, _ => True
  | k + 1, ks, l => (∀ d ∈ ks, (d.at 0).toS.size ≤ maxLen) ∧ ∀ d ∈ l, keyZ k (d.at 4).toL (d.at 5).toL
def okO' (k : Nat) (ks l : List Dat) (deep left : Int) : Prop := fitO k ks l ∧ keyZ k ks l ∧ 0 ≤ deep ∧ deep ≤ 32 ∧ 0 ≤ left ∧ left ≤ 65536
def okA (k : Nat) (l : List Dat) (deep left : Int) : Prop := (l.length ≤ 1000000 ∧ (∀ d ∈ l, fitO k (d.at 4).toL (d.at 5).toL) ∧ ∀ d ∈ l, keyZ k (d.at 4).toL (d.at 5).toL) ∧ 0 ≤ deep ∧ deep ≤ 32 ∧ 0 ≤ left ∧ left ≤ 65536
def aR (b : Bool) (left : Int) : Option Out := some (.ret (B b) [none, none, some [I left]])
noncomputable def ogE (k : Nat) : List AV → Bx → Option (Bool × Out)
  | [.agg [.v (.int .i64 k1), .v (.bool b1), .v (.int .i64 n1), .v (.string s1), .row none 9 ks1, .row none 43 l1], .v (.int .i64 deep), .box 2 0], [none, none, some [.v (.int .i64 left)]] =>
    some (decP (okO' k ks1 l1 deep left), .ret (B (ogO k (mkO k1 n1 b1 s1 ks1 l1) deep left).1) [none, none, some [I (ogO k (mkO k1 n1 b1 s1 ks1 l1) deep left).2]])
  | _, _ => none
noncomputable def allE (k : Nat) : List AV → Bx → Option (Bool × Out)
  | [.row none 43 l1, .v (.int .i64 deep), .box 2 0], [none, none, some [.v (.int .i64 left)]] =>
    some (decP (okA k l1 deep left), .ret (B (allO (ogO k) l1 deep left).1) [none, none, some [I (allO (ogO k) l1 deep left).2]])
  | _, _ => none
noncomputable def ogC (k : Nat) : CallF := addF 44 (ogE k) fun _ _ _ => none
noncomputable def ogC2 (k : Nat) : CallF := addF 64 (allE k) (addF 27 (sameE (k + 1)) (addF 65 keyedE (addF 63 namedE (addF 62 inE fun _ _ _ => none))))
noncomputable def allL (call : CallF) (m r : Nat) (l1 : List Dat) (deep left i : Int) := loopF PR TK call m 64 [none, none, some [I left]] [true, true, false, true] r (sp 24 [(1, I deep), (2, .box 2 0), (11, .row none 43 l1), (12, I l1.length), (13, I i)] [(2, [I left])])
section
variable (k m r : Nat) (k1 n1 : Int) (b1 : Bool) (s1 : ByteArray) (ks1 l1 : List Dat) (deep left left0 i : Int)
theorem all_0 : evFn PR TK (ogC k) m 64 [.row none 43 l1, I deep, .box 2 0] [none, none, some [I left]] =
    bif decide (deep < 1) then aR false left else allL (ogC k) m m l1 deep left 0 := by kernel_rfl
theorem all_1 : allL (ogC k) m (r + 1) l1 deep left i = bif decide (i < l1.length) then (idx l1 i).bind fun d =>
      bif decP (okO' k (d.at 4).toL (d.at 5).toL (W (deep - 1)) left) then (bif !(ogO k (nrm d) (W (deep - 1)) left).1 then aR false (ogO k (nrm d) (W (deep - 1)) left).2 else allL (ogC k) m r l1 deep (ogO k (nrm d) (W (deep - 1)) left).2 (W (i + 1))) else none
    else aR true left := by kernel_rfl
end
end Go.Proofs.YtckdgcpomkefpaaGreatDoor.En
end
section
set_option linter.unusedVariables false
set_option linter.unusedSimpArgs false
set_option maxRecDepth 100000
namespace Go.Proofs.YtckdgcpomkefpaaGreatDoor.En
open Go
noncomputable def finR (k : Nat) (ok : Bool) (left n1 : Int) (b1 : Bool) (s1 : ByteArray) (ks1 l1 : List Dat) : Option Out :=
  (bif ok then (bif fitB (k + 1) ks1 l1 then some (sm (k + 1) n1 b1 s1 ks1 l1) else none) else some false).bind fun t => aR t left
noncomputable def goodK (k : Nat) (k1 n1 : Int) (b1 : Bool) (s1 : ByteArray) (ks1 l1 : List Dat) (deep left : Int) : Option Out :=
  bif k1 == 0 then finR k true left n1 b1 s1 ks1 l1 else bif k1 == 1 then finR k true left n1 false s1 ks1 l1 else
  bif k1 == 2 then finR k (inB n1) left 0 b1 s1 ks1 l1 else bif k1 == 3 then andK (inB n1) ((n1.tmod 65536) != 0) fun t => finR k t left 0 b1 s1 ks1 l1 else
  bif k1 == 4 then finR k (namedB s1) left n1 b1 ⟨#[]⟩ ks1 l1 else bif k1 == 5 then finR k (decide ((s1.size : Int) ≤ 65536)) left n1 b1 ⟨#[]⟩ ks1 l1 else
  bif k1 == 6 then (bif decP (okA k l1 deep left) then finR k (allO (ogO k) l1 deep left).1 (allO (ogO k) l1 deep left).2 n1 b1 s1 ks1 [] else none) else
  bif k1 == 7 then (bif decP (okK ks1) then andK (keysR [] ks1) ((ks1.length : Int) == l1.length) fun t => bif (t == true) then (bif decP (okA k l1 deep left) then finR k (allO (ogO k) l1 deep left).1 (allO (ogO k) l1 deep left).2 n1 b1 s1 [] [] else none) else finR k false left n1 b1 s1 [] [] else none) else
  bif k1 == 8 then andK (decide (1 ≤ n1)) (decide (n1 ≤ 4096)) fun t => finR k t left 0 b1 s1 ks1 l1 else aR false left
theorem good_0 (k m : Nat) (k1 n1 : Int) (b1 : Bool) (s1 : ByteArray) (ks1 l1 : List Dat) (deep left : Int) : evFn PR TK (ogC2 k) m 44 [.agg (obA k1 n1 b1 s1 ks1 l1), I deep, .box 2 0] [none, none, some [I left]] =
    bif decide (W (left - 1) < 0) then aR false (W (left - 1)) else goodK k k1 n1 b1 s1 ks1 l1 deep (W (left - 1)) := by kernel_rfl
theorem sound_le0 {f : FuncId} {ent : List AV → Bx → Option (Bool × Out)} (h : ∀ xs bs out, ent xs bs = some (true, out) → False) : SoundCall PR (addF f ent fun _ _ _ => none) := fun g xs bs out ho => by
  unfold addF at ho
  cases hg : Nat.beq g f <;> rw [hg] at ho <;> simp only [cond_true, cond_false] at ho
  · cases ho
  · exact (h _ _ _ ho).elim
theorem ogI_bd {f : Dat → Int → Int → Bool × Int} (hf : ∀ d deep left, 0 ≤ left → (f d deep left).1 = true → 0 ≤ (f d deep left).2 ∧ (f d deep left).2 ≤ left) (deep : Int) : ∀ (l : List Dat) (left : Int), 0 ≤ left → (ogI f deep l left).1 = true → 0 ≤ (ogI f deep l left).2 ∧ (ogI f deep l left).2 ≤ left
  | [], left, h0, _ => ⟨h0, Int.le_refl _⟩
  | d :: l, left, h0, h => by
    unfold ogI at h ⊢
    cases hq : (f d (deep - 1) left).1
    · rw [hq] at h; cases h
    · rw [hq, Bool.not_true, cond_false] at h
      rw [Bool.not_true, cond_false]
      have h1 := hf d (deep - 1) left h0 hq
      have h2 := ogI_bd hf deep l _ h1.1 h
      omega
theorem allO_bd {f : Dat → Int → Int → Bool × Int} (hf : ∀ d deep left, 0 ≤ left → (f d deep left).1 = true → 0 ≤ (f d deep left).2 ∧ (f d deep left).2 ≤ left) (l : List Dat) (deep left : Int) (h0 : 0 ≤ left) (h : (allO f l deep left).1 = true) : 0 ≤ (allO f l deep left).2 ∧ (allO f l deep left).2 ≤ left := by
  unfold allO at h ⊢
  cases hd : decide (deep < 1)
  · rw [hd] at h; exact ogI_bd hf deep l left h0 h
  · rw [hd] at h; cases h
theorem ogO_bd : ∀ (k : Nat) (d : Dat) (deep left : Int), 0 ≤ left → (ogO k d deep left).1 = true → 0 ≤ (ogO k d deep left).2 ∧ (ogO k d deep left).2 ≤ left
  | 0, d, deep, left, _, h => by cases h
  | k + 1, d, deep, left, h0, h => by
    unfold ogO at h ⊢
    cases hc : decide (left - 1 < 0)
    · rw [hc, cond_false] at h
      rw [cond_false]
      have h1 : 0 ≤ left - 1 := by have := of_decide_eq_false hc; omega
      have key : ∀ (x : Bool × Int), (x.1 = true → 0 ≤ x.2 ∧ x.2 ≤ left - 1) → x.1 = true → 0 ≤ x.2 ∧ x.2 ≤ left := fun x hx hx1 => by have := hx hx1; omega
      refine key _ (fun h => ?_) h
      have pl : ∀ (b : Bool), (b, left - 1).1 = true → 0 ≤ (b, left - 1).2 ∧ (b, left - 1).2 ≤ left - 1 := fun b _ => ⟨h1, Int.le_refl _⟩
      have al : ∀ (b : Bool) (l : List Dat), (((allO (ogO k) l deep (left - 1)).1 && b, (allO (ogO k) l deep (left - 1)).2) : Bool × Int).1 = true → 0 ≤ (((allO (ogO k) l deep (left - 1)).1 && b, (allO (ogO k) l deep (left - 1)).2) : Bool × Int).2 ∧ (((allO (ogO k) l deep (left - 1)).1 && b, (allO (ogO k) l deep (left - 1)).2) : Bool × Int).2 ≤ left - 1 := fun b l hb => by
        have hb' : ((allO (ogO k) l deep (left - 1)).1 && b) = true := hb
        rw [Bool.and_eq_true] at hb'
        exact allO_bd (fun d deep left => ogO_bd k d deep left) l deep (left - 1) h1 hb'.1
      unfold ogS at h ⊢
      revert h
      generalize (d.at 0).toI = k1
      cases k1 == 0
      · cases k1 == 1
        · cases k1 == 2
          · cases k1 == 3
            · cases k1 == 4
              · cases k1 == 5
                · cases k1 == 6
                  · cases k1 == 7
                    · cases k1 == 8
                      · intro h; cases h
                      · exact pl _
                    · cases keysR [] (d.at 4).toL && (((d.at 4).toL.length : Int) == (d.at 5).toL.length)
                      · intro h; cases h
                      · exact al _ _
                  · exact al _ _
                · exact pl _
              · exact pl _
            · exact pl _
          · exact pl _
        · exact pl _
      · exact pl _
    · rw [hc] at h; cases h
theorem all_loop {k m : Nat} {l1 : List Dat} {deep : Int} (hd1 : 1 ≤ deep) (hd2 : deep ≤ 32) (hl : l1.length ≤ 1000000) (hk : ∀ d ∈ l1, fitO k (d.at 4).toL (d.at 5).toL) (hz : ∀ d ∈ l1, keyZ k (d.at 4).toL (d.at 5).toL) :
    ∀ (q i r : Nat) (left : Int), i + q = l1.length → q < r → 0 ≤ left → left ≤ 65536 → allL (ogC k) m r l1 deep left (i : Int) = aR (ogI (ogO k) deep (l1.drop i) left).1 (ogI (ogO k) deep (l1.drop i) left).2 := by
  intro q
  induction q with
  | zero =>
    intro i r left hi hr h1 h2
    cases r with
    | zero => omega
    | succ r =>
      rw [all_1, show decide ((i : Int) < l1.length) = false from decide_eq_false (by omega), cond_false, List.drop_eq_nil_of_le (by omega)]
      rfl
  | succ q ih =>
    intro i r left hi hr h1 h2
    cases r with
    | zero => omega
    | succ r =>
      have hlt : i < l1.length := by omega
      have hm := List.getElem_mem hlt
      have hok : okO' k (l1[i].at 4).toL (l1[i].at 5).toL (deep - 1) left := ⟨hk _ hm, hz _ hm, by omega, by omega, h1, h2⟩
      rw [all_1, show decide ((i : Int) < l1.length) = true from decide_eq_true (by omega), cond_true, idx_at hlt, Option.bind_some, W_in (n := deep - 1) (by omega), decP_eq hok, cond_true, ogO_nrm, W_in (n := (i : Int) + 1) (by omega), List.drop_eq_getElem_cons hlt]
      unfold ogI
      cases hq : (ogO k l1[i] (deep - 1) left).1
      · rfl
      · have hb := ogO_bd k l1[i] (deep - 1) left h1 hq
        have ih := ih (i + 1) r (ogO k l1[i] (deep - 1) left).2 (by omega) (by omega) hb.1 (by omega)
        rw [show ((i + 1 : Nat) : Int) = (i : Int) + 1 by omega] at ih
        rw [Bool.not_true, cond_false, cond_false, ih]
theorem all_run {k m : Nat} {l1 : List Dat} {deep left : Int} (h : okA k l1 deep left) (hm : 1000000 < m) :
    evFn PR TK (ogC k) m 64 [.row none 43 l1, I deep, .box 2 0] [none, none, some [I left]] = aR (allO (ogO k) l1 deep left).1 (allO (ogO k) l1 deep left).2 := by
  obtain ⟨⟨h1, h2, h3⟩, h4, h5, h6, h7⟩ := h
  rw [all_0]
  unfold allO
  by_cases hd : deep < 1
  · rw [decide_eq_true hd]; rfl
  · have e := all_loop (k := k) (m := m) (deep := deep) (by omega) h5 h1 h2 h3 l1.length 0 m left (by omega) (by omega) h6 h7
    rw [List.drop_zero, show ((0 : Nat) : Int) = 0 from rfl] at e
    rw [decide_eq_false hd, cond_false, cond_false, e]
theorem finR_eq {k : Nat} {ks1 l1 : List Dat} (h : fitO (k + 1) ks1 l1) (ok : Bool) (left n1 : Int) (b1 : Bool) (s1 : ByteArray) : finR k ok left n1 b1 s1 ks1 l1 = aR (ok && sm (k + 1) n1 b1 s1 ks1 l1) left := by
  unfold finR
  rw [fitB_eq h]
  cases ok <;> rfl
theorem good_run {k m : Nat} {k1 n1 : Int} {b1 : Bool} {s1 : ByteArray} {ks1 l1 : List Dat} {deep left : Int} (h : okO' (k + 1) ks1 l1 deep left) :
    evFn PR TK (ogC2 k) m 44 [.agg (obA k1 n1 b1 s1 ks1 l1), I deep, .box 2 0] [none, none, some [I left]] = aR (ogO (k + 1) (mkO k1 n1 b1 s1 ks1 l1) deep left).1 (ogO (k + 1) (mkO k1 n1 b1 s1 ks1 l1) deep left).2 := by
  obtain ⟨hfit, ⟨z1, z2⟩, h3, h4, h5, h6⟩ := h
  have hfit' := hfit
  obtain ⟨f1, f2, f3⟩ := hfit'
  have hfa : fitO (k + 1) ks1 [] := ⟨f1, by simp, fun d hd => by cases hd⟩
  have hfb : fitO (k + 1) [] [] := ⟨by simp, by simp, fun d hd => by cases hd⟩
  rw [good_0, W_in (n := left - 1) (by omega)]
  show _ = aR (bif decide (left - 1 < 0) then (false, left - 1) else ogS (k + 1) (ogO k) k1 n1 b1 s1 ks1 l1 deep (left - 1)).1 (bif decide (left - 1 < 0) then (false, left - 1) else ogS (k + 1) (ogO k) k1 n1 b1 s1 ks1 l1 deep (left - 1)).2
  by_cases hl : left - 1 < 0
  · rw [decide_eq_true hl]; rfl
  · have hA : okA k l1 deep (left - 1) := ⟨⟨f2, f3, z2⟩, h3, h4, by omega, by omega⟩
    have hK : okK ks1 := ⟨f1, z1⟩
    rw [decide_eq_false hl, cond_false, cond_false]
    unfold goodK ogS
    rw [decP_eq hA, decP_eq hK]
    simp only [andK_eq, finR_eq hfit, finR_eq hfa, finR_eq hfb, cond_true]
    cases k1 == 0
    · cases k1 == 1
      · cases k1 == 2
        · cases k1 == 3
          · cases k1 == 4
            · cases k1 == 5
              · cases k1 == 6
                · cases k1 == 7
                  · cases k1 == 8 <;> rfl
                  · cases keysR [] ks1 && ((ks1.length : Int) == l1.length) <;> rfl
                · rfl
              · rfl
            · rfl
          · rfl
        · rfl
      · rfl
    · rfl
theorem og_sound : ∀ k, SoundCall PR (ogC k)
  | 0 => sound_both (sound_le0 fun xs bs out h => by
      unfold ogE at h
      split at h
      · injection h with h
        injection h with h _
        exact (decP_of h).1
      · cases h) sound_none
  | k + 1 => by
    have ih := og_sound k
    have hall : SoundCall PR (addF 64 (allE k) (ogC k)) := sound_add (takes := TK) hmixP ih _ (fn := (PR.funcs[64]?).getD default) (by kernel_rfl) (by kernel_rfl) (allE k) fun xs bs out h => by
      unfold allE at h
      split at h
      · injection h with h
        injection h with h1 h2
        subst h2
        exact ⟨1000001, all_run (decP_of h1) (by omega)⟩
      · cases h
    have h2 : SoundCall PR (ogC2 k) := sound_both hall (osame_sound (keyed_sound (named_sound (in_sound sound_none))) (k + 1))
    refine sound_both (sound_add (takes := TK) hmixP h2 _ (fn := (PR.funcs[44]?).getD default) (by kernel_rfl) (by kernel_rfl) (ogE (k + 1)) fun xs bs out h => ?_) sound_none
    unfold ogE at h
    split at h
    · injection h with h
      injection h with h1 h2
      subst h2
      exact ⟨1, good_run (decP_of h1)⟩
    · cases h
noncomputable def GoodE : List AV → Bx → Option (Bool × Out)
  | [.agg [.v (.int .i64 k1), .v (.bool b1), .v (.int .i64 n1), .v (.string s1), .row none 9 ks1, .row none 43 l1]], [none] =>
    some (decP (okO' 101 ks1 l1 32 65536), .ret (B (ogO 101 (mkO k1 n1 b1 s1 ks1 l1) 32 65536).1) [none])
  | _, _ => none
theorem Good_0 (m : Nat) (k1 n1 : Int) (b1 : Bool) (s1 : ByteArray) (ks1 l1 : List Dat) : evFn PR TK (ogC 101) m 24 [.agg (obA k1 n1 b1 s1 ks1 l1)] [none] =
  bif decP (okO' 101 ks1 l1 32 65536) then some (.ret (B (ogO 101 (mkO k1 n1 b1 s1 ks1 l1) 32 65536).1) [none]) else none := by kernel_rfl
theorem Good_sound : SoundCall PR (addF 24 GoodE fun _ _ _ => none) := by
  refine sound_both (sound_add (takes := TK) hmixP (og_sound 101) _ (fn := (PR.funcs[24]?).getD default) (by kernel_rfl) (by kernel_rfl) GoodE fun xs bs out h => ?_) sound_none
  unfold GoodE at h
  split at h
  · injection h with h
    injection h with h1 h2
    subst h2
    refine ⟨1, (Good_0 _ _ _ _ _ _ _).trans ?_⟩
    rw [h1]; rfl
  · cases h
end Go.Proofs.YtckdgcpomkefpaaGreatDoor.En
end
