/- What is flat about an object; the keys of a dictionary. -/
import Derived.Test.YtckdgcpomkefpaaGreatDoorP2
set_option linter.unusedVariables false
set_option linter.unusedSimpArgs false
set_option maxRecDepth 100000
namespace Go.Proofs.YtckdgcpomkefpaaGreatDoor.En
open Go
def orO {β : Type} (c : Bool) (d : Option Bool) (k : Bool → Option β) : Option β := (bif c then some true else d).bind k
theorem orO_eq {β : Type} (c d : Bool) (k : Bool → Option β) : orO c (some d) k = k (c || d) := by cases c <;> rfl
noncomputable def flatL1 (call : CallF) (m r : Nat) (k1 n1 : Int) (b1 : Bool) (s1 : ByteArray) (ks1 l1 : List Dat) (i : Int) := loopF PR TK call m 93 [none] [true, true, false, true, true, true, true, true, true, true, true, true, true, false, true, false, true] r (sp 165 [(1, .box 1 0), (3, I i)] [(1, obA k1 n1 b1 s1 ks1 l1)])
noncomputable def flatL2 (call : CallF) (m r1 r : Nat) (k1 n1 : Int) (b1 : Bool) (s1 : ByteArray) (ks1 l1 : List Dat) (i j : Int) := loopF2 PR TK call m 93 [none] [true, true, false, true, true, true, true, true, true, true, true, true, true, false, true, false, true] r1 [true, false, true, true] r (sp 165 [(1, .box 1 0), (3, I i), (4, I j)] [(1, obA k1 n1 b1 s1 ks1 l1)])
noncomputable def flC (ext : CallF) : CallF := addF 112 namedE (addF 101 inE ext)
section
variable (ext : CallF) (m r r1 : Nat) (k1 n1 : Int) (b1 : Bool) (s1 : ByteArray) (ks1 l1 : List Dat) (i j : Int)
def bare (k1 n1 : Int) (b1 : Bool) (s1 : ByteArray) (ks1 l1 : List Dat) {β : Type} (kk : Bool → Option β) : Option β :=
  andK b1 (k1 != 1) fun t => orO t (andK (n1 != 0) (k1 != 2) fun t => andK t (k1 != 3) fun t => andK t (k1 != 8) fun t => some t) fun t =>
    orO t (andK (!(s1.toList == (⟨#[]⟩ : ByteArray).toList)) (k1 != 4) fun t => andK t (k1 != 5) fun t => some t) fun t =>
    orO t (andK (decide ((ks1.length : Int) > 0)) (k1 != 7) fun t => some t) fun t =>
    orO t (andK (decide ((l1.length : Int) > 0)) (k1 != 6) fun t => andK t (k1 != 7) fun t => some t) kk
theorem flat_0 : evFn PR TK (flC ext) m 93 [.agg (obA k1 n1 b1 s1 ks1 l1)] [none] = bare k1 n1 b1 s1 ks1 l1 fun t => bif t then bR1 false else
    bif (k1 == 2) then bR1 (inB n1) else bif (k1 == 3) then andK (inB n1) ((n1.tmod 65536) != 0) bR1 else bif (k1 == 4) then bR1 (namedB s1) else bif (k1 == 5) then bR1 (decide ((s1.size : Int) ≤ 65536)) else
    bif (k1 == 7) then (bif ((ks1.length : Int) != l1.length) then bR1 false else flatL1 (flC ext) m m k1 n1 b1 s1 ks1 l1 0) else
    bif (k1 == 8) then andK (decide (n1 ≥ 1)) (decide (n1 ≤ 4096)) bR1 else orK (k1 == 0) (k1 == 1) fun t => orK t (k1 == 6) bR1 := by kernel_rfl
theorem flat_1 : flatL1 (flC ext) m (r + 1) k1 n1 b1 s1 ks1 l1 i = bif decide (i < ks1.length) then (idx ks1 i).bind fun d => bif !(namedB (d.at 0).toS) then bR1 false else flatL2 (flC ext) m r m k1 n1 b1 s1 ks1 l1 i 0
    else bR1 true := by kernel_rfl
theorem flat_2 : flatL2 (flC ext) m r1 (r + 1) k1 n1 b1 s1 ks1 l1 i j = bif decide (j < i) then (idx ks1 j).bind fun d => (idx ks1 i).bind fun e =>
      bif ((d.at 0).toS.toList == (e.at 0).toS.toList) then bR1 false else flatL2 (flC ext) m r1 r k1 n1 b1 s1 ks1 l1 i (IntKind.i64.wrap (j + 1))
    else flatL1 (flC ext) m r1 k1 n1 b1 s1 ks1 l1 (IntKind.i64.wrap (i + 1)) := by kernel_rfl
end
def eqK (d e : Dat) : Bool := (d.at 0).toS.toList == (e.at 0).toS.toList
def keysR : List Dat → List Dat → Bool
  | _, [] => true
  | pre, d :: r => namedB (d.at 0).toS && (!(pre.any fun e => eqK e d) && keysR (pre ++ [d]) r)
theorem flat_loop2 {ext : CallF} {m r1 : Nat} {k1 n1 : Int} {b1 : Bool} {s1 : ByteArray} {ks1 l1 : List Dat} {i : Nat} (hi : i < ks1.length) (hf : ks1.length ≤ 1000000) :
    ∀ (n j r : Nat), j + n = i → n < r → flatL2 (flC ext) m r1 r k1 n1 b1 s1 ks1 l1 (i : Int) (j : Int) = bif (((ks1.take i).drop j).any fun e => eqK e ks1[i]) then bR1 false else flatL1 (flC ext) m r1 k1 n1 b1 s1 ks1 l1 ((i + 1 : Nat) : Int) := by
  intro n
  induction n with
  | zero =>
    intro j r hj hr
    cases r with
    | zero => omega
    | succ r =>
      have : j = i := by omega
      subst this
      rw [flat_2, show decide ((j : Int) < (j : Int)) = false from decide_eq_false (by omega), cond_false, IntWalk.i64_in _ (by omega), List.drop_eq_nil_of_le (by simp; omega), List.any_nil, cond_false]
      rfl
  | succ n ih =>
    intro j r hj hr
    cases r with
    | zero => omega
    | succ r =>
      have h1 : j < ks1.length := by omega
      have h2 : j < (ks1.take i).length := by simp; omega
      have ih := ih (j + 1) r (by omega) (by omega)
      rw [show ((j + 1 : Nat) : Int) = (j : Int) + 1 by omega] at ih
      rw [flat_2, show decide ((j : Int) < (i : Int)) = true from decide_eq_true (by omega), cond_true, idx_at h1, idx_at hi, Option.bind_some, Option.bind_some, IntWalk.i64_in _ (by omega), ih, List.drop_eq_getElem_cons h2, List.any_cons, List.getElem_take]
      show (bif eqK ks1[j] ks1[i] then _ else _) = _
      cases eqK ks1[j] ks1[i]
      · rw [cond_false, Bool.false_or]
      · rw [cond_true, Bool.true_or, cond_true]
theorem flat_loop1 {ext : CallF} {m : Nat} {k1 n1 : Int} {b1 : Bool} {s1 : ByteArray} {ks1 l1 : List Dat} (hf : ks1.length ≤ 1000000) (hm : 1000000 < m) :
    ∀ (n i r : Nat), i + n = ks1.length → n < r → flatL1 (flC ext) m r k1 n1 b1 s1 ks1 l1 (i : Int) = bR1 (keysR (ks1.take i) (ks1.drop i)) := by
  intro n
  induction n with
  | zero =>
    intro i r hi hr
    cases r with
    | zero => omega
    | succ r =>
      rw [flat_1, show decide ((i : Int) < ks1.length) = false from decide_eq_false (by omega), cond_false, List.drop_eq_nil_of_le (by omega)]
      rfl
  | succ n ih =>
    intro i r hi hr
    cases r with
    | zero => omega
    | succ r =>
      have h1 : i < ks1.length := by omega
      have ih := ih (i + 1) r (by omega) (by omega)
      have e := flat_loop2 (ext := ext) (m := m) (r1 := r) (k1 := k1) (n1 := n1) (b1 := b1) (s1 := s1) (l1 := l1) h1 hf i 0 m (by omega) (by omega)
      rw [List.drop_zero, show ((0 : Nat) : Int) = 0 from rfl, ih] at e
      rw [flat_1, show decide ((i : Int) < ks1.length) = true from decide_eq_true (by omega), cond_true, idx_at h1, Option.bind_some, e, List.drop_eq_getElem_cons h1]
      show _ = bR1 (namedB (ks1[i].at 0).toS && (!((ks1.take i).any fun e => eqK e ks1[i]) && keysR (ks1.take i ++ [ks1[i]]) (ks1.drop (i + 1))))
      rw [List.take_append_getElem h1]
      cases namedB (ks1[i].at 0).toS
      · rfl
      · cases ((ks1.take i).any fun e => eqK e ks1[i]) <;> rfl
def bareB (k1 n1 : Int) (b1 : Bool) (s1 : ByteArray) (ks1 l1 : List Dat) : Bool :=
  ((((b1 && k1 != 1) || (((n1 != 0 && k1 != 2) && k1 != 3) && k1 != 8)) || ((!(s1.toList == (⟨#[]⟩ : ByteArray).toList) && k1 != 4) && k1 != 5)) || (decide ((ks1.length : Int) > 0) && k1 != 7)) || ((decide ((l1.length : Int) > 0) && k1 != 6) && k1 != 7)
theorem bare_eq (k1 n1 : Int) (b1 : Bool) (s1 : ByteArray) (ks1 l1 : List Dat) {β : Type} (kk : Bool → Option β) : bare k1 n1 b1 s1 ks1 l1 kk = kk (bareB k1 n1 b1 s1 ks1 l1) := by
  unfold bare bareB
  simp only [andK_eq, orO_eq]
def kindB (k1 n1 : Int) (s1 : ByteArray) (ks1 l1 : List Dat) : Bool :=
  bif (k1 == 2) then inB n1 else bif (k1 == 3) then inB n1 && (n1.tmod 65536) != 0 else bif (k1 == 4) then namedB s1 else bif (k1 == 5) then decide ((s1.size : Int) ≤ 65536) else
    bif (k1 == 7) then (bif ((ks1.length : Int) != l1.length) then false else keysR [] ks1) else bif (k1 == 8) then decide (n1 ≥ 1) && decide (n1 ≤ 4096) else (k1 == 0 || k1 == 1) || k1 == 6
def flatB (k1 n1 : Int) (b1 : Bool) (s1 : ByteArray) (ks1 l1 : List Dat) : Bool := !bareB k1 n1 b1 s1 ks1 l1 && kindB k1 n1 s1 ks1 l1
def flatE : List AV → Bx → Option (Bool × Out)
  | [.agg [.v (.int .i64 k1), .v (.bool b1), .v (.int .i64 n1), .v (.string s1), .row none 9 ks1, .row none 43 l1]], [none] =>
    some (Nat.ble ks1.length 1000000, .ret (B (flatB k1 n1 b1 s1 ks1 l1)) [none])
  | _, _ => none
theorem flat_run {ext : CallF} {m : Nat} {k1 n1 : Int} {b1 : Bool} {s1 : ByteArray} {ks1 l1 : List Dat} (hf : ks1.length ≤ 1000000) (hm : 1000000 < m) :
    evFn PR TK (flC ext) m 93 [.agg (obA k1 n1 b1 s1 ks1 l1)] [none] = bR1 (flatB k1 n1 b1 s1 ks1 l1) := by
  have e := flat_loop1 (ext := ext) (k1 := k1) (n1 := n1) (b1 := b1) (s1 := s1) (l1 := l1) hf hm ks1.length 0 m (by omega) (by omega)
  rw [List.drop_zero, List.take_zero, show ((0 : Nat) : Int) = 0 from rfl] at e
  rw [flat_0, bare_eq, e]
  unfold flatB kindB
  cases bareB k1 n1 b1 s1 ks1 l1
  · simp only [andK_eq, orK_eq, cond_false, Bool.not_false, Bool.true_and]
    cases (k1 == 2)
    · cases (k1 == 3)
      · cases (k1 == 4)
        · cases (k1 == 5)
          · cases (k1 == 7)
            · cases (k1 == 8) <;> rfl
            · cases ((ks1.length : Int) != l1.length) <;> rfl
          · rfl
        · rfl
      · rfl
    · rfl
  · rfl
theorem flat_sound {ext : CallF} (hext : SoundCall PR ext) : SoundCall PR (addF 93 flatE ext) := by
  refine sound_both (sound_add (takes := TK) hmixP (rname_sound (rin_sound sound_none)) _ (fn := (PR.funcs[93]?).getD default) (by kernel_rfl) (by kernel_rfl) flatE fun xs bs out h => ?_) hext
  unfold flatE at h
  split at h
  · injection h with h
    injection h with h1 h2
    subst h2
    exact ⟨1000001, flat_run (Nat.le_of_ble_eq_true h1) (by omega)⟩
  · cases h
end Go.Proofs.YtckdgcpomkefpaaGreatDoor.En
