/- Part 4 of a proof: what it needs of the program's functions as plain Lean functions, with the proof that the machine's calls come to them, and of plain laws; put together out of smaller texts. No conditions besides those that each statement names. -/
import Derived.Recover
import Derived.Shelf.Strings.Builder1
import Derived.Test.YtckdgcpomkefpaaGreatDoorOp0
import Derived.Test.YtckdgcpomkefpaaGreatDoorOp3
section
set_option linter.unusedVariables false
set_option linter.unusedSimpArgs false
set_option maxRecDepth 100000
namespace Go.Proofs.YtckdgcpomkefpaaGreatDoor.En
open Go
theorem hmixP : PR.follows .mixedOrders = true := by kernel_rfl
def mkO (k n : Int) (b : Bool) (s : ByteArray) (ks l : List Dat) : Dat := .agg [.int k, .bool b, .int n, .str s, .rows ks, .rows l]
def nrm (d : Dat) : Dat := mkO (d.at 0).toI (d.at 2).toI (d.at 1).toB (d.at 3).toS (d.at 4).toL (d.at 5).toL
def orK {β : Type} (c : Bool) (d : Bool) (k : Bool → Option β) : Option β := (bif c then some true else some d).bind k
theorem orK_eq {β : Type} (c d : Bool) (k : Bool → Option β) : orK c d k = k (c || d) := by cases c <;> rfl
def fitO : Nat → List Dat → List Dat → Prop
  | 0, _, _ => False
  | k + 1, ks, l => ks.length ≤ 1000000 ∧ l.length ≤ 1000000 ∧ ∀ d ∈ l, fitO k (d.at 4).toL (d.at 5).toL
noncomputable def decP (p : Prop) : Bool := @decide p (Classical.propDecidable p)
theorem decP_eq {p : Prop} (h : p) : decP p = true := @decide_eq_true p (Classical.propDecidable p) h
theorem decP_of {p : Prop} (h : decP p = true) : p := @of_decide_eq_true p (Classical.propDecidable p) h
noncomputable def fitB (k : Nat) (ks l : List Dat) : Bool := decP (fitO k ks l)
theorem fitB_eq {k : Nat} {ks l : List Dat} (h : fitO k ks l) : fitB k ks l = true := decP_eq h
theorem fitB_of {k : Nat} {ks l : List Dat} (h : fitB k ks l = true) : fitO k ks l := decP_of h
def keysEq : List Dat → List Dat → Bool
  | [], [] => true
  | d :: l, e :: m => ((d.at 0).toS.toList == (e.at 0).toS.toList) && keysEq l m
  | _, _ => false
def allEq (f : Dat → Dat → Bool) : List Dat → List Dat → Bool
  | [], [] => true
  | d :: l, e :: m => f d e && allEq f l m
  | _, _ => false
def sameO : Nat → Dat → Dat → Bool
  | 0, _, _ => false
  | k + 1, a, b => ((a.at 0).toI == (b.at 0).toI) && (((a.at 1).toB == (b.at 1).toB) && (((a.at 2).toI == (b.at 2).toI) && (((a.at 3).toS.toList == (b.at 3).toS.toList) && (keysEq (a.at 4).toL (b.at 4).toL && allEq (sameO k) (a.at 5).toL (b.at 5).toL))))
theorem sameO_nrm (k : Nat) (a b : Dat) : sameO k (nrm a) (nrm b) = sameO k a b := by cases k <;> rfl
noncomputable def sameE (k : Nat) : List AV → Bx → Option (Bool × Out)
  | [.agg [.v (.int .i64 k1), .v (.bool b1), .v (.int .i64 n1), .v (.string s1), .row none 9 ks1, .row none 43 l1], .agg [.v (.int .i64 k2), .v (.bool b2), .v (.int .i64 n2), .v (.string s2), .row none 9 ks2, .row none 43 l2]], [none, none] =>
    some (fitB k ks1 l1, .ret (B (sameO k (mkO k1 n1 b1 s1 ks1 l1) (mkO k2 n2 b2 s2 ks2 l2))) [none, none])
  | _, _ => none
noncomputable def sameC (k : Nat) (ext : CallF) : CallF := addF 28 (sameE k) ext
noncomputable def sameL1 (call : CallF) (m r : Nat) (k1 n1 k2 n2 : Int) (b1 b2 : Bool) (s1 s2 : ByteArray) (ks1 l1 ks2 l2 : List Dat) (i : Int) := loopF PR TK call m 28 [none, none] [true, true, false, true] r (sp 88 [(2, .box 2 0), (3, .box 3 0), (5, I i)] [(2, obA k1 n1 b1 s1 ks1 l1), (3, obA k2 n2 b2 s2 ks2 l2)])
noncomputable def sameL2 (call : CallF) (m r : Nat) (k1 n1 k2 n2 : Int) (b1 b2 : Bool) (s1 s2 : ByteArray) (ks1 l1 ks2 l2 : List Dat) (i : Int) := loopF PR TK call m 28 [none, none] [true, true, true, false, true] r (sp 88 [(2, .box 2 0), (3, .box 3 0), (6, I i)] [(2, obA k1 n1 b1 s1 ks1 l1), (3, obA k2 n2 b2 s2 ks2 l2)])
section
variable (call ext : CallF) (k m r : Nat) (k1 n1 k2 n2 : Int) (b1 b2 : Bool) (s1 s2 : ByteArray) (ks1 l1 ks2 l2 : List Dat) (i : Int)
theorem same_0 : evFn PR TK call m 28 [.agg (obA k1 n1 b1 s1 ks1 l1), .agg (obA k2 n2 b2 s2 ks2 l2)] [none, none] =
    orK (k1 != k2) (!(b1 == b2)) fun t => orK t (n1 != n2) fun t => orK t (!(s1.toList == s2.toList)) fun t => orK t ((ks1.length : Int) != ks2.length) fun t => orK t ((l1.length : Int) != l2.length) fun t =>
      bif t then some (.ret (B false) [none, none]) else sameL1 call m m k1 n1 k2 n2 b1 b2 s1 s2 ks1 l1 ks2 l2 0 := by kernel_rfl
theorem same_1 : sameL1 call m (r + 1) k1 n1 k2 n2 b1 b2 s1 s2 ks1 l1 ks2 l2 i = bif decide (i < ks1.length) then (idx ks1 i).bind fun d => (idx ks2 i).bind fun e =>
      bif !((d.at 0).toS.toList == (e.at 0).toS.toList) then some (.ret (B false) [none, none]) else sameL1 call m r k1 n1 k2 n2 b1 b2 s1 s2 ks1 l1 ks2 l2 (IntKind.i64.wrap (i + 1))
    else sameL2 call m m k1 n1 k2 n2 b1 b2 s1 s2 ks1 l1 ks2 l2 0 := by kernel_rfl
theorem same_2 : sameL2 (sameC k ext) m (r + 1) k1 n1 k2 n2 b1 b2 s1 s2 ks1 l1 ks2 l2 i = bif decide (i < l1.length) then (idx l1 i).bind fun d => (idx l2 i).bind fun e =>
      bif fitB k (d.at 4).toL (d.at 5).toL then (bif !(sameO k (nrm d) (nrm e)) then some (.ret (B false) [none, none]) else sameL2 (sameC k ext) m r k1 n1 k2 n2 b1 b2 s1 s2 ks1 l1 ks2 l2 (IntKind.i64.wrap (i + 1))) else none
    else some (.ret (B true) [none, none]) := by kernel_rfl
end
def bR (x : Bool) : Option Out := some (.ret (B x) [none, none])
theorem same_loop2 {ext : CallF} {k m : Nat} {k1 n1 k2 n2 : Int} {b1 b2 : Bool} {s1 s2 : ByteArray} {ks1 l1 ks2 l2 : List Dat} (hl : l1.length = l2.length) (hf : l1.length ≤ 1000000) (hk : ∀ d ∈ l1, fitO k (d.at 4).toL (d.at 5).toL) :
    ∀ (n i r : Nat), i + n = l1.length → n < r → sameL2 (sameC k ext) m r k1 n1 k2 n2 b1 b2 s1 s2 ks1 l1 ks2 l2 (i : Int) = bR (allEq (sameO k) (l1.drop i) (l2.drop i))
  | n, i, 0, _, h => by omega
  | 0, i, r + 1, hi, _ => by
    rw [same_2, show decide ((i : Int) < l1.length) = false from decide_eq_false (by omega), List.drop_eq_nil_of_le (by omega), List.drop_eq_nil_of_le (by omega)]
    rfl
  | n + 1, i, r + 1, hi, hm => by
    have h1 : i < l1.length := by omega
    have h2 : i < l2.length := by omega
    rw [same_2, show decide ((i : Int) < l1.length) = true from decide_eq_true (by omega), idx_at h1, idx_at h2, IntWalk.i64_in _ (by omega)]
    simp only [cond_true, Option.bind_some]
    rw [fitB_eq (hk _ (List.getElem_mem h1)), cond_true, sameO_nrm, List.drop_eq_getElem_cons h1, List.drop_eq_getElem_cons h2]
    have ih := same_loop2 (ext := ext) (m := m) (k1 := k1) (n1 := n1) (k2 := k2) (n2 := n2) (b1 := b1) (b2 := b2) (s1 := s1) (s2 := s2) (ks1 := ks1) (ks2 := ks2) hl hf hk n (i + 1) r (by omega) (by omega)
    rw [show ((i + 1 : Nat) : Int) = (i : Int) + 1 by omega] at ih
    rw [ih]
    show _ = bR (sameO k l1[i] l2[i] && allEq (sameO k) (l1.drop (i + 1)) (l2.drop (i + 1)))
    cases sameO k l1[i] l2[i] <;> rfl
theorem same_loop1 {ext : CallF} {k m : Nat} {k1 n1 k2 n2 : Int} {b1 b2 : Bool} {s1 s2 : ByteArray} {ks1 l1 ks2 l2 : List Dat} (hlk : ks1.length = ks2.length) (hl : l1.length = l2.length) (hfk : ks1.length ≤ 1000000) (hf : l1.length ≤ 1000000) (hk : ∀ d ∈ l1, fitO k (d.at 4).toL (d.at 5).toL) (hm : l1.length < m) :
    ∀ (n i r : Nat), i + n = ks1.length → n < r → sameL1 (sameC k ext) m r k1 n1 k2 n2 b1 b2 s1 s2 ks1 l1 ks2 l2 (i : Int) = bR (keysEq (ks1.drop i) (ks2.drop i) && allEq (sameO k) l1 l2) := by
  have e0 := same_loop2 (ext := ext) (k := k) (m := m) (k1 := k1) (n1 := n1) (k2 := k2) (n2 := n2) (b1 := b1) (b2 := b2) (s1 := s1) (s2 := s2) (ks1 := ks1) (ks2 := ks2) hl hf hk l1.length 0 m (by omega) hm
  rw [List.drop_zero, List.drop_zero, show ((0 : Nat) : Int) = 0 from rfl] at e0
  intro n
  induction n with
  | zero =>
    intro i r hi hr
    cases r with
    | zero => omega
    | succ r =>
      rw [same_1, show decide ((i : Int) < ks1.length) = false from decide_eq_false (by omega), List.drop_eq_nil_of_le (by omega), List.drop_eq_nil_of_le (by omega), e0]
      rfl
  | succ n ih =>
    intro i r hi hr
    cases r with
    | zero => omega
    | succ r =>
      have h1 : i < ks1.length := by omega
      have h2 : i < ks2.length := by omega
      have ih := ih (i + 1) r (by omega) (by omega)
      rw [show ((i + 1 : Nat) : Int) = (i : Int) + 1 by omega] at ih
      rw [same_1, e0, show decide ((i : Int) < ks1.length) = true from decide_eq_true (by omega), idx_at h1, idx_at h2, IntWalk.i64_in _ (by omega)]
      simp only [cond_true, Option.bind_some]
      rw [List.drop_eq_getElem_cons h1, List.drop_eq_getElem_cons h2, ih]
      show _ = bR ((((ks1[i].at 0).toS.toList == (ks2[i].at 0).toS.toList) && keysEq (ks1.drop (i + 1)) (ks2.drop (i + 1))) && allEq (sameO k) l1 l2)
      cases ((ks1[i].at 0).toS.toList == (ks2[i].at 0).toS.toList) <;> rfl
theorem keysEq_len : ∀ {l m : List Dat}, keysEq l m = true → l.length = m.length
  | [], [], _ => rfl
  | d :: l, e :: m, h => by
    rw [keysEq, Bool.and_eq_true] at h
    simp [keysEq_len h.2]
  | [], _ :: _, h => by cases h
  | _ :: _, [], h => by cases h
theorem allEq_len {f : Dat → Dat → Bool} : ∀ {l m : List Dat}, allEq f l m = true → l.length = m.length
  | [], [], _ => rfl
  | d :: l, e :: m, h => by
    rw [allEq, Bool.and_eq_true] at h
    simp [allEq_len h.2]
  | [], _ :: _, h => by cases h
  | _ :: _, [], h => by cases h
theorem ne_len {α : Type} {l m : List α} : ((l.length : Int) != m.length) = !decide (l.length = m.length) := by
  by_cases h : l.length = m.length
  · simp [h]
  · have : (l.length : Int) ≠ m.length := by omega
    simp [h, this]
theorem same_run {ext : CallF} {k m : Nat} {k1 n1 k2 n2 : Int} {b1 b2 : Bool} {s1 s2 : ByteArray} {ks1 l1 ks2 l2 : List Dat} (h : fitO (k + 1) ks1 l1) (hm : 1000000 < m) :
    evFn PR TK (sameC k ext) m 28 [.agg (obA k1 n1 b1 s1 ks1 l1), .agg (obA k2 n2 b2 s2 ks2 l2)] [none, none] = bR (sameO (k + 1) (mkO k1 n1 b1 s1 ks1 l1) (mkO k2 n2 b2 s2 ks2 l2)) := by
  obtain ⟨h1, h2, h3⟩ := h
  rw [same_0]
  simp only [orK_eq]
  show (bif ((((((k1 != k2) || !(b1 == b2)) || (n1 != n2)) || !(s1.toList == s2.toList)) || ((ks1.length : Int) != ks2.length)) || ((l1.length : Int) != l2.length)) then bR false else _) =
    bR ((k1 == k2) && ((b1 == b2) && ((n1 == n2) && ((s1.toList == s2.toList) && (keysEq ks1 ks2 && allEq (sameO k) l1 l2)))))
  rw [ne_len, ne_len]
  unfold bne
  cases (k1 == k2) <;> cases (b1 == b2) <;> cases (n1 == n2) <;> cases (s1.toList == s2.toList) <;> try rfl
  by_cases e1 : ks1.length = ks2.length
  · by_cases e2 : l1.length = l2.length
    · rw [decide_eq_true e1, decide_eq_true e2]
      have e := same_loop1 (ext := ext) (k := k) (m := m) (k1 := k1) (n1 := n1) (k2 := k2) (n2 := n2) (b1 := b1) (b2 := b2) (s1 := s1) (s2 := s2) e1 e2 h1 h2 h3 (by omega) ks1.length 0 m (by omega) (by omega)
      rw [List.drop_zero, List.drop_zero, show ((0 : Nat) : Int) = 0 from rfl] at e
      show sameL1 _ _ _ _ _ _ _ _ _ _ _ _ _ _ _ 0 = _
      rw [e]; rfl
    · rw [decide_eq_false e2]
      have : allEq (sameO k) l1 l2 = false := by
        cases hq : allEq (sameO k) l1 l2
        · rfl
        · exact absurd (allEq_len hq) e2
      rw [this]
      cases decide (ks1.length = ks2.length) <;> cases keysEq ks1 ks2 <;> rfl
  · rw [decide_eq_false e1]
    have : keysEq ks1 ks2 = false := by
      cases hq : keysEq ks1 ks2
      · rfl
      · exact absurd (keysEq_len hq) e1
    rw [this]; rfl
theorem same_sound {ext : CallF} (hext : SoundCall PR ext) : ∀ k, SoundCall PR (sameC k ext) := by
  refine sound_rec (takes := TK) hmixP hext _ (fn := (PR.funcs[28]?).getD default) (by kernel_rfl) (by kernel_rfl) sameE (fun xs bs out h => ?_) (fun k xs bs out h => ?_)
  · unfold sameE at h
    split at h
    · injection h with h
      injection h with h _
      exact fitB_of h
    · cases h
  · unfold sameE at h
    split at h
    · injection h with h
      injection h with h1 h2
      subst h2
      exact ⟨1000001, same_run (fitB_of h1) (by omega)⟩
    · cases h
def copyO : Nat → Dat → Dat
  | 0, d => d
  | k + 1, d => mkO (d.at 0).toI (d.at 2).toI (d.at 1).toB (d.at 3).toS (d.at 4).toL ((d.at 5).toL.map (copyO k))
noncomputable def copyE (k : Nat) : List AV → Bx → Option (Bool × Out)
  | [.agg [.v (.int .i64 k1), .v (.bool b1), .v (.int .i64 n1), .v (.string s1), .row none 9 ks1, .row none 43 l1]], [none] =>
    some (fitB k ks1 l1, .ret (.agg (obA k1 n1 b1 s1 ks1 (l1.map (copyO (k - 1))))) [none])
  | _, _ => none
noncomputable def copyC (k : Nat) (ext : CallF) : CallF := addF 25 (copyE k) ext
noncomputable def copyL (call : CallF) (m r : Nat) (k1 n1 : Int) (b1 : Bool) (s1 : ByteArray) (ks1 l1 acc : List Dat) (i : Int) := loopF PR TK call m 25 [none] [true, true, true, false, true] r
  (sp 29 [(1, .box 1 0), (2, .box 2 0), (3, .row (some 3) 43 acc), (4, I i)] [(1, [I k1, B b1, I n1, S s1, .row (some (sub 1 4)) 9 ks1, .row none 43 l1]), (2, [I 0, B false, I 0, S ⟨#[]⟩, .row (some (sub 2 4)) 9 [], .row (some (sub 2 5)) 43 []])])
section
variable (call ext : CallF) (k m r : Nat) (k1 n1 : Int) (b1 : Bool) (s1 : ByteArray) (ks1 l1 acc : List Dat) (i : Int)
theorem copy_0 : evFn PR TK call m 25 [.agg (obA k1 n1 b1 s1 ks1 l1)] [none] = bif Nat.ble (0 + ks1.length) fitsN then copyL call m m k1 n1 b1 s1 ks1 l1 [] 0 else none := by kernel_rfl
theorem copy_1 : copyL (copyC k ext) m (r + 1) k1 n1 b1 s1 ks1 l1 acc i = bif decide (i < l1.length) then (idx l1 i).bind fun d =>
      bif fitB k (d.at 4).toL (d.at 5).toL then (bif Nat.ble (acc.length + 1) fitsN then copyL (copyC k ext) m r k1 n1 b1 s1 ks1 l1 (acc ++ [mkO (d.at 0).toI (d.at 2).toI (d.at 1).toB (d.at 3).toS (d.at 4).toL ((d.at 5).toL.map (copyO (k - 1)))]) (IntKind.i64.wrap (i + 1)) else none) else none
    else some (.ret (.agg (obA k1 n1 b1 s1 ks1 acc)) [none]) := by kernel_rfl
end
end Go.Proofs.YtckdgcpomkefpaaGreatDoor.En
end
section
set_option linter.unusedVariables false
set_option linter.unusedSimpArgs false
set_option maxRecDepth 100000
namespace Go.Proofs.YtckdgcpomkefpaaGreatDoor.En
open Go
theorem fits_ble {n : Nat} (h : n ≤ 1000001) : Nat.ble n fitsN = true := Nat.ble_eq_true_of_le (by unfold fitsN; omega)
theorem copy_loop {ext : CallF} {k m : Nat} {k1 n1 : Int} {b1 : Bool} {s1 : ByteArray} {ks1 l1 : List Dat} (hk0 : 0 < k) (hf : l1.length ≤ 1000000) (hk : ∀ d ∈ l1, fitO k (d.at 4).toL (d.at 5).toL) :
    ∀ (n i r : Nat) (acc : List Dat), i + n = l1.length → n < r → acc.length = i → copyL (copyC k ext) m r k1 n1 b1 s1 ks1 l1 acc (i : Int) = some (.ret (.agg (obA k1 n1 b1 s1 ks1 (acc ++ (l1.drop i).map (copyO k)))) [none]) := by
  intro n
  induction n with
  | zero =>
    intro i r acc hi hr ha
    cases r with
    | zero => omega
    | succ r =>
      rw [copy_1, show decide ((i : Int) < l1.length) = false from decide_eq_false (by omega), List.drop_eq_nil_of_le (by omega), List.map_nil, List.append_nil]
      rfl
  | succ n ih =>
    intro i r acc hi hr ha
    cases r with
    | zero => omega
    | succ r =>
      have h1 : i < l1.length := by omega
      have e : mkO (l1[i].at 0).toI (l1[i].at 2).toI (l1[i].at 1).toB (l1[i].at 3).toS (l1[i].at 4).toL ((l1[i].at 5).toL.map (copyO (k - 1))) = copyO k l1[i] := by
        obtain ⟨j, rfl⟩ : ∃ j, k = j + 1 := ⟨k - 1, by omega⟩
        rfl
      have ih := ih (i + 1) r (acc ++ [copyO k l1[i]]) (by omega) (by omega) (by simp; omega)
      rw [show ((i + 1 : Nat) : Int) = (i : Int) + 1 by omega] at ih
      rw [copy_1, show decide ((i : Int) < l1.length) = true from decide_eq_true (by omega), idx_at h1, IntWalk.i64_in _ (by omega)]
      simp only [cond_true, Option.bind_some]
      rw [fitB_eq (hk _ (List.getElem_mem h1)), cond_true, fits_ble (by omega), cond_true, e, ih, List.drop_eq_getElem_cons h1, List.map_cons, List.append_assoc]
      rfl
theorem copy_run {ext : CallF} {k m : Nat} {k1 n1 : Int} {b1 : Bool} {s1 : ByteArray} {ks1 l1 : List Dat} (h : fitO (k + 1) ks1 l1) (hm : 1000000 < m) :
    evFn PR TK (copyC k ext) m 25 [.agg (obA k1 n1 b1 s1 ks1 l1)] [none] = some (.ret (.agg (obA k1 n1 b1 s1 ks1 (l1.map (copyO k)))) [none]) := by
  obtain ⟨h1, h2, h3⟩ := h
  rw [copy_0, fits_ble (by omega), cond_true]
  cases l1 with
  | nil =>
    obtain ⟨m, rfl⟩ : ∃ j, m = j + 1 := ⟨m - 1, by omega⟩
    rw [copy_1]; rfl
  | cons d l =>
    have hk0 : 0 < k := by
      cases k with
      | zero => exact (h3 d (by simp)).elim
      | succ k => omega
    have e := copy_loop (ext := ext) (m := m) (k1 := k1) (n1 := n1) (b1 := b1) (s1 := s1) (ks1 := ks1) hk0 h2 h3 (d :: l).length 0 m [] (by omega) (by omega) rfl
    rw [List.drop_zero, List.nil_append, show ((0 : Nat) : Int) = 0 from rfl] at e
    exact e
theorem copy_sound {ext : CallF} (hext : SoundCall PR ext) : ∀ k, SoundCall PR (copyC k ext) := by
  refine sound_rec (takes := TK) hmixP hext _ (fn := (PR.funcs[25]?).getD default) (by kernel_rfl) (by kernel_rfl) copyE (fun xs bs out h => ?_) (fun k xs bs out h => ?_)
  · unfold copyE at h
    split at h
    · injection h with h
      injection h with h _
      exact fitB_of h
    · cases h
  · unfold copyE at h
    split at h
    · injection h with h
      injection h with h1 h2
      subst h2
      exact ⟨1000001, copy_run (fitB_of h1) (by omega)⟩
    · cases h
def andK {β : Type} (c d : Bool) (k : Bool → Option β) : Option β := (bif c then some d else some false).bind k
theorem andK_eq {β : Type} (c d : Bool) (k : Bool → Option β) : andK c d k = k (c && d) := by cases c <;> rfl
end Go.Proofs.YtckdgcpomkefpaaGreatDoor.En
end
section
set_option linter.unusedVariables false
set_option linter.unusedSimpArgs false
set_option maxRecDepth 100000
namespace Go.Proofs.YtckdgcpomkefpaaGreatDoor.En
open Go
def keysN : List Dat → Int → Int
  | [], n => n
  | d :: ks, n => keysN ks (n + ((d.at 0).toS.size : Int).tdiv 100)
def itemsN (f : Dat → Int → Int) : List Dat → Int → Int
  | [], n => n
  | d :: l, n => bif decide (n ≥ 0) then itemsN f l (f d n) else n
def headN (s : ByteArray) (ks l : List Dat) (ahead : Int) : Int := ahead + 1 + ks.length + l.length + (s.size : Int).tdiv 100
def largeO : Nat → Dat → Int → Int → Int
  | 0, _, _, _ => -1
  | k + 1, d, nest, ahead => bif decide (headN (d.at 3).toS (d.at 4).toL (d.at 5).toL ahead > 2000) || decide (nest > 100) then -1
    else itemsN (fun e n => largeO k e (nest + 1) n) (d.at 5).toL (keysN (d.at 4).toL (headN (d.at 3).toS (d.at 4).toL (d.at 5).toL ahead))
def fitZ : Nat → ByteArray → List Dat → List Dat → Prop
  | 0, _, _, _ => True
  | k + 1, s, ks, l => s.size ≤ 140737488355328 ∧ ks.length ≤ 140737488355328 ∧ l.length ≤ 140737488355328 ∧ (∀ d ∈ ks, (d.at 0).toS.size ≤ 140737488355328) ∧ ∀ d ∈ l, fitZ k (d.at 3).toS (d.at 4).toL (d.at 5).toL
def okZ (k : Nat) (s : ByteArray) (ks l : List Dat) (nest ahead : Int) : Prop := 102 ≤ k + nest ∧ 0 ≤ nest ∧ nest ≤ 101 ∧ 0 ≤ ahead ∧ ahead ≤ 4503599627370496 ∧ fitZ k s ks l
noncomputable def zB (k : Nat) (s : ByteArray) (ks l : List Dat) (nest ahead : Int) : Bool := decP (okZ k s ks l nest ahead)
noncomputable def largeE (k : Nat) : List AV → Bx → Option (Bool × Out)
  | [.agg [.v (.int .i64 k1), .v (.bool b1), .v (.int .i64 n1), .v (.string s1), .row none 9 ks1, .row none 43 l1], .v (.int .i64 nest), .v (.int .i64 ahead)], [none, none, none] =>
    some (zB k s1 ks1 l1 nest ahead, .ret (I (largeO k (mkO k1 n1 b1 s1 ks1 l1) nest ahead)) [none, none, none])
  | _, _ => none
noncomputable def largeC (k : Nat) (ext : CallF) : CallF := addF 43 (largeE k) ext
noncomputable def largeL1 (call : CallF) (m r : Nat) (k1 n1 : Int) (b1 : Bool) (s1 : ByteArray) (ks1 l1 : List Dat) (nest n i : Int) := loopF PR TK call m 43 [none, none, none] [true, true, true, false, true] r (sp 68 [(1, I nest), (3, .box 3 0), (7, I n), (8, I i)] [(3, obA k1 n1 b1 s1 ks1 l1)])
noncomputable def largeL2 (call : CallF) (m r : Nat) (k1 n1 : Int) (b1 : Bool) (s1 : ByteArray) (ks1 l1 : List Dat) (nest n i : Int) := loopF PR TK call m 43 [none, none, none] [true, true, true, true, false, true] r (sp 68 [(1, I nest), (3, .box 3 0), (7, I n), (9, I i)] [(3, obA k1 n1 b1 s1 ks1 l1)])
def nR (n : Int) : Option Out := some (.ret (I n) [none, none, none])
def W (n : Int) : Int := IntKind.i64.wrap n
section
variable (call ext : CallF) (k m r : Nat) (k1 n1 : Int) (b1 : Bool) (s1 : ByteArray) (ks1 l1 : List Dat) (nest ahead n i : Int)
theorem large_0 : evFn PR TK call m 43 [.agg (obA k1 n1 b1 s1 ks1 l1), I nest, I ahead] [none, none, none] =
    orK (decide (W (W (W (W (ahead + 1) + ks1.length) + l1.length) + W ((s1.size : Int).tdiv 100)) > 2000)) (decide (nest > 100)) fun t => bif t then nR (-1) else
      largeL1 call m m k1 n1 b1 s1 ks1 l1 nest (W (W (W (W (ahead + 1) + ks1.length) + l1.length) + W ((s1.size : Int).tdiv 100))) 0 := by kernel_rfl
theorem large_1 : largeL1 call m (r + 1) k1 n1 b1 s1 ks1 l1 nest n i = bif decide (i < ks1.length) then (idx ks1 i).bind fun d => largeL1 call m r k1 n1 b1 s1 ks1 l1 nest (W (n + W (((d.at 0).toS.size : Int).tdiv 100))) (W (i + 1))
    else largeL2 call m m k1 n1 b1 s1 ks1 l1 nest n 0 := by kernel_rfl
theorem large_2 : largeL2 (largeC k ext) m (r + 1) k1 n1 b1 s1 ks1 l1 nest n i = andK (decide (i < l1.length)) (decide (n ≥ 0)) fun t => bif t then (idx l1 i).bind fun d =>
      bif zB k (d.at 3).toS (d.at 4).toL (d.at 5).toL (W (nest + 1)) n then largeL2 (largeC k ext) m r k1 n1 b1 s1 ks1 l1 nest (largeO k (nrm d) (W (nest + 1)) n) (W (i + 1)) else none
    else nR n := by kernel_rfl
end
theorem W_in {n : Int} (h : -9223372036854775808 ≤ n ∧ n ≤ 9223372036854775807) : W n = n := IntWalk.i64_in _ h
theorem div_nat (n : Nat) : ((n : Int).tdiv 100) = ((n / 100 : Nat) : Int) := by
  rw [Int.tdiv_eq_ediv_of_nonneg (by omega)]; omega
theorem largeO_nrm (k : Nat) (d : Dat) (nest ahead : Int) : largeO k (nrm d) nest ahead = largeO k d nest ahead := by cases k <;> rfl
theorem keysN_bd : ∀ (ks : List Dat) (n : Int), (∀ d ∈ ks, (d.at 0).toS.size ≤ 140737488355328) → n ≤ keysN ks n ∧ keysN ks n ≤ n + ks.length * 1407374883553
  | [], n, _ => by simp [keysN]
  | d :: ks, n, h => by
    have h0 := h d (by simp)
    have ih := keysN_bd ks (n + ((d.at 0).toS.size : Int).tdiv 100) fun e he => h e (by simp [he])
    rw [div_nat] at ih
    show _ ≤ keysN ks (n + ((d.at 0).toS.size : Int).tdiv 100) ∧ keysN ks (n + ((d.at 0).toS.size : Int).tdiv 100) ≤ _
    rw [div_nat, List.length_cons]
    omega
theorem itemsN_bd {f : Dat → Int → Int} {M : Int} : ∀ (l : List Dat) (n : Int), (∀ d ∈ l, ∀ n, 0 ≤ n → n ≤ M → -1 ≤ f d n ∧ f d n ≤ M) → -1 ≤ n → n ≤ M → -1 ≤ itemsN f l n ∧ itemsN f l n ≤ M
  | [], n, _, h1, h2 => ⟨h1, h2⟩
  | d :: l, n, hf, h1, h2 => by
    show -1 ≤ (bif decide (n ≥ 0) then itemsN f l (f d n) else n) ∧ (bif decide (n ≥ 0) then itemsN f l (f d n) else n) ≤ M
    by_cases h : n ≥ 0
    · rw [decide_eq_true h]
      have := hf d (by simp) n h h2
      exact itemsN_bd l _ (fun e he => hf e (by simp [he])) this.1 this.2
    · rw [decide_eq_false h]; exact ⟨h1, h2⟩
theorem headN_eq (s : ByteArray) (ks l : List Dat) (ahead : Int) : headN s ks l ahead = ahead + 1 + ks.length + l.length + ((s.size / 100 : Nat) : Int) := by unfold headN; rw [div_nat]
theorem largeO_bd : ∀ (k : Nat) (d : Dat) (nest ahead : Int), 0 ≤ ahead → fitZ k (d.at 3).toS (d.at 4).toL (d.at 5).toL → -1 ≤ largeO k d nest ahead ∧ largeO k d nest ahead ≤ 4503599627370496
  | 0, d, nest, ahead, _, _ => by simp [largeO]
  | k + 1, d, nest, ahead, h0, hz => by
    obtain ⟨z1, z2, z3, z4, z5⟩ := hz
    unfold largeO
    cases hc : decide (headN (d.at 3).toS (d.at 4).toL (d.at 5).toL ahead > 2000) || decide (nest > 100)
    · rw [Bool.or_eq_false_iff] at hc
      have h1 := of_decide_eq_false hc.1
      rw [headN_eq] at h1
      have hk := keysN_bd (d.at 4).toL (headN (d.at 3).toS (d.at 4).toL (d.at 5).toL ahead) z4
      rw [headN_eq] at hk
      simp only [cond_false]
      rw [headN_eq]
      exact itemsN_bd _ _ (fun e he n hn _ => largeO_bd k e (nest + 1) n hn (z5 e he)) (by omega) (by omega)
    · exact ⟨by simp, by simp⟩
theorem large_loop2 {ext : CallF} {k m : Nat} {k1 n1 : Int} {b1 : Bool} {s1 : ByteArray} {ks1 l1 : List Dat} {nest : Int} (h1 : 102 ≤ k + (nest + 1)) (h2 : 0 ≤ nest) (h3 : nest ≤ 100) (hl : l1.length ≤ 2000) (hz : ∀ d ∈ l1, fitZ k (d.at 3).toS (d.at 4).toL (d.at 5).toL) :
    ∀ (q i r : Nat) (n : Int), i + q = l1.length → q < r → -1 ≤ n → n ≤ 4503599627370496 → largeL2 (largeC k ext) m r k1 n1 b1 s1 ks1 l1 nest n (i : Int) = nR (itemsN (fun e n => largeO k e (nest + 1) n) (l1.drop i) n) := by
  intro q
  induction q with
  | zero =>
    intro i r n hi hr hn1 hn2
    cases r with
    | zero => omega
    | succ r =>
      rw [large_2, andK_eq, show decide ((i : Int) < l1.length) = false from decide_eq_false (by omega), List.drop_eq_nil_of_le (by omega)]
      rfl
  | succ q ih =>
    intro i r n hi hr hn1 hn2
    cases r with
    | zero => omega
    | succ r =>
      have hlt : i < l1.length := by omega
      rw [large_2, andK_eq, show decide ((i : Int) < l1.length) = true from decide_eq_true (by omega), idx_at hlt, List.drop_eq_getElem_cons hlt, W_in (n := (i : Int) + 1) (by omega), W_in (n := nest + 1) (by omega), Bool.true_and]
      show _ = nR (bif decide (n ≥ 0) then itemsN (fun e n => largeO k e (nest + 1) n) (l1.drop (i + 1)) (largeO k l1[i] (nest + 1) n) else n)
      by_cases hn : n ≥ 0
      · have hd := hz _ (List.getElem_mem hlt)
        have hb := largeO_bd k l1[i] (nest + 1) n hn hd
        have ih := ih (i + 1) r (largeO k l1[i] (nest + 1) n) (by omega) (by omega) hb.1 hb.2
        rw [show ((i + 1 : Nat) : Int) = (i : Int) + 1 by omega] at ih
        have hzb : zB k (l1[i].at 3).toS (l1[i].at 4).toL (l1[i].at 5).toL (nest + 1) n = true := decP_eq ⟨h1, by omega, by omega, hn, by omega, hd⟩
        rw [decide_eq_true hn, cond_true, Option.bind_some, hzb, cond_true, largeO_nrm, ih]
        rfl
      · rw [decide_eq_false hn]; rfl
theorem large_loop1 {ext : CallF} {k m : Nat} {k1 n1 : Int} {b1 : Bool} {s1 : ByteArray} {ks1 l1 : List Dat} {nest : Int} (h1 : 102 ≤ k + (nest + 1)) (h2 : 0 ≤ nest) (h3 : nest ≤ 100) (hl : l1.length ≤ 2000) (hlk : ks1.length ≤ 2000) (hz : ∀ d ∈ l1, fitZ k (d.at 3).toS (d.at 4).toL (d.at 5).toL) (hzk : ∀ d ∈ ks1, (d.at 0).toS.size ≤ 140737488355328) (hm : 2000 < m) :
    ∀ (q i r : Nat) (n : Int), i + q = ks1.length → q < r → 0 ≤ n → n ≤ 2000 + i * 1407374883553 → largeL1 (largeC k ext) m r k1 n1 b1 s1 ks1 l1 nest n (i : Int) = nR (itemsN (fun e n => largeO k e (nest + 1) n) l1 (keysN (ks1.drop i) n)) := by
  intro q
  induction q with
  | zero =>
    intro i r n hi hr hn1 hn2
    cases r with
    | zero => omega
    | succ r =>
      have e := large_loop2 (ext := ext) (m := m) (k1 := k1) (n1 := n1) (b1 := b1) (s1 := s1) (ks1 := ks1) h1 h2 h3 hl hz l1.length 0 m n (by omega) (by omega) (by omega) (by omega)
      rw [List.drop_zero, show ((0 : Nat) : Int) = 0 from rfl] at e
      rw [large_1, e, show decide ((i : Int) < ks1.length) = false from decide_eq_false (by omega), List.drop_eq_nil_of_le (by omega)]
      rfl
  | succ q ih =>
    intro i r n hi hr hn1 hn2
    cases r with
    | zero => omega
    | succ r =>
      have hlt : i < ks1.length := by omega
      have hd := hzk _ (List.getElem_mem hlt)
      have ih := ih (i + 1) r (n + ((ks1[i].at 0).toS.size : Int).tdiv 100) (by omega) (by omega) (by rw [div_nat]; omega) (by rw [div_nat]; omega)
      rw [show ((i + 1 : Nat) : Int) = (i : Int) + 1 by omega] at ih
      have e := large_loop2 (ext := ext) (m := m) (k1 := k1) (n1 := n1) (b1 := b1) (s1 := s1) (ks1 := ks1) h1 h2 h3 hl hz l1.length 0 m n (by omega) (by omega) (by omega) (by omega)
      rw [List.drop_zero, show ((0 : Nat) : Int) = 0 from rfl] at e
      rw [large_1, e, show decide ((i : Int) < ks1.length) = true from decide_eq_true (by omega), idx_at hlt, List.drop_eq_getElem_cons hlt, cond_true, Option.bind_some]
      have w1 : W (((ks1[i].at 0).toS.size : Int).tdiv 100) = ((ks1[i].at 0).toS.size : Int).tdiv 100 := W_in (by rw [div_nat]; omega)
      have w2 : W (n + ((ks1[i].at 0).toS.size : Int).tdiv 100) = n + ((ks1[i].at 0).toS.size : Int).tdiv 100 := W_in (by rw [div_nat]; omega)
      rw [w1, w2, W_in (n := (i : Int) + 1) (by omega), ih]
      rfl
theorem large_run {ext : CallF} {k m : Nat} {k1 n1 : Int} {b1 : Bool} {s1 : ByteArray} {ks1 l1 : List Dat} {nest ahead : Int} (h : okZ (k + 1) s1 ks1 l1 nest ahead) (hm : 2000 < m) :
    evFn PR TK (largeC k ext) m 43 [.agg (obA k1 n1 b1 s1 ks1 l1), I nest, I ahead] [none, none, none] = nR (largeO (k + 1) (mkO k1 n1 b1 s1 ks1 l1) nest ahead) := by
  obtain ⟨h1, h2, h3, h4, h5, z1, z2, z3, z4, z5⟩ := h
  rw [large_0, orK_eq]
  have w0 := div_nat s1.size
  rw [W_in (n := (s1.size : Int).tdiv 100) (by omega), W_in (n := ahead + 1) (by omega), W_in (n := ahead + 1 + ks1.length) (by omega), W_in (n := ahead + 1 + ks1.length + l1.length) (by omega), W_in (n := ahead + 1 + ks1.length + l1.length + (s1.size : Int).tdiv 100) (by omega)]
  show _ = nR (bif decide (headN s1 ks1 l1 ahead > 2000) || decide (nest > 100) then -1 else itemsN (fun e n => largeO k e (nest + 1) n) l1 (keysN ks1 (headN s1 ks1 l1 ahead)))
  change (bif decide (headN s1 ks1 l1 ahead > 2000) || decide (nest > 100) then nR (-1) else largeL1 _ _ _ _ _ _ _ _ _ _ (headN s1 ks1 l1 ahead) 0) = _
  cases hc : decide (headN s1 ks1 l1 ahead > 2000) || decide (nest > 100)
  · rw [Bool.or_eq_false_iff] at hc
    have c1 := of_decide_eq_false hc.1
    have c2 := of_decide_eq_false hc.2
    rw [headN_eq] at c1
    have e := large_loop1 (ext := ext) (k := k) (m := m) (k1 := k1) (n1 := n1) (b1 := b1) (s1 := s1) (ks1 := ks1) (l1 := l1) (nest := nest) (by push_cast at h1; omega) h2 (by omega) (by omega) (by omega) z5 z4 hm ks1.length 0 m (headN s1 ks1 l1 ahead) (by omega) (by omega) (by rw [headN_eq]; omega) (by rw [headN_eq]; omega)
    rw [List.drop_zero, show ((0 : Nat) : Int) = 0 from rfl] at e
    rw [cond_false, cond_false, e]
  · rfl
theorem large_sound {ext : CallF} (hext : SoundCall PR ext) : ∀ k, SoundCall PR (largeC k ext) := by
  refine sound_rec (takes := TK) hmixP hext _ (fn := (PR.funcs[43]?).getD default) (by kernel_rfl) (by kernel_rfl) largeE (fun xs bs out h => ?_) (fun k xs bs out h => ?_)
  · unfold largeE at h
    split at h
    · injection h with h
      injection h with h _
      obtain ⟨h1, h2, h3, _⟩ := decP_of h
      simp at h1
      omega
    · cases h
  · unfold largeE at h
    split at h
    · injection h with h
      injection h with h1 h2
      subst h2
      exact ⟨2001, large_run (decP_of h1) (by omega)⟩
    · cases h
end Go.Proofs.YtckdgcpomkefpaaGreatDoor.En
end
section
set_option linter.unusedVariables false
set_option linter.unusedSimpArgs false
namespace Go.Proofs.YtckdgcpomkefpaaGreatDoor.En
open Go
def deferOf : Code → Option (Nat × FuncId × List Operand)
  | .region _ ops false => match ops.toList with
    | [⟨some t, .makeFunc (.func h) xs cs, _, _, _, none⟩, ⟨none, .defer { callee := .value (.tmp t'), args := ys, argTypes := _ }, _, _, _, none⟩] => bif Nat.beq t t' && xs.isEmpty && ys.isEmpty then some (t, h, cs.toList) else none
    | _ => none
  | _ => none
def recOf : Code → Option (Nat × Code)
  | .seq (.region _ ops false) rest => match ops.toList with
    | [⟨some t, .call { callee := .builtin .recover, args := _, argTypes := _ }, _, _, _, none⟩] => some (t, rest)
    | _ => none
  | _ => none
def unitK : Ex → St → Option Unit := fun x s => match x with | .normal => some () | .ret => some () | .exit _ => none
section
variable (P : Program) (takes : FuncId → Option Nat) (call : CallF)
def cloSt (fn : Func) (t : Nat) (v : Value) : St := (⟨List.replicate fn.ntmps .dead, List.replicate fn.ntmps none⟩ : St).put (some t) (.v v)
def cloRet (n : Nat) (h : FuncId) (m : Nat) : Bool := match P.funcs[h]? with
  | some fn => (match fn.body with
    | some c => (match recOf c with
      | some (t, rest) => fn.results.isEmpty && Nat.ble m fn.ntmps && !(fn.name == "runtime.NumGoroutine") && (evC P 0 takes call 0 n (fun _ => none) rest 0 [] (cloSt fn t .nilIface) unitK).isSome
      | none => false)
    | none => false)
  | none => false
def finK {β : Type} (fin : St → Option β) : Ex → St → Option β := fun x s => match x with | .normal => fin s | .ret => fin s | .exit _ => none
def evS {β : Type} (np ret n : Nat) (fin : St → Option β) : Code → St → Option β
  | .seq a b, s => match deferOf a with
    | some (t, h, cs) => bif Nat.blt t s.t.length && cloRet P takes call n h cs.length then evC P np takes call ret n (fun _ => none) b ret [] (s.put (some t) .dead) (finK fin) else none
    | none => evC P np takes call ret n (fun _ => none) a (liveC ret b ret []) [] s (fun x s => match x with | .normal => evS np ret n fin b (s.prune np (liveC ret b ret [])) | .ret => fin s | .exit _ => none)
  | _, _ => none
def okS : Code → Bool
  | .seq a b => match deferOf a with
    | some (t, h, cs) => okCode P b && (match (P.funcs[h]?).bind (·.body) with
      | some c => (match recOf c with | some (_, rest) => okCode P rest | none => false)
      | none => false)
    | none => okCode P a && okS b
  | _ => false
def okFnD (fn : Func) : Bool := !(fn.name == "runtime.NumGoroutine") && (match fn.body with | some c => okS P c | none => false)
def evFnD (n : Nat) (f : FuncId) (xs : List AV) (bx : Bx) : Option Out := match P.funcs[f]? with
  | some fn => (match fn.body with
    | some c => bif Nat.beq xs.length fn.params.size && Nat.beq bx.length fn.params.size && Nat.ble fn.params.size fn.ntmps then evS P takes call fn.params.size (retMask fn.results.toList) n (outOf P fn bx) c (entry fn xs bx) else none
    | none => none)
  | none => none
end
section
variable {P : Program} {F : Fx} {g g' : Gh} {s s' : St} {a a' : Act} {w w' : World} {takes : FuncId → Option Nat} {call : CallF}
theorem Inv.still (h : Inv P F g s a w) (hw : Fr (fun _ _ => False) w w') : Inv P F g s a w' := by
  have hle : g.Le g w w' := ⟨fun β j hj => ⟨hj, hw.cell (h.mem.gsz β j hj) fun t => t⟩, fun n v hv => hv, fun d β hd => hd⟩
  have same : ∀ β, β < w.heap.size → w'.heap[β]? = w.heap[β]? := fun β hβ => hw.same hβ fun _ t => t
  refine ⟨⟨fun β j hj => Nat.lt_of_lt_of_le (h.mem.gsz β j hj) hw.size, fun d cs hd => ?_, h.mem.apart, fun n v E hn => ?_, h.mem.tkap, h.mem.tkbx⟩, h.blen, h.len, fun i x hi => ?_, h.dfr, h.fr.trans hw (fun _ _ _ t => t) (fun _ _ _ t => t.elim), h.g0, h.gfr, h.tb, h.bb, h.pbx⟩
  · obtain ⟨β, us, T, e1, e2, e3, e4, e5⟩ := h.mem.box d cs hd
    have hlt := (Array.getElem?_eq_some_iff.1 e2).1
    exact ⟨β, us, T, e1, (same β hlt).trans e2, e3, e4, fun j c hc => let ⟨u, hu, hr⟩ := e5 j c hc; ⟨u, hu, hr.mono hle⟩⟩
  · exact (h.mem.own n v E hn).keep fun β hβ => ⟨same β ((h.mem.own n v E hn).lt hβ), fun j hj => hj⟩
  · obtain ⟨v, h1, h2⟩ := h.tm i x hi
    exact ⟨v, h1, h2.mono hle⟩
def Fx.anew (P : Program) (F : Fx) (g : Gh) (s : St) (a : Act) (w : World) (h : Inv P F g s a w) (ds : List Deferred) : Fx := ⟨w, g.G, TBof g, BBof g s.b, g.bx, F.np, ds, fun β hβ => ⟨h.laid.G β hβ, fun ⟨i, cs, hi, hb⟩ => by
  obtain ⟨β', us, T, h1, _, _, h2, _⟩ := h.mem.box i cs hi
  rw [hb] at h1
  cases h1
  exact h2 0 (h.laid.G β hβ 0)⟩, h.laid.P⟩
theorem Inv.anew (h : Inv P F g s a w) (ds : List Deferred) : Inv P (F.anew P g s a w h ds) g s { a with defers := ds } w :=
  ⟨h.mem, h.blen, h.len, h.tm, rfl, Fr.refl _ _, fun β j hj => hj, fun β j hj _ => .inl hj, fun n v E β hn hv => .inr ⟨n, v, E, hn, hv⟩, fun d cs β hd hb => .inr ⟨d, cs, hd, hb⟩, fun i _ _ => rfl⟩
theorem Inv.back (h : Inv P F g s a w) {ds : List Deferred} (h' : Inv P (F.anew P g s a w h ds) g' s' a' w') : Inv P F g' s' { a' with defers := F.ds } w' := by
  have size := h.fr.size
  refine ⟨h'.mem, h'.blen, h'.len, h'.tm, rfl, h.fr.trans h'.fr (fun _ _ _ t => t) (fun β j hlt t => ?_), fun β j hj => h'.g0 β j (h.g0 β j hj), fun β j hj hlt => ?_, fun n v E β hn hv => ?_, fun d cs β hd hb => ?_, fun i hi hne => ?_⟩
  · rcases t with ⟨d, cs, hd, hb⟩ | ⟨⟨n, y, E, hn, hy⟩, hg⟩
    · rcases h.bb d cs β hd hb with h1 | h1
      · omega
      · exact .inl h1
    · rcases h.tb n y E β hn hy with h1 | h1
      · omega
      · exact .inr ⟨h1, fun hG => hg (h.g0 β j hG)⟩
  · rcases h'.gfr β j hj (Nat.lt_of_lt_of_le hlt size) with h1 | ⟨n, y, E, hn, hy⟩
    · exact h.gfr β j h1 hlt
    · rcases h.tb n y E β hn hy with h2 | h2
      · omega
      · exact .inr h2
  · rcases h'.tb n v E β hn hv with h1 | ⟨n2, y, E2, hn2, hy⟩
    · exact .inl (Nat.le_trans size h1)
    · exact h.tb n2 y E2 β hn2 hy
  · rcases h'.bb d cs β hd hb with h1 | ⟨d2, cs2, hd2, hb2⟩
    · exact .inl (Nat.le_trans size h1)
    · exact h.bb d2 cs2 β hd2 hb2
  · have h1 := h.pbx i hi hne
    have h2 := h'.pbx i hi (by show g.bx i ≠ none; rw [h1]; exact hne)
    exact h2.trans h1
theorem deferOf_eq {c : Code} {t : Nat} {h : FuncId} {cs : List Operand} (hd : deferOf c = some (t, h, cs)) : ∃ (id : Nat) (caps : Array Operand) (ty1 ty2 : TypeId) (p1 p2 : String) (a1 a2 : Array Edge) (Ts : Array TypeId), cs = caps.toList ∧
    c = .region id #[⟨some t, .makeFunc (.func h) #[] caps, ty1, p1, a1, none⟩, ⟨none, .defer { callee := .value (.tmp t), args := #[], argTypes := Ts }, ty2, p2, a2, none⟩] false := by
  unfold deferOf at hd
  split at hd
  · rename_i id ops
    split at hd
    · rename_i t1 h1 xs caps ty1 p1 a1 t2 ys Ts ty2 p2 a2 hops
      obtain ⟨hc, hd⟩ := bif_some hd
      cases hd
      simp only [Bool.and_eq_true] at hc
      obtain ⟨⟨c1, c2⟩, c3⟩ := hc
      have e1 := Nat.eq_of_beq_eq_true c1
      subst e1
      have e2 : xs = #[] := by simpa using c2
      have e3 : ys = #[] := by simpa using c3
      subst e2 e3
      refine ⟨id, caps, ty1, ty2, p1, p2, a1, a2, Ts, rfl, ?_⟩
      have e4 : ops = #[_, _] := Array.ext' hops
      rw [e4]
    · cases hd
  · cases hd
theorem recOf_eq {c : Code} {t : Nat} {rest : Code} (h : recOf c = some (t, rest)) : ∃ (id : Nat) (xs : Array Operand) (Ts : Array TypeId) (ty : TypeId) (p : String) (af : Array Edge),
    c = .seq (.region id #[⟨some t, .call { callee := .builtin .recover, args := xs, argTypes := Ts }, ty, p, af, none⟩] false) rest := by
  unfold recOf at h
  split at h
  · rename_i id ops rest'
    split at h
    · rename_i t1 xs Ts ty p af hops
      cases h
      refine ⟨id, xs, Ts, ty, p, af, ?_⟩
      have e4 : ops = #[_] := Array.ext' hops
      rw [e4]
    · cases h
  · cases h
def gN (g : Gh) : Gh := ⟨g.G, fun _ => none, fun _ => none⟩
theorem gN_mem (hm : Mem P g w s.b) (b : Bx) (hb : ∀ x ∈ b, x = none) : Mem P (gN g) w b := by
  have hn : ∀ d cs, b[d]? = some (some cs) → False := fun d cs h => by have := hb _ (List.mem_of_getElem? h); cases this
  exact ⟨hm.gsz, fun d cs h => (hn d cs h).elim, fun d d' β cs cs' h => (hn d cs h).elim, fun n v E h => (by cases h), fun n m v v' E E' β h => (by cases h), fun n v E β d cs h => (by cases h)⟩
theorem clo_ret (hmix : P.follows .mixedOrders = true) (hcall : SoundCall P call) {n : Nat} {h : FuncId} {args : Array Value} (hc : cloRet P takes call n h args.size = true)
    (hok : (match (P.funcs[h]?).bind (·.body) with
      | some c => (match recOf c with | some (_, rest) => okCode P rest | none => false)
      | none => false) = true) (hI : Inv P F g s a w) : CallsD P h args .returning w fun e u' w' => u' = .returning ∧ (∃ v, e = .returned v) ∧ Fr (fun _ _ => False) w w' := by
  unfold cloRet at hc
  cases hf : P.funcs[h]? with
  | none => rw [hf] at hc; cases hc
  | some fn =>
    rw [hf] at hc hok
    dsimp only at hc
    cases hb : fn.body with
    | none => rw [hb] at hc; cases hc
    | some c =>
      rw [hb] at hc
      simp only [Option.bind_some, hb] at hok
      dsimp only at hc
      cases hr : recOf c with
      | none => rw [hr] at hc; cases hc
      | some tr =>
        obtain ⟨t, rest⟩ := tr
        rw [hr] at hc hok
        dsimp only at hc hok
        simp only [Bool.and_eq_true] at hc
        obtain ⟨⟨⟨c1, c2⟩, c3⟩, c4⟩ := hc
        have hm := Nat.le_of_ble_eq_true c2
        obtain ⟨o, ho⟩ := Option.isSome_iff_exists.1 c4
        obtain ⟨id, xs, Ts, ty, p, af, rfl⟩ := recOf_eq hr
        refine callsD_of_wpS hf hb fun c₀ cs hu => wpS_seq (wpS_region ?_)
        simp only [show (List.range (#[(⟨some t, .call { callee := .builtin .recover, args := xs, argTypes := Ts }, ty, p, af, none⟩ : Oper)]).size) = [0] from rfl, wpOpsS, List.getElem?_toArray, List.getElem?_cons_zero, Region.wanted, if_true]
        have hrun : (execOp (({ tmps := args ++ Array.replicate (fn.ntmps - args.size) undef, defers := [] } : Act).eval) (⟨some t, .call { callee := .builtin .recover, args := xs, argTypes := Ts }, ty, p, af, none⟩ : Oper)).run P w = .ok .recover w := by
          simp [execOp, resolve, invoke, builtin]
        rw [hrun]
        dsimp only
        have hrec : recoverD (c₀ :: cs) = none := by
          simp [recoverD, hu]
        rw [hrec]
        dsimp only
        show Code.wpS P rest _ _ _ _
        refine wpS_of_wp ?_
        have hL : Laid (gN g) w := ⟨hI.laid.G, hI.laid.P⟩
        have hM : ∀ b : Bx, (∀ x ∈ b, x = none) → Mem P (gN g) w b := fun b hb => gN_mem hI.mem b hb
        have h0 : Mem P (gN g) w (List.replicate fn.ntmps none) := hM _ fun x hx => (List.mem_replicate.1 hx).2
        have hInv : Inv P (fxOf (gN g) w (List.replicate fn.ntmps none) 0 h0 hL) (gN g) (cloSt fn t .nilIface) (({ tmps := args ++ Array.replicate (fn.ntmps - args.size) undef, defers := [] } : Act).put (some t) .nilIface) w := by
          refine ⟨h0, by simp [cloSt, St.put], by simp [cloSt, St.put, Act.put]; omega, fun i x hi => ?_, rfl, Fr.refl _ _, fun β j h => h, fun β j h _ => .inl h, fun n v E β h1 h2 => (by cases h1), fun d cs β h1 h2 => (by
            have : (List.replicate fn.ntmps (none : Option (List AV)))[d]? = some (some cs) := h1
            rw [List.getElem?_replicate] at this
            split at this <;> cases this), fun i _ _ => rfl⟩
          have hi' : ((List.replicate fn.ntmps AV.dead).set t (.v .nilIface))[i]? = some x := hi
          have hsz : (args ++ Array.replicate (fn.ntmps - args.size) undef).size = fn.ntmps := by simp; omega
          rw [List.getElem?_set] at hi'
          show ∃ v, ((args ++ Array.replicate (fn.ntmps - args.size) undef).setIfInBounds t .nilIface)[i]? = some v ∧ _
          rw [Array.getElem?_setIfInBounds]
          split at hi'
          · rename_i e
            subst e
            split at hi'
            · rename_i hlt
              cases hi'
              have hlt' : t < fn.ntmps := by simpa using hlt
              rw [if_pos rfl, if_pos (by rw [hsz]; exact hlt')]
              exact ⟨_, rfl, rfl, rfl⟩
            · cases hi'
          · rename_i e
            rw [List.getElem?_replicate] at hi'
            split at hi'
            · rename_i hlt
              cases hi'
              rw [if_neg e, Array.getElem?_eq_getElem (by rw [hsz]; exact hlt)]
              exact ⟨_, rfl, trivial⟩
            · cases hi'
        refine evC_sound (F := fxOf (gN g) w (List.replicate fn.ntmps none) 0 h0 hL) hmix hcall (takes := takes) _ rest _ _ hok _ _ o _ _ w _ ho hInv (fun x g' s' a' w' e hI' => ?_) (fun v a' w' e hd hf => by cases e)
        have fin : bodyPostS P fn c₀ cs (fun e u' w' => u' = .returning ∧ (∃ v, e = .returned v) ∧ Fr (fun _ _ => False) w w') .normal a' (c₀ :: cs) w' := by
          refine ⟨hI'.dfr, .returning, ?_, ?_⟩
          · rw [← hu]
          · have hres : fn.results = #[] := by simpa using c1
            have : (results fn a'.tmps).run P w' = .ok (.tuple #[]) w' := by
              rw [results_eq, hres]; simp
            refine ⟨_, this, rfl, ⟨_, rfl⟩, hI'.fr.mono fun β j _ t => ?_⟩
            rcases t with ⟨i, cs, hi, _⟩ | ⟨⟨n, y, E, hn, _⟩, _⟩
            · rw [List.getElem?_replicate] at hi
              split at hi <;> cases hi
            · cases hn
        cases x with
        | normal => exact fin
        | ret => exact fin
        | exit id => cases e
theorem clo_fn {n : Nat} {h : FuncId} {m : Nat} (hc : cloRet P takes call n h m = true) : ∃ fn, P.funcs[h]? = some fn ∧ fn.body.isSome = true ∧ (fn.name == "runtime.NumGoroutine") = false := by
  unfold cloRet at hc
  cases hf : P.funcs[h]? with
  | none => rw [hf] at hc; cases hc
  | some fn =>
    rw [hf] at hc
    dsimp only at hc
    cases hb : fn.body with
    | none => rw [hb] at hc; cases hc
    | some c =>
      rw [hb] at hc
      dsimp only at hc
      cases hr : recOf c with
      | none => rw [hr] at hc; cases hc
      | some tr =>
        rw [hr] at hc
        simp only [Bool.and_eq_true, Bool.not_eq_true'] at hc
        exact ⟨fn, rfl, by rw [hb]; rfl, hc.1.2⟩
theorem evS_sound (hmix : P.follows .mixedOrders = true) (hcall : SoundCall P call) {ret n : Nat} {fn : Func} {R : Ending → World → Prop} {β : Type} {fin : St → Option β} {o : β} (hF : F.ds = [])
    (post : ∀ g' s' a' w', fin s' = some o → Inv P F g' s' a' w' → ∃ v, (results fn a'.tmps).run P w' = .ok v w' ∧ R (.returned v) w') :
    ∀ (c : Code), okS P c = true → ∀ (s : St) (g : Gh) (a : Act) (w : World), evS P takes call F.np ret n fin c s = some o → Inv P F g s a w → c.wp P (bodyPostD P fn R) a w
  | .seq x y, hok, s, g, a, w, h, hI => by
    have leave : ∀ g' s' a' w', fin s' = some o → Inv P F g' s' a' w' → Leaves P fn a'.tmps R a'.defers .returning w' := fun g' s' a' w' e hI' => by
      rw [hI'.dfr, hF]
      exact post g' s' a' w' e hI'
    unfold evS at h
    simp only [okS] at hok
    cases hd : deferOf x with
    | none =>
      rw [hd] at h hok
      simp only [Bool.and_eq_true] at hok
      refine wp_seq (evC_sound hmix hcall (takes := takes) _ x _ _ hok.1 s _ o g a w _ h hI (fun e g' s' a' w' he hI' => ?_) (fun v a' w' e _ _ => by cases e))
      cases e with
      | normal => exact evS_sound hmix hcall hF post y hok.2 _ g' a' w' he (prune_rep hI')
      | ret => exact leave g' s' a' w' he hI'
      | exit id => cases he
    | some tr =>
      obtain ⟨t, hid, cs⟩ := tr
      rw [hd] at h hok
      dsimp only at h hok
      rw [Bool.and_eq_true] at hok
      have hb' := bif_some h
      clear h
      obtain ⟨hclo, h⟩ := hb'
      rw [Bool.and_eq_true] at hclo
      have tlt : t < a.tmps.size := by rw [hI.len]; exact Nat.le_of_ble_eq_true hclo.1
      obtain ⟨id, caps, ty1, ty2, p1, p2, af1, af2, Ts, rfl, rfl⟩ := deferOf_eq hd
      refine wp_seq (wp_region_list ?_)
      have e1 : (execOp a.eval ⟨some t, .makeFunc (.func hid) #[] caps, ty1, p1, af1, none⟩).run P w = .ok (.value (.func (.func hid) #[] (caps.map a.eval))) w := by
        simp [execOp, Instr.makeFunc]
      let d : Deferred := { target := .fn (.func hid) (caps.map a.eval), args := #[] }
      have e2 : (execOp ((a.put (some t) (.func (.func hid) #[] (caps.map a.eval))).eval) ⟨none, .defer { callee := .value (.tmp t), args := #[], argTypes := Ts }, ty2, p2, af2, none⟩).run P w = .ok (.defer d) w := by
        have ht : (a.put (some t) (.func (.func hid) #[] (caps.map a.eval))).eval (.tmp t) = .func (.func hid) #[] (caps.map a.eval) := by
          have hlt : t < a.tmps.size := tlt
          simp [Act.put, Act.eval, hlt]
        simp [execOp, resolve, Deferred.ofValue, ht, d]
      have hw : ∀ (o : Oper) y, o.guard = none → Region.wanted o y = true := fun o y ho => by unfold Region.wanted; rw [ho]
      simp only [wpList]
      rw [if_pos (hw _ _ rfl)]
      refine .inl ?_
      unfold Oper.wp
      rw [e1, Oper.upon_value, if_pos (hw _ _ rfl)]
      refine .inl ?_
      rw [e2, Oper.upon_defer]
      have h1 : Inv P F g (s.put (some t) .dead) (a.put (some t) (.func (.func hid) #[] (caps.map a.eval))) w := hI.put (some t) (x := .dead) trivial
      have h2 := h1.anew [d]
      have ha : ({ (a.put (some t) (.func (.func hid) #[] (caps.map a.eval))) with defers := d :: (a.put (some t) (.func (.func hid) #[] (caps.map a.eval))).defers } : Act).put none undef = { (a.put (some t) (.func (.func hid) #[] (caps.map a.eval))) with defers := [d] } := by
        have : (a.put (some t) (.func (.func hid) #[] (caps.map a.eval))).defers = [] := h1.dfr.trans hF
        rw [this]; rfl
      show Code.wp P y _ _ w
      rw [ha]
      refine evC_sound (F := F.anew P _ _ _ _ h1 [d]) hmix hcall (takes := takes) _ y _ _ hok.1 _ _ o g _ w _ h h2 (fun e g' s' a' w' he hI' => ?_) (fun v a' w' e _ _ => by cases e)
      have fin' : fin s' = some o → Leaves P fn a'.tmps R a'.defers .returning w' := fun e => by
        rw [hI'.dfr]
        have hret := clo_ret hmix hcall (args := #[] ++ caps.map a.eval) (by simpa using hclo.2) hok.2 (h1.back hI')
        refine leaves_cons (f := hid) (args := #[] ++ caps.map a.eval) (by intro e; cases e) ?_ (hret.mono fun e' u' w'' hr => ?_)
        · obtain ⟨fh, hfh, hbh, hnh⟩ := clo_fn hclo.2
          have hb : ¬ fh.body = none := by intro e; rw [e] at hbh; cases hbh
          have hn : ¬ fh.name = "runtime.NumGoroutine" := by simpa using hnh
          simp [invoke, callFunc, hfh, hn, hb]
        · obtain ⟨rfl, ⟨v, rfl⟩, hfr⟩ := hr
          exact post g' s' { a' with defers := F.ds } w'' e ((h1.back hI').still hfr)
      cases e with
      | normal => exact fin' he
      | ret => exact fin' he
      | exit id => cases he
  | .skip, hok, s, g, a, w, h, hI => by cases h
  | .region .., hok, s, g, a, w, h, hI => by cases h
  | .cond .., hok, s, g, a, w, h, hI => by cases h
  | .block .., hok, s, g, a, w, h, hI => by cases h
  | .loop .., hok, s, g, a, w, h, hI => by cases h
  | .exit .., hok, s, g, a, w, h, hI => by cases h
  | .ret, hok, s, g, a, w, h, hI => by cases h
  | .rangeFunc .., hok, s, g, a, w, h, hI => by cases h
  | .scope .., hok, s, g, a, w, h, hI => by cases h
  | .label .., hok, s, g, a, w, h, hI => by cases h
  | .goto .., hok, s, g, a, w, h, hI => by cases h
  | .refuse .., hok, s, g, a, w, h, hI => by cases h
theorem sound_fnD (hmix : P.follows .mixedOrders = true) (hext : SoundCall P call) {f : FuncId} {fn : Func} (hf : P.funcs[f]? = some fn) (hok : okFnD P fn = true) {n : Nat} {xs : List AV} {bs : Bx} {out : Out} (h : evFnD P takes call n f xs bs = some out) :
    (∃ fn, P.funcs[f]? = some fn ∧ fn.body.isSome = true ∧ (fn.name == "runtime.NumGoroutine") = false) ∧ ∀ (g : Gh) (w : World) (vs : Array Value), Mem P g w bs → Laid g w → bs.length = xs.length → vs.size = xs.length →
  (∀ (i : Nat) x, xs[i]? = some x → ∃ v, vs[i]? = some v ∧ RepS P g w x v) → Calls P f vs w (PostOf P g w bs out) := by
  unfold evFnD at h
  rw [hf] at h
  dsimp only at h
  unfold okFnD at hok
  simp only [Bool.and_eq_true, Bool.not_eq_true'] at hok
  cases hb : fn.body with
  | none => rw [hb] at h; cases h
  | some c =>
    rw [hb] at h hok
    dsimp only at h hok
    obtain ⟨hchk, h⟩ := bif_some h
    simp only [Bool.and_eq_true] at hchk
    have hbl : bs.length = fn.params.size := Nat.eq_of_beq_eq_true hchk.1.2
    refine ⟨⟨fn, hf, by rw [hb]; rfl, hok.1⟩, fun g w vs hm hL hl hv hr => ?_⟩
    exact calls_of_wp_defers hf hb (evS_sound (F := fxOf g w bs fn.params.size hm hL) hmix hext (takes := takes) rfl (fun g' s' a' w' e hI' => by
      obtain ⟨x, v, bs', g2, rfl, hrun, post⟩ := outOf_sound hm hL hI' hbl e
      exact ⟨x, hrun, x, g2, rfl, post⟩) c hok.2 _ g _ w h (entry_inv hm hL hl hv hr))
theorem sound_addD {ext : CallF} (hmix : P.follows .mixedOrders = true) (hext : SoundCall P ext) (f : FuncId) {fn : Func} (hf : P.funcs[f]? = some fn) (hok : okFnD P fn = true) (ent : List AV → Bx → Option (Bool × Out))
    (h : ∀ xs bs out, ent xs bs = some (true, out) → ∃ n, evFnD P takes ext n f xs bs = some out) : SoundCall P (addF f ent ext) := fun g xs bs out ho => by
  unfold addF at ho
  cases hg : Nat.beq g f <;> rw [hg] at ho <;> simp only [cond_true, cond_false] at ho
  · exact hext g xs bs out ho
  · have e : g = f := Nat.eq_of_beq_eq_true hg
    subst e
    obtain ⟨n, hn⟩ := h xs bs out ho
    obtain ⟨h1, h2⟩ := sound_fnD hmix hext hf hok hn
    refine ⟨h1, fun gh w vs a1 aL a2 a3 a4 => ?_⟩
    have := h2 gh w vs a1 aL a2 a3 a4
    cases out <;> exact this
end
end Go.Proofs.YtckdgcpomkefpaaGreatDoor.En
end
section
namespace Go.Proofs
open Go.Shelf
def Tryz.laysB_ren : Go.Shelf.Ren := ⟨fun | 167 => 71 | 105 => 99 | 212 => 124 | 99 => 103 | 165 => 125 | 166 => 66 | 170 => 46 | 169 => 47 | 263 => 140 | 264 => 141 | 206 => 126 | 240 => 96 | 241 => 142 | 276 => 119 | 277 => 164 | n => n, fun | 9 => 9 | 3 => 3 | 4 => 4 | 20 => 20 | 0 => 0 | 46 => 118 | 109 => 138 | 5 => 5 | 72 => 79 | 76 => 102 | 51 => 156 | 146 => 157 | 53 => 148 | 148 => 159 | 70 => 77 | 37 => 57 | 75 => 101 | 127 => 108 | 164 => 129 | 80 => 82 | n => n, fun | n => n⟩
theorem Tryz.laysB : Go.Proofs.Lays.n167 Tryz.prog Tryz.laysB_ren := {
  mixed := by kernel_rfl
  f167 := Tryz.func71.trans (congrArg some (by kernel_rfl))
  f240 := Tryz.func96.trans (congrArg some (by kernel_rfl))
  f276 := Tryz.func119.trans (congrArg some (by kernel_rfl))
  t0 := Tryz.underlying0
  a0 := Tryz.isAgg0
  z0 := Tryz.sizeOf0
  v0 := Tryz.zeroValue0
  t4 := Tryz.underlying4
  a4 := Tryz.isAgg4
  z4 := Tryz.sizeOf4
  v4 := Tryz.zeroValue4
  t5 := Tryz.underlying5
  a5 := Tryz.isAgg5
  z5 := Tryz.sizeOf5
  v5 := Tryz.zeroValue5
  t9 := Tryz.underlying9
  a9 := Tryz.isAgg9
  z9 := Tryz.sizeOf9
  v9 := Tryz.zeroValue9
  t20 := Tryz.underlying20
  a20 := Tryz.isAgg20
  z20 := Tryz.sizeOf20
  v20 := Tryz.zeroValue20
  t37 := Tryz.underlying57
  a37 := Tryz.isAgg57
  z37 := Tryz.sizeOf57
  v37 := Tryz.zeroValue57
  t70 := Tryz.underlying77
  a70 := Tryz.isAgg77
  z70 := Tryz.sizeOf77
  v70 := Tryz.zeroValue77
  t72 := Tryz.underlying79
  a72 := Tryz.isAgg79
  z72 := Tryz.sizeOf79
  v72 := Tryz.zeroValue79
  t75 := Tryz.underlying101
  a75 := Tryz.isAgg101
  z75 := Tryz.sizeOf101
  v75 := Tryz.zeroValue101
  t164 := Tryz.underlying129
  a164 := Tryz.isAgg129
  z164 := Tryz.sizeOf129
  v164 := Tryz.zeroValue129 }
theorem Tryz.Builder_Extra_B : Builder.Extra Tryz.prog Tryz.laysB_ren := {
  sizeBuilder := by kernel_rfl
  liesBuilder := by kernel_rfl
  t5 := Tryz.underlying5
  a5 := Tryz.isAgg5
  z5 := Tryz.sizeOf5
  v5 := Tryz.zeroValue5
  infoByte := by kernel_rfl
  cellsByte := by kernel_rfl
  sizeByte := by kernel_rfl
  neB5 := by decide }
end Go.Proofs
end
section
set_option linter.unusedVariables false
set_option linter.unusedSimpArgs false
namespace Go.Proofs.YtckdgcpomkefpaaGreatDoor.En
open Go Go.Shelf Go.RowKit
section
variable {P : Program} {ext call : CallF} {g g' : Gh} {w w' : World} {b bs : Bx}
theorem sound_ext (hext : SoundCall P ext) (f : FuncId) {fn : Func} (hf : P.funcs[f]? = some fn) (hok : (fn.body.isSome && !(fn.name == "runtime.NumGoroutine")) = true) (ent : List AV → Bx → Option (Bool × Out))
    (h : ∀ xs bs out, ent xs bs = some (true, out) → ∀ (g : Gh) (w : World) (vs : Array Value), Mem P g w bs → Laid g w → bs.length = xs.length → vs.size = xs.length →
      (∀ (i : Nat) x, xs[i]? = some x → ∃ v, vs[i]? = some v ∧ RepS P g w x v) → Calls P f vs w (PostOf P g w bs out)) : SoundCall P (addF f ent ext) := fun k xs bs out ho => by
  unfold addF at ho
  cases hg : Nat.beq k f <;> rw [hg] at ho <;> simp only [cond_true, cond_false] at ho
  · exact hext k xs bs out ho
  · have e : k = f := Nat.eq_of_beq_eq_true hg
    subst e
    rw [Bool.and_eq_true, Bool.not_eq_true'] at hok
    refine ⟨⟨fn, hf, hok.1, hok.2⟩, fun gh w vs a1 aL a2 a3 a4 => ?_⟩
    have := h xs bs out ho gh w vs a1 aL a2 a3 a4
    cases out <;> exact this
theorem args_v (l : List Value) {vs : Array Value} (hv : vs.size = (l.map AV.v).length) (hr : ∀ (i : Nat) x, (l.map AV.v)[i]? = some x → ∃ v, vs[i]? = some v ∧ RepS P g w x v) : vs = l.toArray := by
  apply Array.ext_getElem?
  intro i
  cases hi : l[i]? with
  | none =>
    have : l.length ≤ i := List.getElem?_eq_none_iff.1 hi
    rw [Array.getElem?_eq_none (by simp at hv; omega), Array.getElem?_eq_none (by simpa using this)]
  | some x =>
    obtain ⟨v, h1, h2⟩ := hr i (.v x) (by rw [List.getElem?_map, hi]; rfl)
    obtain ⟨rfl, _⟩ := (show v = x ∧ _ from h2)
    rw [h1]; simp [hi]
theorem Mem.still (h : Mem P g w b) (hw : Fr (fun _ _ => False) w w') : Mem P g w' b := by
  have hle : g.Le g w w' := ⟨fun β j hj => ⟨hj, hw.cell (h.gsz β j hj) fun t => t⟩, fun n v hv => hv, fun d β hd => hd⟩
  have same : ∀ β, β < w.heap.size → w'.heap[β]? = w.heap[β]? := fun β hβ => hw.same hβ fun _ t => t
  refine ⟨fun β j hj => Nat.lt_of_lt_of_le (h.gsz β j hj) hw.size, fun d cs hd => ?_, h.apart, fun n v E hn => ?_, h.tkap, h.tkbx⟩
  · obtain ⟨β, us, T, e1, e2, e3, e4, e5⟩ := h.box d cs hd
    have hlt := (Array.getElem?_eq_some_iff.1 e2).1
    exact ⟨β, us, T, e1, (same β hlt).trans e2, e3, e4, fun j c hc => let ⟨u, hu, hr⟩ := e5 j c hc; ⟨u, hu, hr.mono hle⟩⟩
  · exact (h.own n v E hn).keep fun β hβ => ⟨same β ((h.own n v E hn).lt hβ), fun j hj => hj⟩
theorem post_v (hm : Mem P g w bs) (hb : ∀ x ∈ bs, x = none) {x : Value} (hx : x.oneCell' = true) (hw : Fr (fun _ _ => False) w w') : PostOf P g w bs (.ret (.v x) bs) (.returned x) w' := by
  have hn : ∀ (d : Nat) cs, bs[d]? = some (some cs) → False := fun d cs h => by have := hb _ (List.mem_of_getElem? h); cases this
  exact ⟨x, g, rfl, hm.still hw, rfl, fun i cs h => ⟨cs, h⟩, ⟨rfl, hx⟩, hw.mono fun _ _ _ t => t.elim, fun _ _ h => h, fun β j h _ => .inl h, fun n y E β h1 h2 => .inr ⟨n, y, E, h1, h2⟩, fun i cs h => rfl, fun i j m cs E l h => (hn i cs h).elim, trivial, trivial⟩
end
def ixE : List AV → Bx → Option (Bool × Out)
  | [.v (.string s), .v (.int .u8 c)], [none, none] => some (true, .ret (I (Lib.indexByte s.data.toList c.toNat.toUInt8)) [none, none])
  | _, _ => none
theorem ix_sound {ext : CallF} (hext : SoundCall PR ext) : SoundCall PR (addF 95 ixE ext) := by
  refine sound_ext hext _ (fn := (PR.funcs[95]?).getD default) (by kernel_rfl) (by kernel_rfl) ixE fun xs bs out h g w vs hm hL hl hv hr => ?_
  unfold ixE at h
  split at h
  · rename_i s c
    cases h
    obtain rfl := args_v (P := PR) [.string s, .int .u8 c] hv hr
    refine (Tryz.strings_IndexByte s c w).mono fun e w' he => ?_
    obtain ⟨rfl, rfl⟩ := he
    exact post_v hm (by simp) rfl (Fr.refl _ _)
  · cases h
def digF : Nat → Nat → List UInt8
  | 0, _ => []
  | k + 1, u => bif Nat.blt u 10 then [UInt8.ofNat (48 + u)] else digF k (u / 10) ++ [UInt8.ofNat (48 + u % 10)]
theorem digF_eq : ∀ (k u : Nat), u < 10 ^ (k + 1) → digF (k + 1) u = Lib.decDigits u
  | k, u, h => by
    rw [Lib.decDigits]
    unfold digF
    cases hb : Nat.blt u 10
    · have : ¬ u < 10 := fun e => by have : Nat.blt u 10 = true := Nat.ble_eq_true_of_le e; rw [hb] at this; cases this
      rw [dif_neg this]
      cases k with
      | zero => omega
      | succ k => rw [← digF_eq k (u / 10) (by rw [Nat.pow_succ] at h; omega)]; rfl
    · have : u < 10 := Nat.le_of_ble_eq_true hb
      rw [dif_pos this]; rfl
def itoaF (n : Int) : List UInt8 := bif decide (n < 0) then 45 :: digF 20 n.natAbs else digF 20 n.toNat
def itoaE : List AV → Bx → Option (Bool × Out)
  | [.v (.int .i64 n)], [none] => some (decide (-9223372036854775808 ≤ n) && decide (n ≤ 9223372036854775807), .ret (S ⟨(itoaF n).toArray⟩) [none])
  | _, _ => none
theorem itoaF_eq {n : Int} (h0 : -9223372036854775808 ≤ n) (h1 : n ≤ 9223372036854775807) : itoaF n = Lib.itoa n := by
  unfold itoaF Lib.itoa
  by_cases h : n < 0
  · rw [if_pos h, decide_eq_true h, digF_eq 19 n.natAbs (by omega)]; rfl
  · rw [if_neg h, decide_eq_false h, digF_eq 19 n.toNat (by omega)]; rfl
theorem itoa_sound {ext : CallF} (hext : SoundCall PR ext) : SoundCall PR (addF 58 itoaE ext) := by
  refine sound_ext hext _ (fn := (PR.funcs[58]?).getD default) (by kernel_rfl) (by kernel_rfl) itoaE fun xs bs out h g w vs hm hL hl hv hr => ?_
  unfold itoaE at h
  split at h
  · rename_i n
    injection h with h
    injection h with hc h
    subst h
    rw [Bool.and_eq_true, decide_eq_true_eq, decide_eq_true_eq] at hc
    obtain rfl := args_v (P := PR) [.int .i64 n] hv hr
    rw [itoaF_eq hc.1 hc.2]
    refine (Tryz.strconv_Itoa n hc.1 hc.2 w hL.P.pow).mono fun e w' he => ?_
    obtain ⟨rfl, k, os, rfl⟩ := he
    refine post_v hm (by simp) rfl (Fr.of_below (B := w.heap.size) ⟨rfl, rfl, rfl, by show w.heap.size ≤ (w.heap ++ os).size; simp, fun i hi => ?_⟩ (Nat.le_refl _))
    show (w.heap ++ os)[i]? = w.heap[i]?
    rw [Array.getElem?_append_left hi]
  · cases h
def tokOk : Option Nat → Bool | none => true | some m => Nat.beq m (sub 0 1)
theorem tokOk_eq {t : Option Nat} (h : tokOk t = true) {m : Nat} (e : t = some m) : m = sub 0 1 := by
  subst e
  exact Nat.eq_of_beq_eq_true h
def ccE : List AV → Bx → Option (Bool × Out)
  | [.box 0 0], [some [.self T, .row t E l]] => bif Nat.beq T 79 && tokOk t then some (true, .ret (.tup []) [some [.self T, .row t E l]]) else none
  | _, _ => none
theorem one_box {P : Program} {g : Gh} {w : World} {cs : List AV} (hm : Mem P g w [some cs]) {vs : Array Value} (hv : vs.size = 1) (hr : ∀ (i : Nat) x, [AV.box 0 0][i]? = some x → ∃ v, vs[i]? = some v ∧ RepS P g w x v) :
    ∃ (β : Nat) (us : Array Value) (T : TypeId), g.bx 0 = some β ∧ vs = #[.pointer (some ⟨β, 0, none⟩)] ∧ w.heap[β]? = some (.cells us T (0, 0)) ∧ us.size = cs.length ∧ (∀ j, ¬ g.G β j) ∧ ∀ (j : Nat) c, cs[j]? = some c → ∃ u, us[j]? = some u ∧ RepB P g w T β j c u := by
  obtain ⟨β, us, T, e1, e2, e3, e4, e5⟩ := hm.box 0 cs rfl
  refine ⟨β, us, T, e1, ?_, e2, e3, e4, e5⟩
  obtain ⟨v, h1, h2⟩ := hr 0 _ rfl
  obtain ⟨β', h3, rfl⟩ := (show ∃ β, g.bx 0 = some β ∧ v = .pointer (some ⟨β, 0, none⟩) from h2)
  rw [e1] at h3
  cases h3
  apply Array.ext_getElem?
  intro i
  match i with
  | 0 => exact h1
  | i + 1 => rw [Array.getElem?_eq_none (by omega), Array.getElem?_eq_none (by simp)]
theorem cc_sound {ext : CallF} (hext : SoundCall PR ext) : SoundCall PR (addF 96 ccE ext) := by
  refine sound_ext hext _ (fn := (PR.funcs[96]?).getD default) (by kernel_rfl) (by kernel_rfl) ccE fun xs bs out h g w vs hm hL hl hv hr => ?_
  unfold ccE at h
  split at h
  · rename_i T t E l
    obtain ⟨hc, h⟩ := bif_some h
    cases h
    rw [Bool.and_eq_true] at hc
    obtain ⟨β, us, T', e1, rfl, e2, e3, e4, e5⟩ := one_box hm hv hr
    obtain ⟨u0, hu0, hT, hs⟩ := e5 0 _ rfl
    obtain ⟨u1, hu1, hrow⟩ := e5 1 _ rfl
    have hT' : T' = 79 := by rw [← hT]; exact Nat.eq_of_beq_eq_true hc.1
    subst hT'
    have hcell : w.cell? ⟨β, 0, none⟩ = some u0 := by simp [World.cell?, e2, hu0]
    have canon : ∀ (i j m : Nat) cs E' l', [some [AV.self T, .row t E l]][i]? = some (some cs) → cs[j]? = some (.row (some m) E' l') → m = sub i j := fun i j m cs E' l' hi hj => by
      match i, hi with
      | 0, hi =>
        cases hi
        match j, hj with
        | 0, hj => cases hj
        | 1, hj => cases hj; exact tokOk_eq hc.2 rfl
    rcases hs with rfl | rfl
    · refine (Any.Builder_copyCheck_fresh (ρ := Tryz.laysB_ren) { Tryz.laysB with } Tryz.Builder_Extra_B.toX72 β w hcell (by show w.shape? β = some (79, 2); simp [World.shape?, e2, e3]) (by simp [World.frozen?, e2])).mono fun e w' he => ?_
      obtain ⟨rfl, rfl⟩ := he
      have hβ := (Array.getElem?_eq_some_iff.1 e2).1
      have hnew : (w.setCell ⟨β, 0, none⟩ (.pointer (some ⟨β, 0, none⟩))).heap[β]? = some (.cells (us.setIfInBounds 0 (.pointer (some ⟨β, 0, none⟩))) 79 (0, 0)) := by
        simp [World.setCell, Array.getElem?_modify, e2]
      have hold : ∀ k, k ≠ β → (w.setCell ⟨β, 0, none⟩ (.pointer (some ⟨β, 0, none⟩))).heap[k]? = w.heap[k]? := fun k hk => by
        simp only [World.setCell, Array.getElem?_modify]
        rw [if_neg (fun e => hk e.symm)]
      have hle : g.Le g w (w.setCell ⟨β, 0, none⟩ (.pointer (some ⟨β, 0, none⟩))) := ⟨fun k j hj => ⟨hj, World.cell?_of_block (a := ⟨k, j, none⟩) (hold k fun e => e4 j (e ▸ hj))⟩, fun n v hv => hv, fun d k hd => hd⟩
      refine ⟨_, g, rfl, ⟨fun k j hj => ?_, fun d cs hd => ?_, hm.apart, fun n v E' hn => ?_, hm.tkap, hm.tkbx⟩, rfl, fun i cs h => ⟨cs, h⟩, ?_, ⟨rfl, rfl, rfl, ?_, fun k o ho => ?_⟩, fun _ _ h => h, fun k j h _ => .inl h, fun n y E' k h1 h2 => .inr ⟨n, y, E', h1, h2⟩, fun i cs h => rfl, canon, ?_, fun j m E l h => by simp at h⟩
      · have := hm.gsz k j hj; simpa [World.setCell] using this
      · match d, hd with
        | 0, hd =>
          cases hd
          refine ⟨β, _, _, e1, hnew, by simpa using e3, e4, fun j c hj => ?_⟩
          match j, hj with
          | 0, hj => cases hj; exact ⟨.pointer (some ⟨β, 0, none⟩), by simp [Array.getElem?_setIfInBounds, e3], hT, .inr rfl⟩
          | 1, hj => cases hj; exact ⟨u1, by simpa [Array.getElem?_setIfInBounds] using hu1, hrow.mono hle⟩
      · exact (hm.own n v E' hn).keep fun k hk => ⟨hold k fun e => hm.tkbx n v E' k 0 _ hn hk rfl (e ▸ e1), fun j hj => hj⟩
      · exact ⟨#[], rfl, rfl, fun j x hj => by simp at hj⟩
      · simp [World.setCell]
      · by_cases hk : k = β
        · subst hk
          rw [e2] at ho
          cases ho
          exact .inr ⟨us, _, (0, 0), _, (0, 0), rfl, hnew, by simp, fun j hj => absurd (.inl ⟨0, _, rfl, e1⟩) hj, fun _ => rfl⟩
        · exact .inl ((hold k hk).trans ho)
      · exact ⟨fun j d o => by simp, fun j f a b => by simp, fun j cs h => by simp at h, fun j j' m E l E' l' h => by simp at h⟩
    · refine (Any.Builder_copyCheck_used (ρ := Tryz.laysB_ren) { Tryz.laysB with } Tryz.Builder_Extra_B.toX72 β w hcell).mono fun e w' he => ?_
      obtain ⟨rfl, rfl⟩ := he
      refine ⟨_, g, rfl, hm, rfl, fun i cs h => ⟨cs, h⟩, ⟨#[], rfl, rfl, fun j x hj => by simp at hj⟩, (Fr.refl _ _), fun _ _ h => h, fun k j h _ => .inl h, fun n y E' k h1 h2 => .inr ⟨n, y, E', h1, h2⟩, fun i cs h => rfl, canon, ?_, fun j m E l h => by simp at h⟩
      exact ⟨fun j d o => by simp, fun j f a b => by simp, fun j cs h => by simp at h, fun j j' m E l E' l' h => by simp at h⟩
  · cases h
set_option maxHeartbeats 1000000 in
theorem str_walk {P : Program} {ρ : Ren} (L : Lays.n169 P ρ) (X : Builder.Extra P ρ) (b g cap : Nat) (cur : Array Value) (l : List UInt8) (h0 : l ≠ []) (w : World) (hb : w.cell? ⟨b, 1, none⟩ = some (.slice (some ⟨g, 0, none⟩) l.length cap)) (hcap : l.length ≤ cap) {fz : Nat × Nat} (hg : w.heap[g]? = some (.cells cur (ρ.t 5) fz))
    (hsz : l.length ≤ cur.size) (h63 : l.length ≤ 9223372036854775807) (hcell : ∀ (j : Nat) x, l[j]? = some x → w.cell? ⟨g, j, none⟩ = some (.int .u8 x.toNat)) :
    Calls P (ρ.f 169) #[.pointer (some ⟨b, 0, none⟩)] w fun e w' => e = .returned (.string ⟨l.toArray⟩) ∧ w' = w.drew.freeze ⟨g, 0, none⟩ l.length := by
  have hl0 : l.length ≠ 0 := by simpa using h0
  have c1 : w.drew.cell? ⟨b, 1, none⟩ = some (.slice (some ⟨g, 0, none⟩) l.length cap) := hb
  have hSD : (Builtin.unsafeSliceData_ #[(ρ.t 37)] (ρ.t 127) #[.slice (some ⟨g, 0, none⟩) l.length cap]).run P w.drew = .ok (.pointer (some ⟨g, 0, none⟩)) w.drew :=
    Lib.run_unsafeSliceData_row _ _ _ _ _ _ (by omega)
  have hUS : (Builtin.unsafeString_ #[(ρ.t 127), (ρ.t 3)] (ρ.t 9) #[.pointer (some ⟨g, 0, none⟩), .int .i64 l.length]).run P w.drew = .ok (.string ⟨l.toArray⟩) (w.drew.freeze ⟨g, 0, none⟩ l.length) := by
    refine Lib.run_unsafeString_row w.drew (ρ.t 127) (ρ.t 3) (ρ.t 9) (ρ.t 5) L.t127 X.cellsByte g cur.size (by have hg' : w.drew.heap[g]? = some (.cells cur (ρ.t 5) fz) := hg; simp [World.shape?, hg']) l h0 hsz h63 ?_
    intro j x hx
    have e : (⟨g, 0, none⟩ : Addr).add j = ⟨g, j, none⟩ := by
      by_cases hj : j = 0
      · subst hj; simp [Addr.add]
      · simp [Addr.add, hj]
    rw [e]
    exact hcell j x hx
  clear hcap hb hcell h63 hsz
  have mixed := L.mixed
  have t72 := L.t72; have a72 := L.a72; have z72 := L.z72; have v72 := L.v72; have u72 := run_underlying L.t72
  have t70 := L.t70; have a70 := L.a70; have z70 := L.z70; have v70 := L.v70; have u70 := run_underlying L.t70
  have t37 := L.t37; have a37 := L.a37; have z37 := L.z37; have v37 := L.v37; have u37 := run_underlying L.t37
  have t127 := L.t127; have a127 := L.a127; have z127 := L.z127; have v127 := L.v127; have u127 := run_underlying L.t127
  have t3 := L.t3; have a3 := L.a3; have z3 := L.z3; have v3 := L.v3; have u3 := run_underlying L.t3
  have t9 := L.t9; have a9 := L.a9; have z9 := L.z9; have v9 := L.v9; have u9 := run_underlying L.t9
  have t5 := X.t5; have a5 := X.a5; have z5 := X.z5; have v5 := X.v5; have u5 := run_underlying X.t5
  go_enter L.f169, Body.n169_ntmps ρ
  go_wp2
  go_region_o
  all_goals (go_wp2; go_ret; exact ⟨rfl, rfl⟩)
def bytesOk (l : List Dat) : Bool := l.all fun d => decide (0 ≤ (d.at 0).toI) && decide ((d.at 0).toI < 256)
def strE : List AV → Bx → Option (Bool × Out)
  | [.box 0 0], [some [.self T, .row (some m) E l]] => bif Nat.beq m (sub 0 1) && Nat.beq E 5 then some (bytesOk l && (Nat.blt 0 l.length && Nat.ble l.length 9223372036854775807), .ret (S (bytesOf l)) [some [.self T, .row none E l]]) else none
  | _, _ => none
theorem kinds_u8 : kinds PR 5 = some [.int .u8] := by kernel_rfl
theorem str_sound {ext : CallF} (hext : SoundCall PR ext) : SoundCall PR (addF 47 strE ext) := by
  refine sound_ext hext _ (fn := (PR.funcs[47]?).getD default) (by kernel_rfl) (by kernel_rfl) strE fun xs bs out h g w vs hm hL hl hv hr => ?_
  unfold strE at h
  split at h
  · rename_i T m E l
    obtain ⟨hc, h⟩ := bif_some h
    injection h with h
    injection h with hd h
    subst h
    rw [Bool.and_eq_true] at hc
    have hm1 := Nat.eq_of_beq_eq_true hc.1
    have hE := Nat.eq_of_beq_eq_true hc.2
    subst hm1 hE
    simp only [Bool.and_eq_true] at hd
    obtain ⟨hby, hpos, h63⟩ := hd
    have hpos : 0 < l.length := Nat.le_of_ble_eq_true hpos
    have h63 : l.length ≤ 9223372036854775807 := Nat.le_of_ble_eq_true h63
    obtain ⟨β, us, T', e1, rfl, e2, e3, e4, e5⟩ := one_box hm hv hr
    obtain ⟨u0, hu0, hself⟩ := e5 0 _ rfl
    obtain ⟨u1, hu1, hrow, htk⟩ := e5 1 _ rfl
    have htok := htk _ rfl
    have hcell : w.cell? ⟨β, 1, none⟩ = some u1 := by simp [World.cell?, e2, hu1]
    obtain ⟨A, cap0, hsl⟩ := hrow.slice
    rcases hm.own _ _ _ htok with hn | ⟨β2, n, cap, cur, ks, fz, hv2, hblk, hks, hncap, hcm, hcur, hfree, _⟩
    · rw [hn] at hsl
      injection hsl with _ hz _
      omega
    rw [kinds_u8] at hks
    cases hks
    have hne : β2 ≠ β := fun e => hm.tkbx _ _ _ β 0 _ htok (by rw [hv2, e]; rfl) rfl e1
    have hnl : n = l.length := by rw [hv2] at hsl; injection hsl with _ hz _
    subst hnl
    let bl : List UInt8 := l.map fun d => UInt8.ofNat (d.at 0).toI.toNat
    have hbl : bl.length = l.length := by simp [bl]
    have hcells : ∀ (j : Nat) x, bl[j]? = some x → w.cell? ⟨β2, j, none⟩ = some (.int .u8 x.toNat) := fun j x hx => by
      obtain ⟨d, hd, rfl⟩ := Option.map_eq_some_iff.1 ((List.getElem?_map ..).symm.trans hx)
      have hjl := (List.getElem?_eq_some_iff.1 hd).1
      rw [hv2] at hrow
      cases hrow with
      | nil => simp at hjl
      | mk _ _ _ off cap' ks vals hk hlen hcc hss hrr =>
        rw [kinds_u8] at hk
        cases hk
        obtain ⟨c1, c2, c3⟩ := hcc j 0 hjl (by simp)
        have hsc := hss j 0 d (.int .u8) hd rfl
        have : vals j 0 = .int .u8 (d.at 0).toI := hsc
        rw [this] at c2
        have hb := List.all_eq_true.1 hby d (List.mem_of_getElem? hd)
        rw [Bool.and_eq_true, decide_eq_true_eq, decide_eq_true_eq] at hb
        have e : ((UInt8.ofNat (d.at 0).toI.toNat).toNat : Int) = (d.at 0).toI := by
          rw [UInt8.toNat_ofNat_of_lt' (by show (d.at 0).toI.toNat < 256; omega)]
          omega
        rw [e]
        simpa using c2
    have hw := str_walk Tryz.lays169 Tryz.Builder_Extra_169 β β2 cap cur bl (by intro e; rw [e] at hbl; simp at hbl; omega) w (by rw [hcell, hv2, hbl]) (by omega) hblk (by rw [hbl]; simp at hcur; omega) (by omega) hcells
    refine hw.mono fun e w' he => ?_
    obtain ⟨rfl, rfl⟩ := he
    have hheap : ∀ k, (w.drew.freeze ⟨β2, 0, none⟩ bl.length).heap[k]? = if k = β2 then some (.cells cur 5 (if fz.1 == fz.2 then (0, 0 + bl.length) else (min fz.1 0, max fz.2 (0 + bl.length)))) else w.heap[k]? := fun k => by
      have hz : bl.length ≠ 0 := by omega
      unfold World.freeze
      rw [if_neg hz]
      show (w.heap.modify β2 _)[k]? = _
      rw [Array.getElem?_modify]
      by_cases hk : k = β2
      · subst hk
        rw [if_pos rfl, if_pos rfl, hblk]; rfl
      · rw [if_neg (fun e => hk e.symm), if_neg hk]
    have hcl : ∀ k j, (w.drew.freeze ⟨β2, 0, none⟩ bl.length).cell? ⟨k, j, none⟩ = w.cell? ⟨k, j, none⟩ := fun k j => by
      unfold World.cell?
      rw [hheap]
      by_cases hk : k = β2
      · subst hk; rw [if_pos rfl, hblk]
      · rw [if_neg hk]
    have hle : (⟨g.G, fun _ => none, g.bx⟩ : Gh).G = g.G := rfl
    have hsize : (w.drew.freeze ⟨β2, 0, none⟩ bl.length).heap.size = w.heap.size := by
      unfold World.freeze
      split
      · rfl
      · show (w.heap.modify β2 _).size = w.heap.size
        simp
    have hhe : ∀ k, k ≠ β2 → (w.drew.freeze ⟨β2, 0, none⟩ bl.length).heap[k]? = w.heap[k]? := fun k hk => by rw [hheap, if_neg hk]
    refine ⟨_, ⟨g.G, fun _ => none, g.bx⟩, rfl, ⟨fun k j hj => ?_, fun d cs hd => ?_, fun d d' k cs cs' h h' => ?_, fun n v E' hn => (by cases hn), fun n m v v' E E' k h => (by cases h), fun n v E k d cs h => (by cases h)⟩, rfl, fun i cs h => ?_, ⟨?_, rfl⟩, ⟨?_, ?_, ?_, ?_, fun k o ho => ?_⟩, fun _ _ h => h, fun k j h _ => .inl h, fun n y E' k h1 h2 => (by cases h1), fun i cs h => rfl, fun i j m cs E' l' hi hj => ?_, trivial, trivial⟩
    · rw [hsize]; exact hm.gsz k j hj
    · match d, hd with
      | 0, hd =>
        cases hd
        refine ⟨β, us, T', e1, (hhe β (Ne.symm hne)).trans e2, e3, e4, fun j c hj => ?_⟩
        match j, hj with
        | 0, hj => cases hj; exact ⟨u0, hu0, hself⟩
        | 1, hj => cases hj; exact ⟨u1, hu1, hrow.mono fun k j hj => ⟨hj, hcl k j⟩, fun n hn => by cases hn⟩
    · match d, d', h, h' with
      | 0, 0, h, h' => intro _ _; rfl
    · match i, h with
      | 0, h => exact ⟨_, rfl⟩
    · show Value.string ⟨bl.toArray⟩ = Value.string (bytesOf l)
      rfl
    · unfold World.freeze; split <;> rfl
    · unfold World.freeze; split <;> rfl
    · unfold World.freeze; split <;> rfl
    · rw [hsize]; exact Nat.le_refl _
    · by_cases hk : k = β2
      · subst hk
        rw [hblk] at ho
        cases ho
        refine .inr ⟨cur, _, fz, cur, _, rfl, (hheap k).trans (if_pos rfl), rfl, fun _ _ => rfl, fun hn => ?_⟩
        exact absurd (.inr ⟨⟨_, _, _, htok, by rw [hv2]; rfl⟩, hfree l.length (by simp)⟩) (hn l.length)
      · exact .inl ((hhe k hk).trans ho)
    · match i, hi with
      | 0, hi =>
        cases hi
        match j, hj with
        | 0, hj => cases hj
        | 1, hj => cases hj
  · cases h
end Go.Proofs.YtckdgcpomkefpaaGreatDoor.En
end
section
set_option linter.unusedVariables false
set_option maxRecDepth 100000
namespace Go.Proofs.YtckdgcpomkefpaaGreatDoor.En
open Go
noncomputable def libX (ext : CallF) : CallF := addF 95 ixE (addF 58 itoaE (addF 96 ccE (addF 47 strE ext)))
theorem lib_sound {ext : CallF} (h : SoundCall PR ext) : SoundCall PR (libX ext) := ix_sound (itoa_sound (cc_sound (str_sound h)))
def fsW : List Nat := (List.range 130).filter fun f => !([0, 1, 2, 19, 31, 47, 96, 119, 95, 58, 125] : List Nat).contains f
theorem hmixP2 : PR.follows .mixedOrders = true := by kernel_rfl
theorem okW : okFs PR fsW = true := by kernel_rfl
noncomputable def callW : CallF := evF PR TK (libX fun _ _ _ => none) fsW 60
theorem callW_sound : SoundCall PR callW := sound_fs hmixP2 (lib_sound sound_none) okW 60
noncomputable def pE : List AV → Bx → Option (Bool × Out) := fun xs bs => (evFnD PR TK callW 60 31 xs bs).map fun o => (true, o)
theorem pE_sound : SoundCall PR (addF 31 pE callW) :=
  sound_addD hmixP2 callW_sound _ (fn := (PR.funcs[31]?).getD default) (by kernel_rfl) (by kernel_rfl) pE fun xs bs out h => by
    unfold pE at h
    obtain ⟨o, h1, h2⟩ := Option.map_eq_some_iff.1 h
    cases h2
    exact ⟨60, h1⟩
def wakesE : List AV → Bx → Option (Bool × Out)
  | [], [] => some (true, .ret (B true) [])
  | _, _ => none
theorem wakes_run : evFn PR TK (addF 31 pE callW) 60 23 [] [] = some (.ret (B true) []) := by kernel_rfl
theorem wakes_sound : SoundCall PR (addF 23 wakesE fun _ _ _ => none) := by
  have h := sound_add (takes := TK) hmixP2 pE_sound 23 (fn := (PR.funcs[23]?).getD default) (by kernel_rfl) (by kernel_rfl) wakesE fun xs bs out h => by
    unfold wakesE at h
    split at h
    · cases h; exact ⟨60, wakes_run⟩
    · cases h
  refine h.le fun f xs bs out ho => ?_
  unfold addF at ho ⊢
  cases hf : Nat.beq f 23 <;> rw [hf] at ho <;> simp only [cond_true, cond_false] at ho ⊢
  · cases ho
  · exact ho
end Go.Proofs.YtckdgcpomkefpaaGreatDoor.En
end
section
set_option linter.unusedVariables false
set_option linter.unusedSimpArgs false
set_option maxRecDepth 100000
namespace Go.Proofs.YtckdgcpomkefpaaGreatDoor.En
open Go
theorem itemsN_all {f : Dat → Int → Int} : ∀ (l : List Dat) (n : Int), 0 ≤ itemsN f l n → ∀ d ∈ l, ∃ n', 0 ≤ n' ∧ 0 ≤ f d n'
  | [], n, _, d, hd => by cases hd
  | e :: l, n, h, d, hd => by
    have h' : 0 ≤ (bif decide (n ≥ 0) then itemsN f l (f e n) else n) := h
    by_cases hn : n ≥ 0
    · rw [decide_eq_true hn] at h'
      rcases List.mem_cons.1 hd with rfl | hd
      · refine ⟨n, hn, ?_⟩
        rcases Int.lt_or_le (f d n) 0 with hneg | hpos
        · have : itemsN f l (f d n) = f d n ∨ l = [] := by
            cases l with
            | nil => exact .inr rfl
            | cons a l =>
              left
              show (bif decide (f d n ≥ 0) then _ else _) = _
              rw [decide_eq_false (by omega)]; rfl
          rcases this with e | e
          · rw [cond_true, e] at h'; exact h'
          · subst e; exact h'
        · exact hpos
      · exact itemsN_all l _ h' d hd
    · rw [decide_eq_false hn, cond_false] at h'
      exact absurd h' hn
theorem large_fit : ∀ (j k : Nat) (d : Dat) (nest ahead : Int), nest + j = 101 → 0 ≤ nest → 0 ≤ ahead → 0 ≤ largeO k d nest ahead → 0 < j ∧ fitO j (d.at 4).toL (d.at 5).toL
  | j, 0, d, nest, ahead, _, _, _, h => by simp [largeO] at h
  | 0, k + 1, d, nest, ahead, hj, _, ha, h => by
    unfold largeO at h
    rw [show decide (nest > 100) = true from decide_eq_true (by simp at hj; omega), Bool.or_true] at h
    simp at h
  | j + 1, k + 1, d, nest, ahead, hj, hn, ha, h => by
    unfold largeO at h
    cases hc : decide (headN (d.at 3).toS (d.at 4).toL (d.at 5).toL ahead > 2000) || decide (nest > 100)
    · rw [hc, cond_false] at h
      rw [Bool.or_eq_false_iff] at hc
      have c1 := of_decide_eq_false hc.1
      rw [headN_eq] at c1
      refine ⟨by omega, by omega, by omega, fun e he => ?_⟩
      obtain ⟨n', h1, h2⟩ := itemsN_all _ _ h e he
      exact (large_fit j k e (nest + 1) n' (by push_cast at hj; omega) (by omega) h1 h2).2
    · rw [hc] at h
      simp at h
theorem keysEq_refl : ∀ l : List Dat, keysEq l l = true
  | [] => rfl
  | d :: l => by rw [keysEq, keysEq_refl l]; simp
theorem sameO_copy : ∀ (k : Nat) (d : Dat), fitO k (d.at 4).toL (d.at 5).toL → sameO k (copyO k d) d = true
  | 0, d, h => h.elim
  | k + 1, d, h => by
    obtain ⟨h1, h2, h3⟩ := h
    have hl : ∀ l : List Dat, (∀ e ∈ l, fitO k (e.at 4).toL (e.at 5).toL) → allEq (sameO k) (l.map (copyO k)) l = true := fun l => by
      induction l with
      | nil => intro _; rfl
      | cons e l ih =>
        intro hl
        rw [List.map_cons, allEq, sameO_copy k e (hl e (by simp)), ih fun x hx => hl x (by simp [hx])]
        rfl
    show (((d.at 0).toI == (d.at 0).toI) && (((d.at 1).toB == (d.at 1).toB) && (((d.at 2).toI == (d.at 2).toI) && (((d.at 3).toS.toList == (d.at 3).toS.toList) && (keysEq (d.at 4).toL (d.at 4).toL && allEq (sameO k) ((d.at 5).toL.map (copyO k)) (d.at 5).toL))))) = true
    rw [hl _ h3, keysEq_refl]
    simp
theorem fitO_copy : ∀ (k : Nat) (d : Dat), fitO k (d.at 4).toL (d.at 5).toL → fitO k ((copyO k d).at 4).toL ((copyO k d).at 5).toL
  | 0, d, h => h
  | k + 1, d, h => by
    obtain ⟨h1, h2, h3⟩ := h
    refine ⟨h1, by show ((d.at 5).toL.map (copyO k)).length ≤ _; rw [List.length_map]; exact h2, fun e he => ?_⟩
    have he' : e ∈ (d.at 5).toL.map (copyO k) := he
    obtain ⟨x, hx, rfl⟩ := List.mem_map.1 he'
    exact fitO_copy k x (h3 x hx)
noncomputable def LargeE : List AV → Bx → Option (Bool × Out)
  | [.agg [.v (.int .i64 k1), .v (.bool b1), .v (.int .i64 n1), .v (.string s1), .row none 9 ks1, .row none 43 l1]], [none] =>
    some (zB 102 s1 ks1 l1 0 0, .ret (B (decide (largeO 102 (mkO k1 n1 b1 s1 ks1 l1) 0 0 < 0))) [none])
  | _, _ => none
theorem Large_0 (ext : CallF) (m : Nat) (k1 n1 : Int) (b1 : Bool) (s1 : ByteArray) (ks1 l1 : List Dat) : evFn PR TK (largeC 102 ext) m 22 [.agg (obA k1 n1 b1 s1 ks1 l1)] [none] =
  bif zB 102 s1 ks1 l1 0 0 then some (.ret (B (decide (largeO 102 (mkO k1 n1 b1 s1 ks1 l1) 0 0 < 0))) [none]) else none := by kernel_rfl
theorem Large_sound : SoundCall PR (addF 22 LargeE (largeC 102 fun _ _ _ => none)) := by
  refine sound_add (takes := TK) hmixP (large_sound sound_none 102) _ (fn := (PR.funcs[22]?).getD default) (by kernel_rfl) (by kernel_rfl) LargeE fun xs bs out h => ?_
  unfold LargeE at h
  split at h
  · injection h with h
    injection h with h1 h2
    subst h2
    refine ⟨1, (Large_0 _ _ _ _ _ _ _ _).trans ?_⟩
    rw [h1]; rfl
  · cases h
theorem sound_both {f : FuncId} {ent : List AV → Bx → Option (Bool × Out)} {a b : CallF} (ha : SoundCall PR (addF f ent a)) (hb : SoundCall PR b) : SoundCall PR (addF f ent b) := fun g xs bs out ho => by
  unfold addF at ho
  cases hg : Nat.beq g f <;> rw [hg] at ho <;> simp only [cond_true, cond_false] at ho
  · exact hb g xs bs out ho
  · refine ha g xs bs out ?_
    unfold addF
    rw [hg]; exact ho
section
variable (m : Nat) (k1 n1 : Int) (b1 : Bool) (s1 key : ByteArray) (ks1 l1 : List Dat)
end
end Go.Proofs.YtckdgcpomkefpaaGreatDoor.En
end
section
set_option linter.unusedVariables false
set_option linter.unusedSimpArgs false
set_option maxRecDepth 100000
namespace Go.Proofs.YtckdgcpomkefpaaGreatDoor.En
open Go
noncomputable def osameC (k : Nat) (ext : CallF) : CallF := addF 27 (sameE k) ext
noncomputable def osameL1 (call : CallF) (m r : Nat) (k1 n1 k2 n2 : Int) (b1 b2 : Bool) (s1 s2 : ByteArray) (ks1 l1 ks2 l2 : List Dat) (i : Int) := loopF PR TK call m 27 [none, none] [true, true, false, true] r (sp 86 [(2, .box 2 0), (3, .box 3 0), (54, .row none 9 ks1), (55, I ks1.length), (56, I i)] [(2, obA k1 n1 b1 s1 ks1 l1), (3, obA k2 n2 b2 s2 ks2 l2)])
noncomputable def osameL2 (call : CallF) (m r : Nat) (k1 n1 k2 n2 : Int) (b1 b2 : Bool) (s1 s2 : ByteArray) (ks1 l1 ks2 l2 : List Dat) (i : Int) := loopF PR TK call m 27 [none, none] [true, true, true, false, true] r (sp 86 [(3, .box 3 0), (70, .row none 43 l1), (71, I l1.length), (72, I i)] [(3, obA k2 n2 b2 s2 ks2 l2)])
section
variable (call ext : CallF) (k m r : Nat) (k1 n1 k2 n2 : Int) (b1 b2 : Bool) (s1 s2 : ByteArray) (ks1 l1 ks2 l2 : List Dat) (i : Int)
theorem osame_0 : evFn PR TK call m 27 [.agg (obA k1 n1 b1 s1 ks1 l1), .agg (obA k2 n2 b2 s2 ks2 l2)] [none, none] =
    orK (k1 != k2) (!(b1 == b2)) fun t => orK t (n1 != n2) fun t => orK t (!(s1.toList == s2.toList)) fun t => orK t ((ks1.length : Int) != ks2.length) fun t => orK t ((l1.length : Int) != l2.length) fun t =>
      bif t then some (.ret (B false) [none, none]) else osameL1 call m m k1 n1 k2 n2 b1 b2 s1 s2 ks1 l1 ks2 l2 0 := by kernel_rfl
theorem osame_1 : osameL1 call m (r + 1) k1 n1 k2 n2 b1 b2 s1 s2 ks1 l1 ks2 l2 i = bif decide (i < ks1.length) then (idx ks1 i).bind fun d => (idx ks2 i).bind fun e =>
      bif !((d.at 0).toS.toList == (e.at 0).toS.toList) then some (.ret (B false) [none, none]) else osameL1 call m r k1 n1 k2 n2 b1 b2 s1 s2 ks1 l1 ks2 l2 (IntKind.i64.wrap (i + 1))
    else osameL2 call m m k1 n1 k2 n2 b1 b2 s1 s2 ks1 l1 ks2 l2 0 := by kernel_rfl
theorem osame_2 : osameL2 (osameC k ext) m (r + 1) k1 n1 k2 n2 b1 b2 s1 s2 ks1 l1 ks2 l2 i = bif decide (i < l1.length) then (idx l1 i).bind fun d => (idx l2 i).bind fun e =>
      bif fitB k (d.at 4).toL (d.at 5).toL then (bif !(sameO k (nrm d) (nrm e)) then some (.ret (B false) [none, none]) else osameL2 (osameC k ext) m r k1 n1 k2 n2 b1 b2 s1 s2 ks1 l1 ks2 l2 (IntKind.i64.wrap (i + 1))) else none
    else some (.ret (B true) [none, none]) := by kernel_rfl
end
theorem osame_loop2 {ext : CallF} {k m : Nat} {k1 n1 k2 n2 : Int} {b1 b2 : Bool} {s1 s2 : ByteArray} {ks1 l1 ks2 l2 : List Dat} (hl : l1.length = l2.length) (hf : l1.length ≤ 1000000) (hk : ∀ d ∈ l1, fitO k (d.at 4).toL (d.at 5).toL) :
    ∀ (n i r : Nat), i + n = l1.length → n < r → osameL2 (osameC k ext) m r k1 n1 k2 n2 b1 b2 s1 s2 ks1 l1 ks2 l2 (i : Int) = bR (allEq (sameO k) (l1.drop i) (l2.drop i))
  | n, i, 0, _, h => by omega
  | 0, i, r + 1, hi, _ => by
    rw [osame_2, show decide ((i : Int) < l1.length) = false from decide_eq_false (by omega), List.drop_eq_nil_of_le (by omega), List.drop_eq_nil_of_le (by omega)]
    rfl
  | n + 1, i, r + 1, hi, hm => by
    have h1 : i < l1.length := by omega
    have h2 : i < l2.length := by omega
    rw [osame_2, show decide ((i : Int) < l1.length) = true from decide_eq_true (by omega), idx_at h1, idx_at h2, IntWalk.i64_in _ (by omega)]
    simp only [cond_true, Option.bind_some]
    rw [fitB_eq (hk _ (List.getElem_mem h1)), cond_true, sameO_nrm, List.drop_eq_getElem_cons h1, List.drop_eq_getElem_cons h2]
    have ih := osame_loop2 (ext := ext) (m := m) (k1 := k1) (n1 := n1) (k2 := k2) (n2 := n2) (b1 := b1) (b2 := b2) (s1 := s1) (s2 := s2) (ks1 := ks1) (ks2 := ks2) hl hf hk n (i + 1) r (by omega) (by omega)
    rw [show ((i + 1 : Nat) : Int) = (i : Int) + 1 by omega] at ih
    rw [ih]
    show _ = bR (sameO k l1[i] l2[i] && allEq (sameO k) (l1.drop (i + 1)) (l2.drop (i + 1)))
    cases sameO k l1[i] l2[i] <;> rfl
theorem osame_loop1 {ext : CallF} {k m : Nat} {k1 n1 k2 n2 : Int} {b1 b2 : Bool} {s1 s2 : ByteArray} {ks1 l1 ks2 l2 : List Dat} (hlk : ks1.length = ks2.length) (hl : l1.length = l2.length) (hfk : ks1.length ≤ 1000000) (hf : l1.length ≤ 1000000) (hk : ∀ d ∈ l1, fitO k (d.at 4).toL (d.at 5).toL) (hm : l1.length < m) :
    ∀ (n i r : Nat), i + n = ks1.length → n < r → osameL1 (osameC k ext) m r k1 n1 k2 n2 b1 b2 s1 s2 ks1 l1 ks2 l2 (i : Int) = bR (keysEq (ks1.drop i) (ks2.drop i) && allEq (sameO k) l1 l2) := by
  have e0 := osame_loop2 (ext := ext) (k := k) (m := m) (k1 := k1) (n1 := n1) (k2 := k2) (n2 := n2) (b1 := b1) (b2 := b2) (s1 := s1) (s2 := s2) (ks1 := ks1) (ks2 := ks2) hl hf hk l1.length 0 m (by omega) hm
  rw [List.drop_zero, List.drop_zero, show ((0 : Nat) : Int) = 0 from rfl] at e0
  intro n
  induction n with
  | zero =>
    intro i r hi hr
    cases r with
    | zero => omega
    | succ r =>
      rw [osame_1, show decide ((i : Int) < ks1.length) = false from decide_eq_false (by omega), List.drop_eq_nil_of_le (by omega), List.drop_eq_nil_of_le (by omega), e0]
      rfl
  | succ n ih =>
    intro i r hi hr
    cases r with
    | zero => omega
    | succ r =>
      have h1 : i < ks1.length := by omega
      have h2 : i < ks2.length := by omega
      have ih := ih (i + 1) r (by omega) (by omega)
      rw [show ((i + 1 : Nat) : Int) = (i : Int) + 1 by omega] at ih
      rw [osame_1, e0, show decide ((i : Int) < ks1.length) = true from decide_eq_true (by omega), idx_at h1, idx_at h2, IntWalk.i64_in _ (by omega)]
      simp only [cond_true, Option.bind_some]
      rw [List.drop_eq_getElem_cons h1, List.drop_eq_getElem_cons h2, ih]
      show _ = bR ((((ks1[i].at 0).toS.toList == (ks2[i].at 0).toS.toList) && keysEq (ks1.drop (i + 1)) (ks2.drop (i + 1))) && allEq (sameO k) l1 l2)
      cases ((ks1[i].at 0).toS.toList == (ks2[i].at 0).toS.toList) <;> rfl
theorem osame_run {ext : CallF} {k m : Nat} {k1 n1 k2 n2 : Int} {b1 b2 : Bool} {s1 s2 : ByteArray} {ks1 l1 ks2 l2 : List Dat} (h : fitO (k + 1) ks1 l1) (hm : 1000000 < m) :
    evFn PR TK (osameC k ext) m 27 [.agg (obA k1 n1 b1 s1 ks1 l1), .agg (obA k2 n2 b2 s2 ks2 l2)] [none, none] = bR (sameO (k + 1) (mkO k1 n1 b1 s1 ks1 l1) (mkO k2 n2 b2 s2 ks2 l2)) := by
  obtain ⟨h1, h2, h3⟩ := h
  rw [osame_0]
  simp only [orK_eq]
  show (bif ((((((k1 != k2) || !(b1 == b2)) || (n1 != n2)) || !(s1.toList == s2.toList)) || ((ks1.length : Int) != ks2.length)) || ((l1.length : Int) != l2.length)) then bR false else _) =
    bR ((k1 == k2) && ((b1 == b2) && ((n1 == n2) && ((s1.toList == s2.toList) && (keysEq ks1 ks2 && allEq (sameO k) l1 l2)))))
  rw [ne_len, ne_len]
  unfold bne
  cases (k1 == k2) <;> cases (b1 == b2) <;> cases (n1 == n2) <;> cases (s1.toList == s2.toList) <;> try rfl
  by_cases e1 : ks1.length = ks2.length
  · by_cases e2 : l1.length = l2.length
    · rw [decide_eq_true e1, decide_eq_true e2]
      have e := osame_loop1 (ext := ext) (k := k) (m := m) (k1 := k1) (n1 := n1) (k2 := k2) (n2 := n2) (b1 := b1) (b2 := b2) (s1 := s1) (s2 := s2) e1 e2 h1 h2 h3 (by omega) ks1.length 0 m (by omega) (by omega)
      rw [List.drop_zero, List.drop_zero, show ((0 : Nat) : Int) = 0 from rfl] at e
      show osameL1 _ _ _ _ _ _ _ _ _ _ _ _ _ _ _ 0 = _
      rw [e]; rfl
    · rw [decide_eq_false e2]
      have : allEq (sameO k) l1 l2 = false := by
        cases hq : allEq (sameO k) l1 l2
        · rfl
        · exact absurd (allEq_len hq) e2
      rw [this]
      cases decide (ks1.length = ks2.length) <;> cases keysEq ks1 ks2 <;> rfl
  · rw [decide_eq_false e1]
    have : keysEq ks1 ks2 = false := by
      cases hq : keysEq ks1 ks2
      · rfl
      · exact absurd (keysEq_len hq) e1
    rw [this]; rfl
theorem osame_sound {ext : CallF} (hext : SoundCall PR ext) : ∀ k, SoundCall PR (osameC k ext) := by
  refine sound_rec (takes := TK) hmixP hext _ (fn := (PR.funcs[27]?).getD default) (by kernel_rfl) (by kernel_rfl) sameE (fun xs bs out h => ?_) (fun k xs bs out h => ?_)
  · unfold sameE at h
    split at h
    · injection h with h
      injection h with h _
      exact fitB_of h
    · cases h
  · unfold sameE at h
    split at h
    · injection h with h
      injection h with h1 h2
      subst h2
      exact ⟨1000001, osame_run (fitB_of h1) (by omega)⟩
    · cases h
end Go.Proofs.YtckdgcpomkefpaaGreatDoor.En
end
section
set_option linter.unusedVariables false
set_option linter.unusedSimpArgs false
set_option maxRecDepth 100000
namespace Go.Proofs.YtckdgcpomkefpaaGreatDoor.En
open Go
def inB (n : Int) : Bool := decide (-1099511627776 ≤ n) && decide (n ≤ 1099511627776)
def inE : List AV → Bx → Option (Bool × Out)
  | [.v (.int .i64 n)], [none] => some (true, .ret (B (inB n)) [none])
  | _, _ => none
theorem in_0 (call : CallF) (m : Nat) (n : Int) : evFn PR TK call m 62 [I n] [none] = andK (decide (-1099511627776 ≤ n)) (decide (n ≤ 1099511627776)) fun t => some (.ret (B t) [none]) := by kernel_rfl
theorem rin_0 (call : CallF) (m : Nat) (n : Int) : evFn PR TK call m 101 [I n] [none] = andK (decide (n ≥ -1099511627776)) (decide (n ≤ 1099511627776)) fun t => some (.ret (B t) [none]) := by kernel_rfl
theorem in_sound {ext : CallF} (hext : SoundCall PR ext) : SoundCall PR (addF 62 inE ext) := by
  refine sound_add (takes := TK) hmixP hext _ (fn := (PR.funcs[62]?).getD default) (by kernel_rfl) (by kernel_rfl) inE fun xs bs out h => ?_
  unfold inE at h
  split at h
  · cases h
    refine ⟨0, (in_0 _ _ _).trans ?_⟩
    rw [andK_eq]; rfl
  · cases h
theorem rin_sound {ext : CallF} (hext : SoundCall PR ext) : SoundCall PR (addF 101 inE ext) := by
  refine sound_add (takes := TK) hmixP hext _ (fn := (PR.funcs[101]?).getD default) (by kernel_rfl) (by kernel_rfl) inE fun xs bs out h => ?_
  unfold inE at h
  split at h
  · cases h
    refine ⟨0, (rin_0 _ _ _).trans ?_⟩
    rw [andK_eq]; rfl
  · cases h
def namedB (s : ByteArray) : Bool := decide (1 ≤ s.size) && (decide (s.size ≤ 127) && decide (Lib.indexByte s.data.toList 0 < 0))
def namedE : List AV → Bx → Option (Bool × Out)
  | [.v (.string s)], [none] => some (true, .ret (B (namedB s)) [none])
  | _, _ => none
theorem named_0 (ext : CallF) (m : Nat) (s : ByteArray) : evFn PR TK (addF 95 ixE ext) m 63 [S s] [none] =
    andK (decide ((1 : Int) ≤ (s.size : Int))) (decide ((s.size : Int) ≤ 127)) fun t => andK t (decide (Lib.indexByte s.data.toList ((0 : Int).toNat.toUInt8) < 0)) fun t => some (.ret (B t) [none]) := by kernel_rfl
theorem dec_nat {a b : Nat} : decide ((a : Int) ≤ (b : Int)) = decide (a ≤ b) := by
  by_cases h : a ≤ b
  · rw [decide_eq_true h, decide_eq_true (by omega)]
  · rw [decide_eq_false h, decide_eq_false (by omega)]
theorem named_sound {ext : CallF} (hext : SoundCall PR ext) : SoundCall PR (addF 63 namedE ext) := by
  refine sound_both (sound_add (takes := TK) hmixP (ix_sound sound_none) _ (fn := (PR.funcs[63]?).getD default) (by kernel_rfl) (by kernel_rfl) namedE fun xs bs out h => ?_) hext
  unfold namedE at h
  split at h
  · rename_i s
    cases h
    refine ⟨0, (named_0 _ _ _).trans ?_⟩
    rw [andK_eq, andK_eq, show ((1 : Int)) = ((1 : Nat) : Int) from rfl, show ((127 : Int)) = ((127 : Nat) : Int) from rfl, dec_nat, dec_nat, Bool.and_assoc]
    rfl
  · cases h
noncomputable def rnameL (call : CallF) (m r : Nat) (s : ByteArray) (i : Int) := loopF PR TK call m 112 [none] [true, true, false, true] r (sp 22 [(0, S s), (3, I i)] [])
def bR1 (x : Bool) : Option Out := some (.ret (B x) [none])
theorem rname_0 (call : CallF) (m : Nat) (s : ByteArray) : evFn PR TK call m 112 [S s] [none] =
    orK (decide ((s.size : Int) < 1)) (decide ((s.size : Int) > 127)) fun t => bif t then bR1 false else rnameL call m m s 0 := by kernel_rfl
theorem rname_1 (call : CallF) (m r : Nat) (s : ByteArray) (i : Int) : rnameL call m (r + 1) s i =
    bif decide (i < s.size) then (bif (true && decide (0 ≤ i) && decide (i < s.size)) then (bif (bt s i == 0) then bR1 false else rnameL call m r s (IntKind.i64.wrap (i + 1))) else none) else bR1 true := by kernel_rfl
theorem bt_nat (s : ByteArray) (i : Nat) (h : i < s.data.toList.length) : bt s (i : Int) = ((s.data.toList[i]'h).toNat : Int) := by
  unfold bt
  have h' : i < s.data.size := by simpa using h
  have h2 : (s.data.getD i 0) = s.data[i] := by unfold Array.getD; rw [dif_pos h']; rfl
  show (((s.data.getD (i : Int).toNat 0).toNat : Nat) : Int) = _
  rw [show ((i : Int).toNat) = i from rfl, h2]
  simp
theorem ix_neg : ∀ (l : List UInt8), decide (Lib.indexByte l 0 < 0) = l.all fun b => !(b == 0)
  | [] => rfl
  | b :: l => by
    have ih := ix_neg l
    have ge := Lib.indexByte_ge l 0
    rw [List.all_cons, ← ih]
    show decide ((if (b == 0) = true then (0 : Int) else if (Lib.indexByte l 0 == -1) = true then -1 else Lib.indexByte l 0 + 1) < 0) = _
    cases hb : (b == 0)
    · simp only [Bool.false_eq_true, if_false, Bool.not_false, Bool.true_and]
      by_cases h1 : Lib.indexByte l 0 = -1
      · rw [h1]; rfl
      · have : (Lib.indexByte l 0 == -1) = false := by simpa using h1
        rw [this]
        simp only [Bool.false_eq_true, if_false]
        rw [decide_eq_false (by omega), decide_eq_false (by omega)]
    · rfl
theorem rname_loop {call : CallF} {m : Nat} {s : ByteArray} (hf : s.size ≤ 1000000) : ∀ (n i r : Nat), i + n = s.data.toList.length → n < r → rnameL call m r s (i : Int) = bR1 ((s.data.toList.drop i).all fun b => !(b == 0)) := by
  have hsz : s.data.toList.length = s.size := Array.length_toList
  intro n
  induction n with
  | zero =>
    intro i r hi hr
    cases r with
    | zero => omega
    | succ r =>
      rw [rname_1, show decide ((i : Int) < s.size) = false from decide_eq_false (by omega), List.drop_eq_nil_of_le (by omega)]
      rfl
  | succ n ih =>
    intro i r hi hr
    cases r with
    | zero => omega
    | succ r =>
      have h1 : i < s.data.toList.length := by omega
      have ih := ih (i + 1) r (by omega) (by omega)
      rw [show ((i + 1 : Nat) : Int) = (i : Int) + 1 by omega] at ih
      rw [rname_1, show decide ((i : Int) < s.size) = true from decide_eq_true (by omega), show decide ((0 : Int) ≤ i) = true from decide_eq_true (by omega), IntWalk.i64_in _ (by omega), ih, bt_nat s i h1, List.drop_eq_getElem_cons h1, List.all_cons]
      have : (((s.data.toList[i].toNat : Nat) : Int) == 0) = (s.data.toList[i] == 0) := by
        by_cases hz : s.data.toList[i] = 0
        · rw [hz]; rfl
        · have h2 : (s.data.toList[i] == 0) = false := by simpa using hz
          rw [h2]
          have h3 : s.data.toList[i].toNat ≠ 0 := fun e => hz (UInt8.toNat_inj.1 (by rw [e]; rfl))
          simpa using h3
      rw [this]
      cases (s.data.toList[i] == 0) <;> rfl
theorem rname_sound {ext : CallF} (hext : SoundCall PR ext) : SoundCall PR (addF 112 namedE ext) := by
  refine sound_add (takes := TK) hmixP hext _ (fn := (PR.funcs[112]?).getD default) (by kernel_rfl) (by kernel_rfl) namedE fun xs bs out h => ?_
  unfold namedE at h
  split at h
  · rename_i s
    cases h
    refine ⟨128, (rname_0 _ _ _).trans ?_⟩
    rw [orK_eq]
    have hsz : s.data.toList.length = s.size := Array.length_toList
    show _ = bR1 (namedB s)
    unfold namedB
    rw [ix_neg]
    by_cases h1 : 1 ≤ s.size
    · by_cases h2 : s.size ≤ 127
      · have e := rname_loop (call := ext) (m := 128) (s := s) (by omega) s.data.toList.length 0 128 (by omega) (by omega)
        rw [List.drop_zero, show ((0 : Nat) : Int) = 0 from rfl] at e
        rw [decide_eq_true h1, decide_eq_true h2, show decide ((s.size : Int) < 1) = false from decide_eq_false (by omega), show decide ((s.size : Int) > 127) = false from decide_eq_false (by omega), Bool.true_and, Bool.true_and, ← e]
        rfl
      · rw [decide_eq_false h2, show decide ((s.size : Int) > 127) = true from decide_eq_true (by omega), Bool.or_true, Bool.false_and, Bool.and_false]; rfl
    · rw [decide_eq_false h1, show decide ((s.size : Int) < 1) = true from decide_eq_true (by omega), Bool.true_or, Bool.false_and]; rfl
  · cases h
end Go.Proofs.YtckdgcpomkefpaaGreatDoor.En
end
section
set_option linter.unusedVariables false
set_option linter.unusedSimpArgs false
set_option maxRecDepth 100000
namespace Go.Proofs.YtckdgcpomkefpaaGreatDoor.En
open Go
def orO {β : Type} (c : Bool) (d : Option Bool) (k : Bool → Option β) : Option β := (bif c then some true else d).bind k
theorem orO_eq {β : Type} (c d : Bool) (k : Bool → Option β) : orO c (some d) k = k (c || d) := by cases c <;> rfl
noncomputable def flatL1 (call : CallF) (m r : Nat) (k1 n1 : Int) (b1 : Bool) (s1 : ByteArray) (ks1 l1 : List Dat) (i : Int) := loopF PR TK call m 93 [none] [true, true, false, true, true, true, true, true, true, true, true, true, true, false, true, false, true] r (sp 165 [(1, .box 1 0), (3, I i)] [(1, obA k1 n1 b1 s1 ks1 l1)])
noncomputable def flatL2 (call : CallF) (m r1 r : Nat) (k1 n1 : Int) (b1 : Bool) (s1 : ByteArray) (ks1 l1 : List Dat) (i j : Int) := loopF2 PR TK call m 93 [none] [true, true, false, true, true, true, true, true, true, true, true, true, true, false, true, false, true] r1 [true, false, true, true] r (sp 165 [(1, .box 1 0), (3, I i), (4, I j)] [(1, obA k1 n1 b1 s1 ks1 l1)])
noncomputable def flC (ext : CallF) : CallF := addF 112 namedE (addF 101 inE ext)
section
variable (ext : CallF) (m r r1 : Nat) (k1 n1 : Int) (b1 : Bool) (s1 : ByteArray) (ks1 l1 : List Dat) (i j : Int)
def bare (k1 n1 : Int) (b1 : Bool) (s1 : ByteArray) (ks1 l1 : List Dat) {β : Type} (kk : Bool → Option β) : Option β :=
  andK b1 (k1 != 1) fun t => orO t (andK (n1 != 0) (k1 != 2) fun t => andK t (k1 != 3) fun t => andK t (k1 != 8) fun t => some t) fun t =>
    orO t (andK (!(s1.toList == (⟨#[]⟩ : ByteArray).toList)) (k1 != 4) fun t => andK t (k1 != 5) fun t => some t) fun t =>
    orO t (andK (decide ((ks1.length : Int) > 0)) (k1 != 7) fun t => some t) fun t =>
    orO t (andK (decide ((l1.length : Int) > 0)) (k1 != 6) fun t => andK t (k1 != 7) fun t => some t) kk
theorem flat_0 : evFn PR TK (flC ext) m 93 [.agg (obA k1 n1 b1 s1 ks1 l1)] [none] = bare k1 n1 b1 s1 ks1 l1 fun t => bif t then bR1 false else
    bif (k1 == 2) then bR1 (inB n1) else bif (k1 == 3) then andK (inB n1) ((n1.tmod 65536) != 0) bR1 else bif (k1 == 4) then bR1 (namedB s1) else bif (k1 == 5) then bR1 (decide ((s1.size : Int) ≤ 65536)) else
    bif (k1 == 7) then (bif ((ks1.length : Int) != l1.length) then bR1 false else flatL1 (flC ext) m m k1 n1 b1 s1 ks1 l1 0) else
    bif (k1 == 8) then andK (decide (n1 ≥ 1)) (decide (n1 ≤ 4096)) bR1 else orK (k1 == 0) (k1 == 1) fun t => orK t (k1 == 6) bR1 := by kernel_rfl
theorem flat_1 : flatL1 (flC ext) m (r + 1) k1 n1 b1 s1 ks1 l1 i = bif decide (i < ks1.length) then (idx ks1 i).bind fun d => bif !(namedB (d.at 0).toS) then bR1 false else flatL2 (flC ext) m r m k1 n1 b1 s1 ks1 l1 i 0
    else bR1 true := by kernel_rfl
theorem flat_2 : flatL2 (flC ext) m r1 (r + 1) k1 n1 b1 s1 ks1 l1 i j = bif decide (j < i) then (idx ks1 j).bind fun d => (idx ks1 i).bind fun e =>
      bif ((d.at 0).toS.toList == (e.at 0).toS.toList) then bR1 false else flatL2 (flC ext) m r1 r k1 n1 b1 s1 ks1 l1 i (IntKind.i64.wrap (j + 1))
    else flatL1 (flC ext) m r1 k1 n1 b1 s1 ks1 l1 (IntKind.i64.wrap (i + 1)) := by kernel_rfl
end
def eqK (d e : Dat) : Bool := (d.at 0).toS.toList == (e.at 0).toS.toList
def keysR : List Dat → List Dat → Bool
  | _, [] => true
  | pre, d :: r => namedB (d.at 0).toS && (!(pre.any fun e => eqK e d) && keysR (pre ++ [d]) r)
theorem flat_loop2 {ext : CallF} {m r1 : Nat} {k1 n1 : Int} {b1 : Bool} {s1 : ByteArray} {ks1 l1 : List Dat} {i : Nat} (hi : i < ks1.length) (hf : ks1.length ≤ 1000000) :
    ∀ (n j r : Nat), j + n = i → n < r → flatL2 (flC ext) m r1 r k1 n1 b1 s1 ks1 l1 (i : Int) (j : Int) = bif (((ks1.take i).drop j).any fun e => eqK e ks1[i]) then bR1 false else flatL1 (flC ext) m r1 k1 n1 b1 s1 ks1 l1 ((i + 1 : Nat) : Int) := by
  intro n
  induction n with
  | zero =>
    intro j r hj hr
    cases r with
    | zero => omega
    | succ r =>
      have : j = i := by omega
      subst this
      rw [flat_2, show decide ((j : Int) < (j : Int)) = false from decide_eq_false (by omega), cond_false, IntWalk.i64_in _ (by omega), List.drop_eq_nil_of_le (by simp; omega), List.any_nil, cond_false]
      rfl
  | succ n ih =>
    intro j r hj hr
    cases r with
    | zero => omega
    | succ r =>
      have h1 : j < ks1.length := by omega
      have h2 : j < (ks1.take i).length := by simp; omega
      have ih := ih (j + 1) r (by omega) (by omega)
      rw [show ((j + 1 : Nat) : Int) = (j : Int) + 1 by omega] at ih
      rw [flat_2, show decide ((j : Int) < (i : Int)) = true from decide_eq_true (by omega), cond_true, idx_at h1, idx_at hi, Option.bind_some, Option.bind_some, IntWalk.i64_in _ (by omega), ih, List.drop_eq_getElem_cons h2, List.any_cons, List.getElem_take]
      show (bif eqK ks1[j] ks1[i] then _ else _) = _
      cases eqK ks1[j] ks1[i]
      · rw [cond_false, Bool.false_or]
      · rw [cond_true, Bool.true_or, cond_true]
theorem flat_loop1 {ext : CallF} {m : Nat} {k1 n1 : Int} {b1 : Bool} {s1 : ByteArray} {ks1 l1 : List Dat} (hf : ks1.length ≤ 1000000) (hm : 1000000 < m) :
    ∀ (n i r : Nat), i + n = ks1.length → n < r → flatL1 (flC ext) m r k1 n1 b1 s1 ks1 l1 (i : Int) = bR1 (keysR (ks1.take i) (ks1.drop i)) := by
  intro n
  induction n with
  | zero =>
    intro i r hi hr
    cases r with
    | zero => omega
    | succ r =>
      rw [flat_1, show decide ((i : Int) < ks1.length) = false from decide_eq_false (by omega), cond_false, List.drop_eq_nil_of_le (by omega)]
      rfl
  | succ n ih =>
    intro i r hi hr
    cases r with
    | zero => omega
    | succ r =>
      have h1 : i < ks1.length := by omega
      have ih := ih (i + 1) r (by omega) (by omega)
      have e := flat_loop2 (ext := ext) (m := m) (r1 := r) (k1 := k1) (n1 := n1) (b1 := b1) (s1 := s1) (l1 := l1) h1 hf i 0 m (by omega) (by omega)
      rw [List.drop_zero, show ((0 : Nat) : Int) = 0 from rfl, ih] at e
      rw [flat_1, show decide ((i : Int) < ks1.length) = true from decide_eq_true (by omega), cond_true, idx_at h1, Option.bind_some, e, List.drop_eq_getElem_cons h1]
      show _ = bR1 (namedB (ks1[i].at 0).toS && (!((ks1.take i).any fun e => eqK e ks1[i]) && keysR (ks1.take i ++ [ks1[i]]) (ks1.drop (i + 1))))
      rw [List.take_append_getElem h1]
      cases namedB (ks1[i].at 0).toS
      · rfl
      · cases ((ks1.take i).any fun e => eqK e ks1[i]) <;> rfl
def bareB (k1 n1 : Int) (b1 : Bool) (s1 : ByteArray) (ks1 l1 : List Dat) : Bool :=
  ((((b1 && k1 != 1) || (((n1 != 0 && k1 != 2) && k1 != 3) && k1 != 8)) || ((!(s1.toList == (⟨#[]⟩ : ByteArray).toList) && k1 != 4) && k1 != 5)) || (decide ((ks1.length : Int) > 0) && k1 != 7)) || ((decide ((l1.length : Int) > 0) && k1 != 6) && k1 != 7)
theorem bare_eq (k1 n1 : Int) (b1 : Bool) (s1 : ByteArray) (ks1 l1 : List Dat) {β : Type} (kk : Bool → Option β) : bare k1 n1 b1 s1 ks1 l1 kk = kk (bareB k1 n1 b1 s1 ks1 l1) := by
  unfold bare bareB
  simp only [andK_eq, orO_eq]
def kindB (k1 n1 : Int) (s1 : ByteArray) (ks1 l1 : List Dat) : Bool :=
  bif (k1 == 2) then inB n1 else bif (k1 == 3) then inB n1 && (n1.tmod 65536) != 0 else bif (k1 == 4) then namedB s1 else bif (k1 == 5) then decide ((s1.size : Int) ≤ 65536) else
    bif (k1 == 7) then (bif ((ks1.length : Int) != l1.length) then false else keysR [] ks1) else bif (k1 == 8) then decide (n1 ≥ 1) && decide (n1 ≤ 4096) else (k1 == 0 || k1 == 1) || k1 == 6
def flatB (k1 n1 : Int) (b1 : Bool) (s1 : ByteArray) (ks1 l1 : List Dat) : Bool := !bareB k1 n1 b1 s1 ks1 l1 && kindB k1 n1 s1 ks1 l1
def flatE : List AV → Bx → Option (Bool × Out)
  | [.agg [.v (.int .i64 k1), .v (.bool b1), .v (.int .i64 n1), .v (.string s1), .row none 9 ks1, .row none 43 l1]], [none] =>
    some (Nat.ble ks1.length 1000000, .ret (B (flatB k1 n1 b1 s1 ks1 l1)) [none])
  | _, _ => none
theorem flat_run {ext : CallF} {m : Nat} {k1 n1 : Int} {b1 : Bool} {s1 : ByteArray} {ks1 l1 : List Dat} (hf : ks1.length ≤ 1000000) (hm : 1000000 < m) :
    evFn PR TK (flC ext) m 93 [.agg (obA k1 n1 b1 s1 ks1 l1)] [none] = bR1 (flatB k1 n1 b1 s1 ks1 l1) := by
  have e := flat_loop1 (ext := ext) (k1 := k1) (n1 := n1) (b1 := b1) (s1 := s1) (l1 := l1) hf hm ks1.length 0 m (by omega) (by omega)
  rw [List.drop_zero, List.take_zero, show ((0 : Nat) : Int) = 0 from rfl] at e
  rw [flat_0, bare_eq, e]
  unfold flatB kindB
  cases bareB k1 n1 b1 s1 ks1 l1
  · simp only [andK_eq, orK_eq, cond_false, Bool.not_false, Bool.true_and]
    cases (k1 == 2)
    · cases (k1 == 3)
      · cases (k1 == 4)
        · cases (k1 == 5)
          · cases (k1 == 7)
            · cases (k1 == 8) <;> rfl
            · cases ((ks1.length : Int) != l1.length) <;> rfl
          · rfl
        · rfl
      · rfl
    · rfl
  · rfl
theorem flat_sound {ext : CallF} (hext : SoundCall PR ext) : SoundCall PR (addF 93 flatE ext) := by
  refine sound_both (sound_add (takes := TK) hmixP (rname_sound (rin_sound sound_none)) _ (fn := (PR.funcs[93]?).getD default) (by kernel_rfl) (by kernel_rfl) flatE fun xs bs out h => ?_) hext
  unfold flatE at h
  split at h
  · injection h with h
    injection h with h1 h2
    subst h2
    exact ⟨1000001, flat_run (Nat.le_of_ble_eq_true h1) (by omega)⟩
  · cases h
end Go.Proofs.YtckdgcpomkefpaaGreatDoor.En
end
section
set_option linter.unusedVariables false
set_option linter.unusedSimpArgs false
set_option maxRecDepth 100000
namespace Go.Proofs.YtckdgcpomkefpaaGreatDoor.En
open Go
def bu (l : List Dat) : List AV := [.self 79, .row (some (sub 0 1)) 5 l]
noncomputable def bC (ext : CallF) : CallF := addF 96 ccE ext
theorem wb_0 (ext : CallF) (m : Nat) (l : List Dat) (c : Int) : evFn PR TK (bC ext) m 71 [.box 0 0, .v (.int .u8 c)] [some (bu l), none] =
  bif Nat.ble (l.length + 1) fitsN then some (.ret (.v .nilIface) [some (bu (l ++ [.int c])), none]) else none := by kernel_rfl
theorem ws_0 (ext : CallF) (m : Nat) (l : List Dat) (s : ByteArray) : evFn PR TK (bC ext) m 66 [.box 0 0, S s] [some (bu l), none] =
  bif Nat.ble (l.length + s.size) fitsN then some (.ret (.tup [I s.size, .v .nilIface]) [some (bu (l ++ bytesTo s)), none]) else none := by kernel_rfl
theorem bl_0 (call : CallF) (m : Nat) (l : List Dat) : evFn PR TK call m 46 [.box 0 0] [some (bu l)] = some (.ret (I l.length) [some (bu l)]) := by kernel_rfl
def isBu (T m E : Nat) : Bool := Nat.beq T 79 && Nat.beq m (sub 0 1) && Nat.beq E 5
def wbE : List AV → Bx → Option (Bool × Out)
  | [.box 0 0, .v (.int .u8 c)], [some [.self T, .row (some m) E l], none] => bif isBu T m E then some (Nat.ble (l.length + 1) fitsN, .ret (.v .nilIface) [some (bu (l ++ [.int c])), none]) else none
  | _, _ => none
def wsE : List AV → Bx → Option (Bool × Out)
  | [.box 0 0, .v (.string s)], [some [.self T, .row (some m) E l], none] => bif isBu T m E then some (Nat.ble (l.length + s.size) fitsN, .ret (.tup [I s.size, .v .nilIface]) [some (bu (l ++ bytesTo s)), none]) else none
  | _, _ => none
def blE : List AV → Bx → Option (Bool × Out)
  | [.box 0 0], [some [.self T, .row (some m) E l]] => bif isBu T m E then some (true, .ret (I l.length) [some (bu l)]) else none
  | _, _ => none
theorem isBu_eq {T m E : Nat} (h : isBu T m E = true) : T = 79 ∧ m = sub 0 1 ∧ E = 5 := by
  unfold isBu at h
  simp only [Bool.and_eq_true] at h
  exact ⟨Nat.eq_of_beq_eq_true h.1.1, Nat.eq_of_beq_eq_true h.1.2, Nat.eq_of_beq_eq_true h.2⟩
theorem wb_sound {ext : CallF} (hext : SoundCall PR ext) : SoundCall PR (addF 71 wbE ext) := by
  refine sound_both (sound_add (takes := TK) hmixP (cc_sound sound_none) _ (fn := (PR.funcs[71]?).getD default) (by kernel_rfl) (by kernel_rfl) wbE fun xs bs out h => ?_) hext
  unfold wbE at h
  split at h
  · obtain ⟨hc, h⟩ := bif_some h
    injection h with h
    injection h with h1 h2
    obtain ⟨rfl, rfl, rfl⟩ := isBu_eq hc
    subst h2
    refine ⟨1, (wb_0 _ _ _ _).trans ?_⟩
    rw [h1]; rfl
  · cases h
theorem ws_sound {ext : CallF} (hext : SoundCall PR ext) : SoundCall PR (addF 66 wsE ext) := by
  refine sound_both (sound_add (takes := TK) hmixP (cc_sound sound_none) _ (fn := (PR.funcs[66]?).getD default) (by kernel_rfl) (by kernel_rfl) wsE fun xs bs out h => ?_) hext
  unfold wsE at h
  split at h
  · obtain ⟨hc, h⟩ := bif_some h
    injection h with h
    injection h with h1 h2
    obtain ⟨rfl, rfl, rfl⟩ := isBu_eq hc
    subst h2
    refine ⟨1, (ws_0 _ _ _ _).trans ?_⟩
    rw [h1]; rfl
  · cases h
theorem bl_sound {ext : CallF} (hext : SoundCall PR ext) : SoundCall PR (addF 46 blE ext) := by
  refine sound_add (takes := TK) hmixP hext _ (fn := (PR.funcs[46]?).getD default) (by kernel_rfl) (by kernel_rfl) blE fun xs bs out h => ?_
  unfold blE at h
  split at h
  · obtain ⟨hc, h⟩ := bif_some h
    injection h with h
    injection h with h1 h2
    obtain ⟨rfl, rfl, rfl⟩ := isBu_eq hc
    subst h2
    exact ⟨1, bl_0 _ _ _⟩
  · cases h
def delB (c : Int) : Bool := c == 40 || (c == 41 || (c == 60 || (c == 62 || (c == 91 || (c == 93 || (c == 123 || (c == 125 || (c == 47 || c == 37))))))))
def plainB (c : Int) : Bool := ((decide (33 ≤ c) && decide (c ≤ 126)) && !delB c) && c != 35
def del1 : List Int → Int → Option Out
  | [], _ => bR1 false
  | [a], c => bif c == a then bR1 true else bR1 false
  | a :: l, c => bif c == a then (bif c == a then bR1 true else bR1 false) else del1 l c
theorem del_0 (call : CallF) (m : Nat) (c : Int) : evFn PR TK call m 107 [.v (.int .u8 c)] [none] = del1 [40, 41, 60, 62, 91, 93, 123, 125, 47, 37] c := by kernel_rfl
theorem rdel_0 (call : CallF) (m : Nat) (c : Int) : evFn PR TK call m 102 [.v (.int .u8 c)] [none] =
    orK (c == 40) (c == 41) fun t => orK t (c == 60) fun t => orK t (c == 62) fun t => orK t (c == 91) fun t => orK t (c == 93) fun t => orK t (c == 123) fun t => orK t (c == 125) fun t => orK t (c == 47) fun t => orK t (c == 37) bR1 := by kernel_rfl
def delE : List AV → Bx → Option (Bool × Out)
  | [.v (.int .u8 c)], [none] => some (true, .ret (B (delB c)) [none])
  | _, _ => none
theorem del1_eq (c : Int) : del1 [40, 41, 60, 62, 91, 93, 123, 125, 47, 37] c = bR1 (delB c) := by
  unfold delB
  simp only [del1]
  cases c == 40 <;> cases c == 41 <;> cases c == 60 <;> cases c == 62 <;> cases c == 91 <;> cases c == 93 <;> cases c == 123 <;> cases c == 125 <;> cases c == 47 <;> cases c == 37 <;> rfl
theorem del_sound {ext : CallF} (hext : SoundCall PR ext) : SoundCall PR (addF 107 delE ext) := by
  refine sound_add (takes := TK) hmixP hext _ (fn := (PR.funcs[107]?).getD default) (by kernel_rfl) (by kernel_rfl) delE fun xs bs out h => ?_
  unfold delE at h
  split at h
  · cases h
    exact ⟨0, (del_0 _ _ _).trans (del1_eq _)⟩
  · cases h
theorem rdel_sound {ext : CallF} (hext : SoundCall PR ext) : SoundCall PR (addF 102 delE ext) := by
  refine sound_add (takes := TK) hmixP hext _ (fn := (PR.funcs[102]?).getD default) (by kernel_rfl) (by kernel_rfl) delE fun xs bs out h => ?_
  unfold delE at h
  split at h
  · cases h
    refine ⟨0, (rdel_0 _ _ _).trans ?_⟩
    simp only [orK_eq]
    unfold delB
    simp only [Bool.or_assoc]
    rfl
  · cases h
def plainE : List AV → Bx → Option (Bool × Out)
  | [.v (.int .u8 c)], [none] => some (true, .ret (B (plainB c)) [none])
  | _, _ => none
theorem plain_0 (ext : CallF) (m : Nat) (c : Int) : evFn PR TK (addF 107 delE ext) m 100 [.v (.int .u8 c)] [none] =
    andK (decide (33 ≤ c)) (decide (c ≤ 126)) fun t => andK t (!delB c) fun t => andK t (c != 35) bR1 := by kernel_rfl
theorem plain_sound {ext : CallF} (hext : SoundCall PR ext) : SoundCall PR (addF 100 plainE ext) := by
  refine sound_both (sound_add (takes := TK) hmixP (del_sound sound_none) _ (fn := (PR.funcs[100]?).getD default) (by kernel_rfl) (by kernel_rfl) plainE fun xs bs out h => ?_) hext
  unfold plainE at h
  split at h
  · cases h
    refine ⟨0, (plain_0 _ _ _).trans ?_⟩
    simp only [andK_eq]
    rfl
  · cases h
def figs : ByteArray := ⟨#[48, 49, 50, 51, 52, 53, 54, 55, 56, 57, 65, 66, 67, 68, 69, 70]⟩
noncomputable def nmC (ext : CallF) : CallF := addF 71 wbE (addF 100 plainE ext)
def tR0 (l : List Dat) : Option Out := some (.ret (.tup []) [some (bu l), none])
noncomputable def onmL (call : CallF) (m r : Nat) (l : List Dat) (s : ByteArray) (i : Int) := loopF PR TK call m 69 [some (bu l), none] [true, true] r (sp 34 [(0, .box 0 0), (1, S s), (9, I s.size), (10, I i)] [(0, bu l)])
theorem oname_0 (ext : CallF) (m : Nat) (l : List Dat) (s : ByteArray) : evFn PR TK (nmC ext) m 69 [.box 0 0, S s] [some (bu l), none] =
  bif Nat.ble (l.length + 1) fitsN then onmL (nmC ext) m m (l ++ [.int 47]) s 0 else none := by kernel_rfl
def hi4 (c : Int) : Int := c.fdiv (2 ^ (min (4 : Int).toNat IntKind.u8.bits))
def lo4 (c : Int) : Int := IntKind.u8.wrap (BitVec.ofInt IntKind.u8.bits c &&& BitVec.ofInt IntKind.u8.bits 15).toNat
theorem oname_1 (ext : CallF) (m r : Nat) (l : List Dat) (s : ByteArray) (i : Int) : onmL (nmC ext) m (r + 1) l s i =
  bif decide (i < s.size) then (bif (true && decide (0 ≤ i) && decide (i < s.size)) then
    (bif plainB (bt s i) then (bif Nat.ble (l.length + 1) fitsN then onmL (nmC ext) m r (l ++ [.int (bt s i)]) s (W (i + 1)) else none) else
      bif Nat.ble (l.length + 1) fitsN then (bif (true && decide (0 ≤ hi4 (bt s i)) && decide (hi4 (bt s i) < (figs.size : Int))) then
        (bif Nat.ble ((l ++ [Dat.int 35]).length + 1) fitsN then (bif (true && decide (0 ≤ lo4 (bt s i)) && decide (lo4 (bt s i) < (figs.size : Int))) then
          (bif Nat.ble (((l ++ [Dat.int 35]) ++ [Dat.int (bt figs (hi4 (bt s i)))]).length + 1) fitsN then onmL (nmC ext) m r (((l ++ [Dat.int 35]) ++ [Dat.int (bt figs (hi4 (bt s i)))]) ++ [Dat.int (bt figs (lo4 (bt s i)))]) s (W (i + 1)) else none) else none) else none) else none) else none) else none)
  else tR0 l := by kernel_rfl
end Go.Proofs.YtckdgcpomkefpaaGreatDoor.En
end
section
set_option linter.unusedVariables false
set_option linter.unusedSimpArgs false
set_option maxRecDepth 100000
namespace Go.Proofs.YtckdgcpomkefpaaGreatDoor.En
open Go
def qu (c : Int) : Int := IntKind.u8.wrap (c.tdiv 16)
def andO {β : Type} (c : Bool) (d : Option Bool) (k : Bool → Option β) : Option β := (bif c then d else some false).bind k
theorem andO_eq {β : Type} (c d : Bool) (k : Bool → Option β) : andO c (some d) k = k (c && d) := by cases c <;> rfl
def okI (s : ByteArray) (i : Int) : Bool := true && decide (0 ≤ i) && decide (i < s.size)
noncomputable def rnmC (ext : CallF) : CallF := addF 102 delE ext
noncomputable def rnmL (call : CallF) (m r : Nat) (s : ByteArray) (acc : List Dat) (i : Int) := loopF PR TK call m 74 [none] [true, true, false, true] r (sp 56 [(0, S s), (3, .row (some 3) 5 acc), (4, I i)] [])
theorem rnm_0 (ext : CallF) (m : Nat) (s : ByteArray) : evFn PR TK (rnmC ext) m 74 [S s] [none] = rnmL (rnmC ext) m m s [.int 47] 0 := by kernel_rfl
theorem rnm_1 (ext : CallF) (m r : Nat) (s : ByteArray) (acc : List Dat) (i : Int) : rnmL (rnmC ext) m (r + 1) s acc i =
  bif decide (i < s.size) then (bif okI s i then
    andO (decide (bt s i ≥ 33)) (bif okI s i then some (decide (bt s i ≤ 126)) else none) fun t => andO t (bif okI s i then some (!delB (bt s i)) else none) fun t => andO t (bif okI s i then some (bt s i != 35) else none) fun t =>
      bif t then (bif okI s i then (bif Nat.ble (acc.length + 1) fitsN then rnmL (rnmC ext) m r s (acc ++ [Dat.int (bt s i)]) (W (i + 1)) else none) else none) else
        (bif okI s i then (bif okI figs (qu (bt s i)) then (bif okI s i then (bif okI figs ((bt s i).tmod 16) then
          (bif Nat.ble (acc.length + 3) fitsN then rnmL (rnmC ext) m r s (acc ++ [Dat.int 35, Dat.int (bt figs (qu (bt s i))), Dat.int (bt figs ((bt s i).tmod 16))]) (W (i + 1)) else none) else none) else none) else none) else none) else none)
  else some (.ret (S (bytesOf acc)) [none]) := by kernel_rfl
def digOk (n : Nat) : Bool := okI figs (hi4 n) && (okI figs (lo4 n) && (decide (hi4 n = qu n) && decide (lo4 n = (n : Int).tmod 16)))
theorem dig_all : ∀ n : Fin 256, digOk n.val = true := by decide +kernel
theorem dig_ok (b : UInt8) : okI figs (hi4 b.toNat) = true ∧ okI figs (lo4 b.toNat) = true ∧ hi4 b.toNat = qu b.toNat ∧ lo4 b.toNat = (b.toNat : Int).tmod 16 := by
  have h := dig_all ⟨b.toNat, b.toNat_lt⟩
  unfold digOk at h
  simp only [Bool.and_eq_true, decide_eq_true_eq] at h
  exact ⟨h.1, h.2.1, h.2.2.1, h.2.2.2⟩
def esc (b : UInt8) : List Dat := bif plainB b.toNat then [Dat.int b.toNat] else [Dat.int 35, Dat.int (bt figs (hi4 b.toNat)), Dat.int (bt figs (lo4 b.toNat))]
def nameT (s : ByteArray) : List Dat := Dat.int 47 :: s.data.toList.flatMap esc
theorem esc_len (b : UInt8) : (esc b).length ≤ 3 := by unfold esc; cases plainB b.toNat <;> simp
theorem okI_nat {s : ByteArray} {i : Nat} (h : i < s.size) : okI s (i : Int) = true := by
  unfold okI
  rw [decide_eq_true (show (0 : Int) ≤ i by omega), decide_eq_true (show (i : Int) < s.size by omega)]; rfl
theorem fits_le {n : Nat} (h : n ≤ 1099511627776) : Nat.ble n fitsN = true := Nat.ble_eq_true_of_le h
theorem oname_loop {ext : CallF} {m : Nat} {s : ByteArray} (hf : s.size ≤ 140737488355328) : ∀ (n i r : Nat) (l : List Dat), i + n = s.data.toList.length → n < r → l.length + 3 * n ≤ 1099511627000 → onmL (nmC ext) m r l s (i : Int) = tR0 (l ++ (s.data.toList.drop i).flatMap esc) := by
  have hsz : s.data.toList.length = s.size := Array.length_toList
  intro n
  induction n with
  | zero =>
    intro i r l hi hr hl
    cases r with
    | zero => omega
    | succ r =>
      rw [oname_1, show decide ((i : Int) < s.size) = false from decide_eq_false (by omega), cond_false, List.drop_eq_nil_of_le (by omega), List.flatMap_nil, List.append_nil]
  | succ n ih =>
    intro i r l hi hr hl
    cases r with
    | zero => omega
    | succ r =>
      have h1 : i < s.data.toList.length := by omega
      have hbt := bt_nat s i h1
      obtain ⟨d1, d2, d3, d4⟩ := dig_ok s.data.toList[i]
      have hok : (true && decide ((0 : Int) ≤ i) && decide ((i : Int) < s.size)) = true := okI_nat (by omega)
      have d1' : (true && decide (0 ≤ hi4 (s.data.toList[i].toNat : Int)) && decide (hi4 (s.data.toList[i].toNat : Int) < (figs.size : Int))) = true := d1
      have d2' : (true && decide (0 ≤ lo4 (s.data.toList[i].toNat : Int)) && decide (lo4 (s.data.toList[i].toNat : Int) < (figs.size : Int))) = true := d2
      rw [oname_1, hok, show decide ((i : Int) < s.size) = true from decide_eq_true (by omega), cond_true, cond_true, hbt, d1', d2', W_in (n := (i : Int) + 1) (by omega), List.drop_eq_getElem_cons h1, List.flatMap_cons]
      have ih' := fun l h => ih (i + 1) r l (by omega) (by omega) h
      rw [show ((i + 1 : Nat) : Int) = (i : Int) + 1 by omega] at ih'
      rw [show esc s.data.toList[i] = bif plainB (s.data.toList[i].toNat : Int) then [Dat.int s.data.toList[i].toNat] else [Dat.int 35, Dat.int (bt figs (hi4 s.data.toList[i].toNat)), Dat.int (bt figs (lo4 s.data.toList[i].toNat))] from rfl]
      cases plainB (s.data.toList[i].toNat : Int)
      · rw [cond_false, cond_true, cond_true, fits_le (by omega), cond_true, fits_le (by simp; omega), cond_true, fits_le (by simp; omega), cond_true, ih' _ (by simp; omega), cond_false]
        simp
      · rw [cond_true, fits_le (by omega), cond_true, ih' _ (by simp; omega), cond_true]
        simp
theorem rnm_loop {ext : CallF} {m : Nat} {s : ByteArray} (hf : s.size ≤ 140737488355328) : ∀ (n i r : Nat) (l : List Dat), i + n = s.data.toList.length → n < r → l.length + 3 * n ≤ 1099511627000 → rnmL (rnmC ext) m r s l (i : Int) = some (.ret (S (bytesOf (l ++ (s.data.toList.drop i).flatMap esc))) [none]) := by
  have hsz : s.data.toList.length = s.size := Array.length_toList
  intro n
  induction n with
  | zero =>
    intro i r l hi hr hl
    cases r with
    | zero => omega
    | succ r =>
      rw [rnm_1, show decide ((i : Int) < s.size) = false from decide_eq_false (by omega), cond_false, List.drop_eq_nil_of_le (by omega), List.flatMap_nil, List.append_nil]
  | succ n ih =>
    intro i r l hi hr hl
    cases r with
    | zero => omega
    | succ r =>
      have h1 : i < s.data.toList.length := by omega
      have hbt := bt_nat s i h1
      obtain ⟨d1, d2, d3, d4⟩ := dig_ok s.data.toList[i]
      have hp : (((decide ((s.data.toList[i].toNat : Int) ≥ 33) && decide ((s.data.toList[i].toNat : Int) ≤ 126)) && !delB (s.data.toList[i].toNat : Int)) && (s.data.toList[i].toNat : Int) != 35) = plainB (s.data.toList[i].toNat : Int) := rfl
      rw [rnm_1, show decide ((i : Int) < s.size) = true from decide_eq_true (by omega), cond_true, okI_nat (s := s) (i := i) (by omega), cond_true, cond_true, cond_true, cond_true, hbt, andO_eq, andO_eq, andO_eq, hp, ← d3, ← d4, d1, d2, W_in (n := (i : Int) + 1) (by omega), List.drop_eq_getElem_cons h1, List.flatMap_cons]
      have ih' := fun l h => ih (i + 1) r l (by omega) (by omega) h
      rw [show ((i + 1 : Nat) : Int) = (i : Int) + 1 by omega] at ih'
      rw [show esc s.data.toList[i] = bif plainB (s.data.toList[i].toNat : Int) then [Dat.int s.data.toList[i].toNat] else [Dat.int 35, Dat.int (bt figs (hi4 s.data.toList[i].toNat)), Dat.int (bt figs (lo4 s.data.toList[i].toNat))] from rfl]
      cases plainB (s.data.toList[i].toNat : Int)
      · rw [cond_false, cond_true, cond_true, cond_true, cond_true, fits_le (by omega), cond_true, ih' _ (by simp; omega), cond_false]
        simp
      · rw [cond_true, cond_true, fits_le (by omega), cond_true, ih' _ (by simp; omega), cond_true]
        simp
def nmOk (s : ByteArray) (n : Nat) : Bool := Nat.ble s.size 100000000000 && Nat.ble n 500000000000
def nameE : List AV → Bx → Option (Bool × Out)
  | [.box 0 0, .v (.string s)], [some [.self T, .row (some m) E l], none] => bif isBu T m E then some (nmOk s l.length, .ret (.tup []) [some (bu (l ++ nameT s)), none]) else none
  | _, _ => none
def rnameE : List AV → Bx → Option (Bool × Out)
  | [.v (.string s)], [none] => some (Nat.ble s.size 100000000000, .ret (S (bytesOf (nameT s))) [none])
  | _, _ => none
theorem name_sound {ext : CallF} (hext : SoundCall PR ext) : SoundCall PR (addF 69 nameE ext) := by
  refine sound_both (sound_add (takes := TK) hmixP (wb_sound (plain_sound sound_none)) _ (fn := (PR.funcs[69]?).getD default) (by kernel_rfl) (by kernel_rfl) nameE fun xs bs out h => ?_) hext
  unfold nameE at h
  split at h
  · rename_i s T mm E l
    obtain ⟨hc, h⟩ := bif_some h
    injection h with h
    injection h with h1 h2
    obtain ⟨rfl, rfl, rfl⟩ := isBu_eq hc
    subst h2
    unfold nmOk at h1
    rw [Bool.and_eq_true] at h1
    have b1 := Nat.le_of_ble_eq_true h1.1
    have b2 := Nat.le_of_ble_eq_true h1.2
    have hsz : s.data.toList.length = s.size := Array.length_toList
    refine ⟨s.size + 1, (oname_0 _ _ _ _).trans ?_⟩
    have e := oname_loop (ext := fun _ _ _ => none) (m := s.size + 1) (s := s) (by omega) s.data.toList.length 0 (s.size + 1) (l ++ [Dat.int 47]) (by omega) (by omega) (by simp; omega)
    rw [List.drop_zero, show ((0 : Nat) : Int) = 0 from rfl] at e
    rw [fits_le (by omega), cond_true, e, List.append_assoc]
    rfl
  · cases h
theorem rnm_sound {ext : CallF} (hext : SoundCall PR ext) : SoundCall PR (addF 74 rnameE ext) := by
  refine sound_both (sound_add (takes := TK) hmixP (rdel_sound sound_none) _ (fn := (PR.funcs[74]?).getD default) (by kernel_rfl) (by kernel_rfl) rnameE fun xs bs out h => ?_) hext
  unfold rnameE at h
  split at h
  · rename_i s
    injection h with h
    injection h with h1 h2
    subst h2
    have b1 := Nat.le_of_ble_eq_true h1
    have hsz : s.data.toList.length = s.size := Array.length_toList
    refine ⟨s.size + 1, (rnm_0 _ _ _).trans ?_⟩
    have e := rnm_loop (ext := fun _ _ _ => none) (m := s.size + 1) (s := s) (by omega) s.data.toList.length 0 (s.size + 1) [Dat.int 47] (by omega) (by omega) (by simp; omega)
    rw [List.drop_zero, show ((0 : Nat) : Int) = 0 from rfl] at e
    rw [e]
    rfl
  · cases h
end Go.Proofs.YtckdgcpomkefpaaGreatDoor.En
end
section
set_option linter.unusedVariables false
set_option linter.unusedSimpArgs false
set_option maxRecDepth 100000
namespace Go.Proofs.YtckdgcpomkefpaaGreatDoor.En
open Go
noncomputable def wbC (ext : CallF) : CallF := addF 71 wbE ext
noncomputable def txS (call : CallF) (m r : Nat) (l : List Dat) (s : ByteArray) (t : Bool) (i : Int) := loopF PR TK call m 70 [some (bu l), none] [true, false, true] r (sp 84 [(0, .box 0 0), (1, S s), (4, B t), (10, I s.size), (11, I i)] [(0, bu l)])
noncomputable def txH (call : CallF) (m r : Nat) (l : List Dat) (s : ByteArray) (i : Int) := loopF PR TK call m 70 [some (bu l), none] [true, true, false, true, false, true, false, true] r (sp 84 [(0, .box 0 0), (1, S s), (33, I s.size), (34, I i)] [(0, bu l)])
noncomputable def txP (call : CallF) (m r : Nat) (l : List Dat) (s : ByteArray) (i : Int) := loopF PR TK call m 70 [some (bu l), none] [true, true, true, true, false, true] r (sp 84 [(0, .box 0 0), (1, S s), (57, I s.size), (58, I i)] [(0, bu l)])
theorem otx_0 (ext : CallF) (m : Nat) (l : List Dat) (s : ByteArray) : evFn PR TK (wbC ext) m 70 [.box 0 0, S s] [some (bu l), none] = txS (wbC ext) m m l s true 0 := by kernel_rfl
theorem otx_1 (ext : CallF) (m r : Nat) (l : List Dat) (s : ByteArray) (t : Bool) (i : Int) : txS (wbC ext) m (r + 1) l s t i =
  bif decide (i < s.size) then
    andO t (bif okI s i then some (decide (32 ≤ bt s i)) else none) fun t => andO t (bif okI s i then some (decide (bt s i ≤ 126)) else none) fun t => txS (wbC ext) m r l s t (W (i + 1))
  else bif !t then (bif Nat.ble (l.length + 1) fitsN then txH (wbC ext) m m (l ++ [.int 60]) s 0 else none) else (bif Nat.ble (l.length + 1) fitsN then txP (wbC ext) m m (l ++ [.int 40]) s 0 else none) := by kernel_rfl
theorem otx_2 (ext : CallF) (m r : Nat) (l : List Dat) (s : ByteArray) (i : Int) : txH (wbC ext) m (r + 1) l s i =
  bif decide (i < s.size) then
    (bif okI s i then (bif okI figs (hi4 (bt s i)) then
      (bif Nat.ble (l.length + 1) fitsN then (bif okI s i then (bif okI figs (lo4 (bt s i)) then
          (bif Nat.ble ((l ++ [Dat.int (bt figs (hi4 (bt s i)))]).length + 1) fitsN then txH (wbC ext) m r ((l ++ [Dat.int (bt figs (hi4 (bt s i)))]) ++ [Dat.int (bt figs (lo4 (bt s i)))]) s (W (i + 1)) else none) else none) else none) else none) else none) else none)
  else bif Nat.ble (l.length + 1) fitsN then tR0 (l ++ [.int 62]) else none := by kernel_rfl
theorem otx_3 (ext : CallF) (m r : Nat) (l : List Dat) (s : ByteArray) (i : Int) : txP (wbC ext) m (r + 1) l s i =
  bif decide (i < s.size) then
    (bif okI s i then orK (bt s i == 40) (bt s i == 41) fun t => orK t (bt s i == 92) fun t =>
      bif t then (bif Nat.ble (l.length + 1) fitsN then (bif okI s i then
        (bif Nat.ble ((l ++ [Dat.int 92]).length + 1) fitsN then txP (wbC ext) m r ((l ++ [Dat.int 92]) ++ [Dat.int (bt s i)]) s (W (i + 1)) else none) else none) else none)
      else (bif okI s i then (bif Nat.ble (l.length + 1) fitsN then txP (wbC ext) m r (l ++ [Dat.int (bt s i)]) s (W (i + 1)) else none) else none) else none)
  else bif Nat.ble (l.length + 1) fitsN then tR0 (l ++ [.int 41]) else none := by kernel_rfl
noncomputable def rsL (call : CallF) (m r : Nat) (s : ByteArray) (acc : List Dat) (i : Int) := loopF PR TK call m 75 [none] [true, true, false, true] r (sp 77 [(0, S s), (3, .row (some 3) 5 acc), (4, I i)] [])
noncomputable def rsL2 (call : CallF) (m r1 r : Nat) (s : ByteArray) (acc : List Dat) (i : Int) := loopF2 PR TK call m 75 [none] [true, true, false, true] r1 [true, false, false, true, false, true, false, true] r (sp 77 [(0, S s), (5, .row (some 5) 5 acc), (6, I i)] [])
theorem rs_0 (call : CallF) (m : Nat) (s : ByteArray) : evFn PR TK call m 75 [S s] [none] = rsL call m m s [.int 40] 0 := by kernel_rfl
theorem rs_2 (call : CallF) (m r1 r : Nat) (s : ByteArray) (acc : List Dat) (i : Int) : rsL2 call m r1 (r + 1) s acc i =
  bif decide (i < s.size) then
    (bif okI s i then (bif okI figs (qu (bt s i)) then (bif okI s i then (bif okI figs ((bt s i).tmod 16) then
      (bif Nat.ble (acc.length + 2) fitsN then rsL2 call m r1 r s (acc ++ [Dat.int (bt figs (qu (bt s i))), Dat.int (bt figs ((bt s i).tmod 16))]) (W (i + 1)) else none) else none) else none) else none) else none)
  else bif Nat.ble (acc.length + 1) fitsN then some (.ret (S (bytesOf (acc ++ [Dat.int 62]))) [none]) else none := by kernel_rfl
theorem rs_1 (call : CallF) (m r : Nat) (s : ByteArray) (acc : List Dat) (i : Int) : rsL call m (r + 1) s acc i =
  bif decide (i < s.size) then
    (bif okI s i then orO (decide (bt s i < 32)) (bif okI s i then some (decide (bt s i > 126)) else none) fun t =>
      bif t then rsL2 call m r m s [.int 60] 0 else
      (bif okI s i then orO (bt s i == 40) (bif okI s i then some (bt s i == 41) else none) fun t => orO t (bif okI s i then some (bt s i == 92) else none) fun t =>
        bif t then (bif Nat.ble (acc.length + 1) fitsN then (bif okI s i then
          (bif Nat.ble ((acc ++ [Dat.int 92]).length + 1) fitsN then rsL call m r s ((acc ++ [Dat.int 92]) ++ [Dat.int (bt s i)]) (W (i + 1)) else none) else none) else none)
        else (bif okI s i then (bif Nat.ble (acc.length + 1) fitsN then rsL call m r s (acc ++ [Dat.int (bt s i)]) (W (i + 1)) else none) else none) else none) else none)
  else bif Nat.ble (acc.length + 1) fitsN then some (.ret (S (bytesOf (acc ++ [Dat.int 41]))) [none]) else none := by kernel_rfl
end Go.Proofs.YtckdgcpomkefpaaGreatDoor.En
end
section
set_option linter.unusedVariables false
set_option linter.unusedSimpArgs false
set_option maxRecDepth 100000
namespace Go.Proofs.YtckdgcpomkefpaaGreatDoor.En
open Go
def shB (b : UInt8) : Bool := decide (32 ≤ (b.toNat : Int)) && decide ((b.toNat : Int) ≤ 126)
def escP (b : UInt8) : List Dat := bif ((b.toNat : Int) == 40 || (b.toNat : Int) == 41) || (b.toNat : Int) == 92 then [Dat.int 92, Dat.int b.toNat] else [Dat.int b.toNat]
def hex2 (b : UInt8) : List Dat := [Dat.int (bt figs (hi4 b.toNat)), Dat.int (bt figs (lo4 b.toNat))]
def hexT (s : ByteArray) : List Dat := (Dat.int 60 :: s.data.toList.flatMap hex2) ++ [Dat.int 62]
def parT (s : ByteArray) : List Dat := (Dat.int 40 :: s.data.toList.flatMap escP) ++ [Dat.int 41]
def txtT (s : ByteArray) : List Dat := bif s.data.toList.all shB then parT s else hexT s
theorem escP_len (b : UInt8) : (escP b).length ≤ 2 := by unfold escP; cases (((b.toNat : Int) == 40 || (b.toNat : Int) == 41) || (b.toNat : Int) == 92) <;> simp
theorem hex2_len (b : UInt8) : (hex2 b).length = 2 := rfl
theorem nat_succ_cast (i : Nat) : ((i + 1 : Nat) : Int) = (i : Int) + 1 := by omega
theorem txH_loop {ext : CallF} {m : Nat} {s : ByteArray} (hf : s.size ≤ 140737488355328) : ∀ (n i r : Nat) (l : List Dat), i + n = s.data.toList.length → n < r → l.length + 2 * n + 1 ≤ 1099511627000 → txH (wbC ext) m r l s (i : Int) = tR0 ((l ++ (s.data.toList.drop i).flatMap hex2) ++ [Dat.int 62]) := by
  have hsz : s.data.toList.length = s.size := Array.length_toList
  intro n
  induction n with
  | zero =>
    intro i r l hi hr hl
    cases r with
    | zero => omega
    | succ r =>
      rw [otx_2, show decide ((i : Int) < s.size) = false from decide_eq_false (by omega), cond_false, List.drop_eq_nil_of_le (by omega), List.flatMap_nil, List.append_nil, fits_le (by omega), cond_true]
  | succ n ih =>
    intro i r l hi hr hl
    cases r with
    | zero => omega
    | succ r =>
      have h1 : i < s.data.toList.length := by omega
      have hbt := bt_nat s i h1
      obtain ⟨d1, d2, d3, d4⟩ := dig_ok s.data.toList[i]
      have ih' := fun l h => ih (i + 1) r l (by omega) (by omega) h
      rw [nat_succ_cast] at ih'
      rw [otx_2, show decide ((i : Int) < s.size) = true from decide_eq_true (by omega), cond_true, okI_nat (s := s) (i := i) (by omega), cond_true, hbt, d1, cond_true, fits_le (by omega), cond_true, cond_true, d2, cond_true, fits_le (by simp; omega), cond_true, W_in (n := (i : Int) + 1) (by omega), ih' _ (by simp; omega), List.drop_eq_getElem_cons h1, List.flatMap_cons]
      simp [hex2]
theorem txP_loop {ext : CallF} {m : Nat} {s : ByteArray} (hf : s.size ≤ 140737488355328) : ∀ (n i r : Nat) (l : List Dat), i + n = s.data.toList.length → n < r → l.length + 2 * n + 1 ≤ 1099511627000 → txP (wbC ext) m r l s (i : Int) = tR0 ((l ++ (s.data.toList.drop i).flatMap escP) ++ [Dat.int 41]) := by
  have hsz : s.data.toList.length = s.size := Array.length_toList
  intro n
  induction n with
  | zero =>
    intro i r l hi hr hl
    cases r with
    | zero => omega
    | succ r =>
      rw [otx_3, show decide ((i : Int) < s.size) = false from decide_eq_false (by omega), cond_false, List.drop_eq_nil_of_le (by omega), List.flatMap_nil, List.append_nil, fits_le (by omega), cond_true]
  | succ n ih =>
    intro i r l hi hr hl
    cases r with
    | zero => omega
    | succ r =>
      have h1 : i < s.data.toList.length := by omega
      have hbt := bt_nat s i h1
      have ih' := fun l h => ih (i + 1) r l (by omega) (by omega) h
      rw [nat_succ_cast] at ih'
      rw [otx_3, show decide ((i : Int) < s.size) = true from decide_eq_true (by omega), cond_true, okI_nat (s := s) (i := i) (by omega), cond_true, hbt, orK_eq, orK_eq, W_in (n := (i : Int) + 1) (by omega), List.drop_eq_getElem_cons h1, List.flatMap_cons,
        show escP s.data.toList[i] = bif ((s.data.toList[i].toNat : Int) == 40 || (s.data.toList[i].toNat : Int) == 41) || (s.data.toList[i].toNat : Int) == 92 then [Dat.int 92, Dat.int s.data.toList[i].toNat] else [Dat.int s.data.toList[i].toNat] from rfl]
      cases (((s.data.toList[i].toNat : Int) == 40 || (s.data.toList[i].toNat : Int) == 41) || (s.data.toList[i].toNat : Int) == 92)
      · rw [cond_false, cond_true, fits_le (by omega), cond_true, ih' _ (by simp; omega), cond_false]
        simp
      · rw [cond_true, fits_le (by omega), cond_true, cond_true, fits_le (by simp; omega), cond_true, ih' _ (by simp; omega), cond_true]
        simp
theorem txS_loop {ext : CallF} {m : Nat} {s : ByteArray} (hf : s.size ≤ 140737488355328) (l : List Dat) (hl : l.length ≤ 1099511626000) : ∀ (n i r : Nat) (t : Bool), i + n = s.data.toList.length → n < r → txS (wbC ext) m r l s t (i : Int) =
    bif t && (s.data.toList.drop i).all shB then txP (wbC ext) m m (l ++ [.int 40]) s 0 else txH (wbC ext) m m (l ++ [.int 60]) s 0 := by
  have hsz : s.data.toList.length = s.size := Array.length_toList
  intro n
  induction n with
  | zero =>
    intro i r t hi hr
    cases r with
    | zero => omega
    | succ r =>
      rw [otx_1, show decide ((i : Int) < s.size) = false from decide_eq_false (by omega), cond_false, List.drop_eq_nil_of_le (by omega), List.all_nil, Bool.and_true, fits_le (by omega)]
      cases t
      · rw [show (!false) = true from rfl, cond_true, cond_true, cond_false]
      · rw [show (!true) = false from rfl, cond_false, cond_true, cond_true]
  | succ n ih =>
    intro i r t hi hr
    cases r with
    | zero => omega
    | succ r =>
      have h1 : i < s.data.toList.length := by omega
      have hbt := bt_nat s i h1
      have ih' := fun t => ih (i + 1) r t (by omega) (by omega)
      rw [nat_succ_cast] at ih'
      rw [otx_1, show decide ((i : Int) < s.size) = true from decide_eq_true (by omega), cond_true, okI_nat (s := s) (i := i) (by omega), cond_true, cond_true, hbt, andO_eq, andO_eq, W_in (n := (i : Int) + 1) (by omega), ih', List.drop_eq_getElem_cons h1, List.all_cons,
        show shB s.data.toList[i] = (decide (32 ≤ (s.data.toList[i].toNat : Int)) && decide ((s.data.toList[i].toNat : Int) ≤ 126)) from rfl, Bool.and_assoc, Bool.and_assoc, Bool.and_assoc]
theorem rsL2_loop {call : CallF} {m r1 : Nat} {s : ByteArray} (hf : s.size ≤ 140737488355328) : ∀ (n i r : Nat) (l : List Dat), i + n = s.data.toList.length → n < r → l.length + 2 * n + 1 ≤ 1099511627000 → rsL2 call m r1 r s l (i : Int) = some (.ret (S (bytesOf ((l ++ (s.data.toList.drop i).flatMap hex2) ++ [Dat.int 62]))) [none]) := by
  have hsz : s.data.toList.length = s.size := Array.length_toList
  intro n
  induction n with
  | zero =>
    intro i r l hi hr hl
    cases r with
    | zero => omega
    | succ r =>
      rw [rs_2, show decide ((i : Int) < s.size) = false from decide_eq_false (by omega), cond_false, List.drop_eq_nil_of_le (by omega), List.flatMap_nil, List.append_nil, fits_le (by omega), cond_true]
  | succ n ih =>
    intro i r l hi hr hl
    cases r with
    | zero => omega
    | succ r =>
      have h1 : i < s.data.toList.length := by omega
      have hbt := bt_nat s i h1
      obtain ⟨d1, d2, d3, d4⟩ := dig_ok s.data.toList[i]
      have ih' := fun l h => ih (i + 1) r l (by omega) (by omega) h
      rw [nat_succ_cast] at ih'
      rw [rs_2, show decide ((i : Int) < s.size) = true from decide_eq_true (by omega), cond_true, okI_nat (s := s) (i := i) (by omega), cond_true, hbt, ← d3, ← d4, d1, cond_true, cond_true, d2, cond_true, fits_le (by omega), cond_true, W_in (n := (i : Int) + 1) (by omega), ih' _ (by simp; omega), List.drop_eq_getElem_cons h1, List.flatMap_cons]
      simp [hex2]
theorem shB_eq (b : UInt8) : (decide ((b.toNat : Int) < 32) || decide ((b.toNat : Int) > 126)) = !shB b := by
  unfold shB
  rw [Bool.not_and, ← decide_not, ← decide_not]
  congr 1 <;> exact decide_eq_decide.mpr (by omega)
theorem rsL_loop {call : CallF} {m : Nat} {s : ByteArray} (hf : s.size ≤ 140737488355328) (hm : s.size < m) (hs : s.size ≤ 100000000000) : ∀ (n i r : Nat) (l : List Dat), i + n = s.data.toList.length → n < r → l.length + 2 * n + 1 ≤ 1099511627000 → rsL call m r s l (i : Int) =
    some (.ret (S (bytesOf (bif (s.data.toList.drop i).all shB then (l ++ (s.data.toList.drop i).flatMap escP) ++ [Dat.int 41] else hexT s))) [none]) := by
  have hsz : s.data.toList.length = s.size := Array.length_toList
  intro n
  induction n with
  | zero =>
    intro i r l hi hr hl
    cases r with
    | zero => omega
    | succ r =>
      rw [rs_1, show decide ((i : Int) < s.size) = false from decide_eq_false (by omega), cond_false, List.drop_eq_nil_of_le (by omega), List.flatMap_nil, List.append_nil, fits_le (by omega), cond_true, List.all_nil, cond_true]
  | succ n ih =>
    intro i r l hi hr hl
    cases r with
    | zero => omega
    | succ r =>
      have h1 : i < s.data.toList.length := by omega
      have hbt := bt_nat s i h1
      have ih' := fun l h => ih (i + 1) r l (by omega) (by omega) h
      rw [nat_succ_cast] at ih'
      have e2 := rsL2_loop (call := call) (m := m) (r1 := r) (s := s) hf s.data.toList.length 0 m [.int 60] (by omega) (by omega) (by simp; omega)
      rw [List.drop_zero, show ((0 : Nat) : Int) = 0 from rfl] at e2
      rw [rs_1, show decide ((i : Int) < s.size) = true from decide_eq_true (by omega), cond_true, okI_nat (s := s) (i := i) (by omega), cond_true, cond_true, hbt, orO_eq, shB_eq, e2, cond_true, cond_true, cond_true, orO_eq, orO_eq, W_in (n := (i : Int) + 1) (by omega), List.drop_eq_getElem_cons h1, List.all_cons, List.flatMap_cons]
      cases shB s.data.toList[i]
      · rw [show (!false) = true from rfl, cond_true, Bool.false_and, cond_false]; rfl
      · rw [show (!true) = false from rfl, cond_false, Bool.true_and,
          show escP s.data.toList[i] = bif ((s.data.toList[i].toNat : Int) == 40 || (s.data.toList[i].toNat : Int) == 41) || (s.data.toList[i].toNat : Int) == 92 then [Dat.int 92, Dat.int s.data.toList[i].toNat] else [Dat.int s.data.toList[i].toNat] from rfl]
        cases (((s.data.toList[i].toNat : Int) == 40 || (s.data.toList[i].toNat : Int) == 41) || (s.data.toList[i].toNat : Int) == 92)
        · rw [cond_false, cond_true, fits_le (by omega), cond_true, ih' _ (by simp; omega), cond_false]
          simp
        · rw [cond_true, fits_le (by omega), cond_true, cond_true, fits_le (by simp; omega), cond_true, ih' _ (by simp; omega), cond_true]
          simp
def txtE : List AV → Bx → Option (Bool × Out)
  | [.box 0 0, .v (.string s)], [some [.self T, .row (some m) E l], none] => bif isBu T m E then some (nmOk s l.length, .ret (.tup []) [some (bu (l ++ txtT s)), none]) else none
  | _, _ => none
def rstrE : List AV → Bx → Option (Bool × Out)
  | [.v (.string s)], [none] => some (Nat.ble s.size 100000000000, .ret (S (bytesOf (txtT s))) [none])
  | _, _ => none
theorem text_sound {ext : CallF} (hext : SoundCall PR ext) : SoundCall PR (addF 70 txtE ext) := by
  refine sound_both (sound_add (takes := TK) hmixP (wb_sound sound_none) _ (fn := (PR.funcs[70]?).getD default) (by kernel_rfl) (by kernel_rfl) txtE fun xs bs out h => ?_) hext
  unfold txtE at h
  split at h
  · rename_i s T mm E l
    obtain ⟨hc, h⟩ := bif_some h
    injection h with h
    injection h with h1 h2
    obtain ⟨rfl, rfl, rfl⟩ := isBu_eq hc
    subst h2
    unfold nmOk at h1
    rw [Bool.and_eq_true] at h1
    have b1 := Nat.le_of_ble_eq_true h1.1
    have b2 := Nat.le_of_ble_eq_true h1.2
    have hsz : s.data.toList.length = s.size := Array.length_toList
    refine ⟨s.size + 1, (otx_0 _ _ _ _).trans ?_⟩
    have e := txS_loop (ext := fun _ _ _ => none) (m := s.size + 1) (s := s) (by omega) l (by omega) s.data.toList.length 0 (s.size + 1) true (by omega) (by omega)
    have e1 := txP_loop (ext := fun _ _ _ => none) (m := s.size + 1) (s := s) (by omega) s.data.toList.length 0 (s.size + 1) (l ++ [Dat.int 40]) (by omega) (by omega) (by simp; omega)
    have e2 := txH_loop (ext := fun _ _ _ => none) (m := s.size + 1) (s := s) (by omega) s.data.toList.length 0 (s.size + 1) (l ++ [Dat.int 60]) (by omega) (by omega) (by simp; omega)
    rw [List.drop_zero, show ((0 : Nat) : Int) = 0 from rfl] at e e1 e2
    rw [e, e1, e2, Bool.true_and]
    unfold txtT
    cases s.data.toList.all shB
    · rw [cond_false, cond_false]; unfold hexT; simp [tR0]
    · rw [cond_true, cond_true]; unfold parT; simp [tR0]
  · cases h
theorem rstr_sound {ext : CallF} (hext : SoundCall PR ext) : SoundCall PR (addF 75 rstrE ext) := by
  refine sound_both (sound_add (takes := TK) hmixP sound_none _ (fn := (PR.funcs[75]?).getD default) (by kernel_rfl) (by kernel_rfl) rstrE fun xs bs out h => ?_) hext
  unfold rstrE at h
  split at h
  · rename_i s
    injection h with h
    injection h with h1 h2
    subst h2
    have b1 := Nat.le_of_ble_eq_true h1
    have hsz : s.data.toList.length = s.size := Array.length_toList
    refine ⟨s.size + 1, (rs_0 _ _ _).trans ?_⟩
    have e := rsL_loop (call := fun _ _ _ => none) (m := s.size + 1) (s := s) (by omega) (by omega) b1 s.data.toList.length 0 (s.size + 1) [Dat.int 40] (by omega) (by omega) (by simp; omega)
    rw [List.drop_zero, show ((0 : Nat) : Int) = 0 from rfl] at e
    rw [e]
    rfl
  · cases h
end Go.Proofs.YtckdgcpomkefpaaGreatDoor.En
end
