/- colophonref05.Same and Copy: what they answer. -/
import Derived.Test.YtckdgcpomkefpaaGreatDoorQ2
set_option linter.unusedVariables false
set_option linter.unusedSimpArgs false
set_option maxRecDepth 100000
namespace Go.Proofs.YtckdgcpomkefpaaGreatDoor.En
open Go
theorem hmixP : PR.follows .mixedOrders = true := by kernel_rfl
/-- An object, and its parts. -/
def mkO (k n : Int) (b : Bool) (s : ByteArray) (ks l : List Dat) : Dat := .agg [.int k, .bool b, .int n, .str s, .rows ks, .rows l]
def obD (d : Dat) : List AV := obA (d.at 0).toI (d.at 2).toI (d.at 1).toB (d.at 3).toS (d.at 4).toL (d.at 5).toL
def nrm (d : Dat) : Dat := mkO (d.at 0).toI (d.at 2).toI (d.at 1).toB (d.at 3).toS (d.at 4).toL (d.at 5).toL
def orK {β : Type} (c : Bool) (d : Bool) (k : Bool → Option β) : Option β := (bif c then some true else some d).bind k
theorem orK_eq {β : Type} (c d : Bool) (k : Bool → Option β) : orK c d k = k (c || d) := by cases c <;> rfl
/-- Not too long, and not nested too deep. -/
def fitO : Nat → List Dat → List Dat → Prop
  | 0, _, _ => False
  | k + 1, ks, l => ks.length ≤ 1000000 ∧ l.length ≤ 1000000 ∧ ∀ d ∈ l, fitO k (d.at 4).toL (d.at 5).toL
theorem idx_lt {l : List Dat} {i : Nat} (h : i < l.length) : idx l (i : Int) = some l[i] := idx_at h
noncomputable def decP (p : Prop) : Bool := @decide p (Classical.propDecidable p)
theorem decP_eq {p : Prop} (h : p) : decP p = true := @decide_eq_true p (Classical.propDecidable p) h
theorem decP_of {p : Prop} (h : decP p = true) : p := @of_decide_eq_true p (Classical.propDecidable p) h
noncomputable def fitB (k : Nat) (ks l : List Dat) : Bool := decP (fitO k ks l)
theorem fitB_eq {k : Nat} {ks l : List Dat} (h : fitO k ks l) : fitB k ks l = true := decP_eq h
theorem fitB_of {k : Nat} {ks l : List Dat} (h : fitB k ks l = true) : fitO k ks l := decP_of h
/-! ### Same -/
def keysEq : List Dat → List Dat → Bool
  | [], [] => true
  | d :: l, e :: m => ((d.at 0).toS.toList == (e.at 0).toS.toList) && keysEq l m
  | _, _ => false
def allEq (f : Dat → Dat → Bool) : List Dat → List Dat → Bool
  | [], [] => true
  | d :: l, e :: m => f d e && allEq f l m
  | _, _ => false
def sameO : Nat → Dat → Dat → Bool
  | 0, _, _ => false
  | k + 1, a, b => ((a.at 0).toI == (b.at 0).toI) && (((a.at 1).toB == (b.at 1).toB) && (((a.at 2).toI == (b.at 2).toI) && (((a.at 3).toS.toList == (b.at 3).toS.toList) && (keysEq (a.at 4).toL (b.at 4).toL && allEq (sameO k) (a.at 5).toL (b.at 5).toL))))
theorem sameO_nrm (k : Nat) (a b : Dat) : sameO k (nrm a) (nrm b) = sameO k a b := by cases k <;> rfl
noncomputable def sameE (k : Nat) : List AV → Bx → Option (Bool × Out)
  | [.agg [.v (.int .i64 k1), .v (.bool b1), .v (.int .i64 n1), .v (.string s1), .row none 9 ks1, .row none 43 l1], .agg [.v (.int .i64 k2), .v (.bool b2), .v (.int .i64 n2), .v (.string s2), .row none 9 ks2, .row none 43 l2]], [none, none] =>
    some (fitB k ks1 l1, .ret (B (sameO k (mkO k1 n1 b1 s1 ks1 l1) (mkO k2 n2 b2 s2 ks2 l2))) [none, none])
  | _, _ => none
noncomputable def sameC (k : Nat) (ext : CallF) : CallF := addF 28 (sameE k) ext
noncomputable def sameL1 (call : CallF) (m r : Nat) (k1 n1 k2 n2 : Int) (b1 b2 : Bool) (s1 s2 : ByteArray) (ks1 l1 ks2 l2 : List Dat) (i : Int) := loopF PR TK call m 28 [none, none] [true, true, false, true] r (sp 88 [(2, .box 2 0), (3, .box 3 0), (5, I i)] [(2, obA k1 n1 b1 s1 ks1 l1), (3, obA k2 n2 b2 s2 ks2 l2)])
noncomputable def sameL2 (call : CallF) (m r : Nat) (k1 n1 k2 n2 : Int) (b1 b2 : Bool) (s1 s2 : ByteArray) (ks1 l1 ks2 l2 : List Dat) (i : Int) := loopF PR TK call m 28 [none, none] [true, true, true, false, true] r (sp 88 [(2, .box 2 0), (3, .box 3 0), (6, I i)] [(2, obA k1 n1 b1 s1 ks1 l1), (3, obA k2 n2 b2 s2 ks2 l2)])
section
variable (call ext : CallF) (k m r : Nat) (k1 n1 k2 n2 : Int) (b1 b2 : Bool) (s1 s2 : ByteArray) (ks1 l1 ks2 l2 : List Dat) (i : Int)
theorem same_0 : evFn PR TK call m 28 [.agg (obA k1 n1 b1 s1 ks1 l1), .agg (obA k2 n2 b2 s2 ks2 l2)] [none, none] =
    orK (k1 != k2) (!(b1 == b2)) fun t => orK t (n1 != n2) fun t => orK t (!(s1.toList == s2.toList)) fun t => orK t ((ks1.length : Int) != ks2.length) fun t => orK t ((l1.length : Int) != l2.length) fun t =>
      bif t then some (.ret (B false) [none, none]) else sameL1 call m m k1 n1 k2 n2 b1 b2 s1 s2 ks1 l1 ks2 l2 0 := by kernel_rfl
theorem same_1 : sameL1 call m (r + 1) k1 n1 k2 n2 b1 b2 s1 s2 ks1 l1 ks2 l2 i = bif decide (i < ks1.length) then (idx ks1 i).bind fun d => (idx ks2 i).bind fun e =>
      bif !((d.at 0).toS.toList == (e.at 0).toS.toList) then some (.ret (B false) [none, none]) else sameL1 call m r k1 n1 k2 n2 b1 b2 s1 s2 ks1 l1 ks2 l2 (IntKind.i64.wrap (i + 1))
    else sameL2 call m m k1 n1 k2 n2 b1 b2 s1 s2 ks1 l1 ks2 l2 0 := by kernel_rfl
theorem same_2 : sameL2 (sameC k ext) m (r + 1) k1 n1 k2 n2 b1 b2 s1 s2 ks1 l1 ks2 l2 i = bif decide (i < l1.length) then (idx l1 i).bind fun d => (idx l2 i).bind fun e =>
      bif fitB k (d.at 4).toL (d.at 5).toL then (bif !(sameO k (nrm d) (nrm e)) then some (.ret (B false) [none, none]) else sameL2 (sameC k ext) m r k1 n1 k2 n2 b1 b2 s1 s2 ks1 l1 ks2 l2 (IntKind.i64.wrap (i + 1))) else none
    else some (.ret (B true) [none, none]) := by kernel_rfl
end
def bR (x : Bool) : Option Out := some (.ret (B x) [none, none])
theorem same_loop2 {ext : CallF} {k m : Nat} {k1 n1 k2 n2 : Int} {b1 b2 : Bool} {s1 s2 : ByteArray} {ks1 l1 ks2 l2 : List Dat} (hl : l1.length = l2.length) (hf : l1.length ≤ 1000000) (hk : ∀ d ∈ l1, fitO k (d.at 4).toL (d.at 5).toL) :
    ∀ (n i r : Nat), i + n = l1.length → n < r → sameL2 (sameC k ext) m r k1 n1 k2 n2 b1 b2 s1 s2 ks1 l1 ks2 l2 (i : Int) = bR (allEq (sameO k) (l1.drop i) (l2.drop i))
  | n, i, 0, _, h => by omega
  | 0, i, r + 1, hi, _ => by
    rw [same_2, show decide ((i : Int) < l1.length) = false from decide_eq_false (by omega), List.drop_eq_nil_of_le (by omega), List.drop_eq_nil_of_le (by omega)]
    rfl
  | n + 1, i, r + 1, hi, hm => by
    have h1 : i < l1.length := by omega
    have h2 : i < l2.length := by omega
    rw [same_2, show decide ((i : Int) < l1.length) = true from decide_eq_true (by omega), idx_at h1, idx_at h2, IntWalk.i64_in _ (by omega)]
    simp only [cond_true, Option.bind_some]
    rw [fitB_eq (hk _ (List.getElem_mem h1)), cond_true, sameO_nrm, List.drop_eq_getElem_cons h1, List.drop_eq_getElem_cons h2]
    have ih := same_loop2 (ext := ext) (m := m) (k1 := k1) (n1 := n1) (k2 := k2) (n2 := n2) (b1 := b1) (b2 := b2) (s1 := s1) (s2 := s2) (ks1 := ks1) (ks2 := ks2) hl hf hk n (i + 1) r (by omega) (by omega)
    rw [show ((i + 1 : Nat) : Int) = (i : Int) + 1 by omega] at ih
    rw [ih]
    show _ = bR (sameO k l1[i] l2[i] && allEq (sameO k) (l1.drop (i + 1)) (l2.drop (i + 1)))
    cases sameO k l1[i] l2[i] <;> rfl
theorem same_loop1 {ext : CallF} {k m : Nat} {k1 n1 k2 n2 : Int} {b1 b2 : Bool} {s1 s2 : ByteArray} {ks1 l1 ks2 l2 : List Dat} (hlk : ks1.length = ks2.length) (hl : l1.length = l2.length) (hfk : ks1.length ≤ 1000000) (hf : l1.length ≤ 1000000) (hk : ∀ d ∈ l1, fitO k (d.at 4).toL (d.at 5).toL) (hm : l1.length < m) :
    ∀ (n i r : Nat), i + n = ks1.length → n < r → sameL1 (sameC k ext) m r k1 n1 k2 n2 b1 b2 s1 s2 ks1 l1 ks2 l2 (i : Int) = bR (keysEq (ks1.drop i) (ks2.drop i) && allEq (sameO k) l1 l2) := by
  have e0 := same_loop2 (ext := ext) (k := k) (m := m) (k1 := k1) (n1 := n1) (k2 := k2) (n2 := n2) (b1 := b1) (b2 := b2) (s1 := s1) (s2 := s2) (ks1 := ks1) (ks2 := ks2) hl hf hk l1.length 0 m (by omega) hm
  rw [List.drop_zero, List.drop_zero, show ((0 : Nat) : Int) = 0 from rfl] at e0
  intro n
  induction n with
  | zero =>
    intro i r hi hr
    cases r with
    | zero => omega
    | succ r =>
      rw [same_1, show decide ((i : Int) < ks1.length) = false from decide_eq_false (by omega), List.drop_eq_nil_of_le (by omega), List.drop_eq_nil_of_le (by omega), e0]
      rfl
  | succ n ih =>
    intro i r hi hr
    cases r with
    | zero => omega
    | succ r =>
      have h1 : i < ks1.length := by omega
      have h2 : i < ks2.length := by omega
      have ih := ih (i + 1) r (by omega) (by omega)
      rw [show ((i + 1 : Nat) : Int) = (i : Int) + 1 by omega] at ih
      rw [same_1, e0, show decide ((i : Int) < ks1.length) = true from decide_eq_true (by omega), idx_at h1, idx_at h2, IntWalk.i64_in _ (by omega)]
      simp only [cond_true, Option.bind_some]
      rw [List.drop_eq_getElem_cons h1, List.drop_eq_getElem_cons h2, ih]
      show _ = bR ((((ks1[i].at 0).toS.toList == (ks2[i].at 0).toS.toList) && keysEq (ks1.drop (i + 1)) (ks2.drop (i + 1))) && allEq (sameO k) l1 l2)
      cases ((ks1[i].at 0).toS.toList == (ks2[i].at 0).toS.toList) <;> rfl
theorem keysEq_len : ∀ {l m : List Dat}, keysEq l m = true → l.length = m.length
  | [], [], _ => rfl
  | d :: l, e :: m, h => by
    rw [keysEq, Bool.and_eq_true] at h
    simp [keysEq_len h.2]
  | [], _ :: _, h => by cases h
  | _ :: _, [], h => by cases h
theorem allEq_len {f : Dat → Dat → Bool} : ∀ {l m : List Dat}, allEq f l m = true → l.length = m.length
  | [], [], _ => rfl
  | d :: l, e :: m, h => by
    rw [allEq, Bool.and_eq_true] at h
    simp [allEq_len h.2]
  | [], _ :: _, h => by cases h
  | _ :: _, [], h => by cases h
theorem ne_len {α : Type} {l m : List α} : ((l.length : Int) != m.length) = !decide (l.length = m.length) := by
  by_cases h : l.length = m.length
  · simp [h]
  · have : (l.length : Int) ≠ m.length := by omega
    simp [h, this]
theorem same_run {ext : CallF} {k m : Nat} {k1 n1 k2 n2 : Int} {b1 b2 : Bool} {s1 s2 : ByteArray} {ks1 l1 ks2 l2 : List Dat} (h : fitO (k + 1) ks1 l1) (hm : 1000000 < m) :
    evFn PR TK (sameC k ext) m 28 [.agg (obA k1 n1 b1 s1 ks1 l1), .agg (obA k2 n2 b2 s2 ks2 l2)] [none, none] = bR (sameO (k + 1) (mkO k1 n1 b1 s1 ks1 l1) (mkO k2 n2 b2 s2 ks2 l2)) := by
  obtain ⟨h1, h2, h3⟩ := h
  rw [same_0]
  simp only [orK_eq]
  show (bif ((((((k1 != k2) || !(b1 == b2)) || (n1 != n2)) || !(s1.toList == s2.toList)) || ((ks1.length : Int) != ks2.length)) || ((l1.length : Int) != l2.length)) then bR false else _) =
    bR ((k1 == k2) && ((b1 == b2) && ((n1 == n2) && ((s1.toList == s2.toList) && (keysEq ks1 ks2 && allEq (sameO k) l1 l2)))))
  rw [ne_len, ne_len]
  unfold bne
  cases (k1 == k2) <;> cases (b1 == b2) <;> cases (n1 == n2) <;> cases (s1.toList == s2.toList) <;> try rfl
  by_cases e1 : ks1.length = ks2.length
  · by_cases e2 : l1.length = l2.length
    · rw [decide_eq_true e1, decide_eq_true e2]
      have e := same_loop1 (ext := ext) (k := k) (m := m) (k1 := k1) (n1 := n1) (k2 := k2) (n2 := n2) (b1 := b1) (b2 := b2) (s1 := s1) (s2 := s2) e1 e2 h1 h2 h3 (by omega) ks1.length 0 m (by omega) (by omega)
      rw [List.drop_zero, List.drop_zero, show ((0 : Nat) : Int) = 0 from rfl] at e
      show sameL1 _ _ _ _ _ _ _ _ _ _ _ _ _ _ _ 0 = _
      rw [e]; rfl
    · rw [decide_eq_false e2]
      have : allEq (sameO k) l1 l2 = false := by
        cases hq : allEq (sameO k) l1 l2
        · rfl
        · exact absurd (allEq_len hq) e2
      rw [this]
      cases decide (ks1.length = ks2.length) <;> cases keysEq ks1 ks2 <;> rfl
  · rw [decide_eq_false e1]
    have : keysEq ks1 ks2 = false := by
      cases hq : keysEq ks1 ks2
      · rfl
      · exact absurd (keysEq_len hq) e1
    rw [this]; rfl
theorem same_sound {ext : CallF} (hext : SoundCall PR ext) : ∀ k, SoundCall PR (sameC k ext) := by
  refine sound_rec (takes := TK) hmixP hext _ (fn := (PR.funcs[28]?).getD default) (by kernel_rfl) (by kernel_rfl) sameE (fun xs bs out h => ?_) (fun k xs bs out h => ?_)
  · unfold sameE at h
    split at h
    · injection h with h
      injection h with h _
      exact fitB_of h
    · cases h
  · unfold sameE at h
    split at h
    · injection h with h
      injection h with h1 h2
      subst h2
      exact ⟨1000001, same_run (fitB_of h1) (by omega)⟩
    · cases h
/-! ### Copy -/
def copyO : Nat → Dat → Dat
  | 0, d => d
  | k + 1, d => mkO (d.at 0).toI (d.at 2).toI (d.at 1).toB (d.at 3).toS (d.at 4).toL ((d.at 5).toL.map (copyO k))
noncomputable def copyE (k : Nat) : List AV → Bx → Option (Bool × Out)
  | [.agg [.v (.int .i64 k1), .v (.bool b1), .v (.int .i64 n1), .v (.string s1), .row none 9 ks1, .row none 43 l1]], [none] =>
    some (fitB k ks1 l1, .ret (.agg (obA k1 n1 b1 s1 ks1 (l1.map (copyO (k - 1))))) [none])
  | _, _ => none
noncomputable def copyC (k : Nat) (ext : CallF) : CallF := addF 25 (copyE k) ext
noncomputable def copyL (call : CallF) (m r : Nat) (k1 n1 : Int) (b1 : Bool) (s1 : ByteArray) (ks1 l1 acc : List Dat) (i : Int) := loopF PR TK call m 25 [none] [true, true, true, false, true] r
  (sp 29 [(1, .box 1 0), (2, .box 2 0), (3, .row (some 3) 43 acc), (4, I i)] [(1, [I k1, B b1, I n1, S s1, .row (some (sub 1 4)) 9 ks1, .row none 43 l1]), (2, [I 0, B false, I 0, S ⟨#[]⟩, .row (some (sub 2 4)) 9 [], .row (some (sub 2 5)) 43 []])])
section
variable (call ext : CallF) (k m r : Nat) (k1 n1 : Int) (b1 : Bool) (s1 : ByteArray) (ks1 l1 acc : List Dat) (i : Int)
theorem copy_0 : evFn PR TK call m 25 [.agg (obA k1 n1 b1 s1 ks1 l1)] [none] = bif Nat.ble (0 + ks1.length) fitsN then copyL call m m k1 n1 b1 s1 ks1 l1 [] 0 else none := by kernel_rfl
theorem copy_1 : copyL (copyC k ext) m (r + 1) k1 n1 b1 s1 ks1 l1 acc i = bif decide (i < l1.length) then (idx l1 i).bind fun d =>
      bif fitB k (d.at 4).toL (d.at 5).toL then (bif Nat.ble (acc.length + 1) fitsN then copyL (copyC k ext) m r k1 n1 b1 s1 ks1 l1 (acc ++ [mkO (d.at 0).toI (d.at 2).toI (d.at 1).toB (d.at 3).toS (d.at 4).toL ((d.at 5).toL.map (copyO (k - 1)))]) (IntKind.i64.wrap (i + 1)) else none) else none
    else some (.ret (.agg (obA k1 n1 b1 s1 ks1 acc)) [none]) := by kernel_rfl
end
end Go.Proofs.YtckdgcpomkefpaaGreatDoor.En
