/- obj.Same answers as colophonref05.Same. -/
import Derived.Test.YtckdgcpomkefpaaGreatDoorO4
set_option linter.unusedVariables false
set_option linter.unusedSimpArgs false
set_option maxRecDepth 100000
namespace Go.Proofs.YtckdgcpomkefpaaGreatDoor.En
open Go
noncomputable def osameC (k : Nat) (ext : CallF) : CallF := addF 27 (sameE k) ext
noncomputable def osameL1 (call : CallF) (m r : Nat) (k1 n1 k2 n2 : Int) (b1 b2 : Bool) (s1 s2 : ByteArray) (ks1 l1 ks2 l2 : List Dat) (i : Int) := loopF PR TK call m 27 [none, none] [true, true, false, true] r (sp 86 [(2, .box 2 0), (3, .box 3 0), (54, .row none 9 ks1), (55, I ks1.length), (56, I i)] [(2, obA k1 n1 b1 s1 ks1 l1), (3, obA k2 n2 b2 s2 ks2 l2)])
noncomputable def osameL2 (call : CallF) (m r : Nat) (k1 n1 k2 n2 : Int) (b1 b2 : Bool) (s1 s2 : ByteArray) (ks1 l1 ks2 l2 : List Dat) (i : Int) := loopF PR TK call m 27 [none, none] [true, true, true, false, true] r (sp 86 [(3, .box 3 0), (70, .row none 43 l1), (71, I l1.length), (72, I i)] [(3, obA k2 n2 b2 s2 ks2 l2)])
section
variable (call ext : CallF) (k m r : Nat) (k1 n1 k2 n2 : Int) (b1 b2 : Bool) (s1 s2 : ByteArray) (ks1 l1 ks2 l2 : List Dat) (i : Int)
theorem osame_0 : evFn PR TK call m 27 [.agg (obA k1 n1 b1 s1 ks1 l1), .agg (obA k2 n2 b2 s2 ks2 l2)] [none, none] =
    orK (k1 != k2) (!(b1 == b2)) fun t => orK t (n1 != n2) fun t => orK t (!(s1.toList == s2.toList)) fun t => orK t ((ks1.length : Int) != ks2.length) fun t => orK t ((l1.length : Int) != l2.length) fun t =>
      bif t then some (.ret (B false) [none, none]) else osameL1 call m m k1 n1 k2 n2 b1 b2 s1 s2 ks1 l1 ks2 l2 0 := by kernel_rfl
theorem osame_1 : osameL1 call m (r + 1) k1 n1 k2 n2 b1 b2 s1 s2 ks1 l1 ks2 l2 i = bif decide (i < ks1.length) then (idx ks1 i).bind fun d => (idx ks2 i).bind fun e =>
      bif !((d.at 0).toS.toList == (e.at 0).toS.toList) then some (.ret (B false) [none, none]) else osameL1 call m r k1 n1 k2 n2 b1 b2 s1 s2 ks1 l1 ks2 l2 (IntKind.i64.wrap (i + 1))
    else osameL2 call m m k1 n1 k2 n2 b1 b2 s1 s2 ks1 l1 ks2 l2 0 := by kernel_rfl
theorem osame_2 : osameL2 (osameC k ext) m (r + 1) k1 n1 k2 n2 b1 b2 s1 s2 ks1 l1 ks2 l2 i = bif decide (i < l1.length) then (idx l1 i).bind fun d => (idx l2 i).bind fun e =>
      bif fitB k (d.at 4).toL (d.at 5).toL then (bif !(sameO k (nrm d) (nrm e)) then some (.ret (B false) [none, none]) else osameL2 (osameC k ext) m r k1 n1 k2 n2 b1 b2 s1 s2 ks1 l1 ks2 l2 (IntKind.i64.wrap (i + 1))) else none
    else some (.ret (B true) [none, none]) := by kernel_rfl
end
theorem osame_loop2 {ext : CallF} {k m : Nat} {k1 n1 k2 n2 : Int} {b1 b2 : Bool} {s1 s2 : ByteArray} {ks1 l1 ks2 l2 : List Dat} (hl : l1.length = l2.length) (hf : l1.length ≤ 1000000) (hk : ∀ d ∈ l1, fitO k (d.at 4).toL (d.at 5).toL) :
    ∀ (n i r : Nat), i + n = l1.length → n < r → osameL2 (osameC k ext) m r k1 n1 k2 n2 b1 b2 s1 s2 ks1 l1 ks2 l2 (i : Int) = bR (allEq (sameO k) (l1.drop i) (l2.drop i))
  | n, i, 0, _, h => by omega
  | 0, i, r + 1, hi, _ => by
    rw [osame_2, show decide ((i : Int) < l1.length) = false from decide_eq_false (by omega), List.drop_eq_nil_of_le (by omega), List.drop_eq_nil_of_le (by omega)]
    rfl
  | n + 1, i, r + 1, hi, hm => by
    have h1 : i < l1.length := by omega
    have h2 : i < l2.length := by omega
    rw [osame_2, show decide ((i : Int) < l1.length) = true from decide_eq_true (by omega), idx_at h1, idx_at h2, IntWalk.i64_in _ (by omega)]
    simp only [cond_true, Option.bind_some]
    rw [fitB_eq (hk _ (List.getElem_mem h1)), cond_true, sameO_nrm, List.drop_eq_getElem_cons h1, List.drop_eq_getElem_cons h2]
    have ih := osame_loop2 (ext := ext) (m := m) (k1 := k1) (n1 := n1) (k2 := k2) (n2 := n2) (b1 := b1) (b2 := b2) (s1 := s1) (s2 := s2) (ks1 := ks1) (ks2 := ks2) hl hf hk n (i + 1) r (by omega) (by omega)
    rw [show ((i + 1 : Nat) : Int) = (i : Int) + 1 by omega] at ih
    rw [ih]
    show _ = bR (sameO k l1[i] l2[i] && allEq (sameO k) (l1.drop (i + 1)) (l2.drop (i + 1)))
    cases sameO k l1[i] l2[i] <;> rfl
theorem osame_loop1 {ext : CallF} {k m : Nat} {k1 n1 k2 n2 : Int} {b1 b2 : Bool} {s1 s2 : ByteArray} {ks1 l1 ks2 l2 : List Dat} (hlk : ks1.length = ks2.length) (hl : l1.length = l2.length) (hfk : ks1.length ≤ 1000000) (hf : l1.length ≤ 1000000) (hk : ∀ d ∈ l1, fitO k (d.at 4).toL (d.at 5).toL) (hm : l1.length < m) :
    ∀ (n i r : Nat), i + n = ks1.length → n < r → osameL1 (osameC k ext) m r k1 n1 k2 n2 b1 b2 s1 s2 ks1 l1 ks2 l2 (i : Int) = bR (keysEq (ks1.drop i) (ks2.drop i) && allEq (sameO k) l1 l2) := by
  have e0 := osame_loop2 (ext := ext) (k := k) (m := m) (k1 := k1) (n1 := n1) (k2 := k2) (n2 := n2) (b1 := b1) (b2 := b2) (s1 := s1) (s2 := s2) (ks1 := ks1) (ks2 := ks2) hl hf hk l1.length 0 m (by omega) hm
  rw [List.drop_zero, List.drop_zero, show ((0 : Nat) : Int) = 0 from rfl] at e0
  intro n
  induction n with
  | zero =>
    intro i r hi hr
    cases r with
    | zero => omega
    | succ r =>
      rw [osame_1, show decide ((i : Int) < ks1.length) = false from decide_eq_false (by omega), List.drop_eq_nil_of_le (by omega), List.drop_eq_nil_of_le (by omega), e0]
      rfl
  | succ n ih =>
    intro i r hi hr
    cases r with
    | zero => omega
    | succ r =>
      have h1 : i < ks1.length := by omega
      have h2 : i < ks2.length := by omega
      have ih := ih (i + 1) r (by omega) (by omega)
      rw [show ((i + 1 : Nat) : Int) = (i : Int) + 1 by omega] at ih
      rw [osame_1, e0, show decide ((i : Int) < ks1.length) = true from decide_eq_true (by omega), idx_at h1, idx_at h2, IntWalk.i64_in _ (by omega)]
      simp only [cond_true, Option.bind_some]
      rw [List.drop_eq_getElem_cons h1, List.drop_eq_getElem_cons h2, ih]
      show _ = bR ((((ks1[i].at 0).toS.toList == (ks2[i].at 0).toS.toList) && keysEq (ks1.drop (i + 1)) (ks2.drop (i + 1))) && allEq (sameO k) l1 l2)
      cases ((ks1[i].at 0).toS.toList == (ks2[i].at 0).toS.toList) <;> rfl
theorem osame_run {ext : CallF} {k m : Nat} {k1 n1 k2 n2 : Int} {b1 b2 : Bool} {s1 s2 : ByteArray} {ks1 l1 ks2 l2 : List Dat} (h : fitO (k + 1) ks1 l1) (hm : 1000000 < m) :
    evFn PR TK (osameC k ext) m 27 [.agg (obA k1 n1 b1 s1 ks1 l1), .agg (obA k2 n2 b2 s2 ks2 l2)] [none, none] = bR (sameO (k + 1) (mkO k1 n1 b1 s1 ks1 l1) (mkO k2 n2 b2 s2 ks2 l2)) := by
  obtain ⟨h1, h2, h3⟩ := h
  rw [osame_0]
  simp only [orK_eq]
  show (bif ((((((k1 != k2) || !(b1 == b2)) || (n1 != n2)) || !(s1.toList == s2.toList)) || ((ks1.length : Int) != ks2.length)) || ((l1.length : Int) != l2.length)) then bR false else _) =
    bR ((k1 == k2) && ((b1 == b2) && ((n1 == n2) && ((s1.toList == s2.toList) && (keysEq ks1 ks2 && allEq (sameO k) l1 l2)))))
  rw [ne_len, ne_len]
  unfold bne
  cases (k1 == k2) <;> cases (b1 == b2) <;> cases (n1 == n2) <;> cases (s1.toList == s2.toList) <;> try rfl
  by_cases e1 : ks1.length = ks2.length
  · by_cases e2 : l1.length = l2.length
    · rw [decide_eq_true e1, decide_eq_true e2]
      have e := osame_loop1 (ext := ext) (k := k) (m := m) (k1 := k1) (n1 := n1) (k2 := k2) (n2 := n2) (b1 := b1) (b2 := b2) (s1 := s1) (s2 := s2) e1 e2 h1 h2 h3 (by omega) ks1.length 0 m (by omega) (by omega)
      rw [List.drop_zero, List.drop_zero, show ((0 : Nat) : Int) = 0 from rfl] at e
      show osameL1 _ _ _ _ _ _ _ _ _ _ _ _ _ _ _ 0 = _
      rw [e]; rfl
    · rw [decide_eq_false e2]
      have : allEq (sameO k) l1 l2 = false := by
        cases hq : allEq (sameO k) l1 l2
        · rfl
        · exact absurd (allEq_len hq) e2
      rw [this]
      cases decide (ks1.length = ks2.length) <;> cases keysEq ks1 ks2 <;> rfl
  · rw [decide_eq_false e1]
    have : keysEq ks1 ks2 = false := by
      cases hq : keysEq ks1 ks2
      · rfl
      · exact absurd (keysEq_len hq) e1
    rw [this]; rfl
theorem osame_sound {ext : CallF} (hext : SoundCall PR ext) : ∀ k, SoundCall PR (osameC k ext) := by
  refine sound_rec (takes := TK) hmixP hext _ (fn := (PR.funcs[27]?).getD default) (by kernel_rfl) (by kernel_rfl) sameE (fun xs bs out h => ?_) (fun k xs bs out h => ?_)
  · unfold sameE at h
    split at h
    · injection h with h
      injection h with h _
      exact fitB_of h
    · cases h
  · unfold sameE at h
    split at h
    · injection h with h
      injection h with h1 h2
      subst h2
      exact ⟨1000001, osame_run (fitB_of h1) (by omega)⟩
    · cases h
end Go.Proofs.YtckdgcpomkefpaaGreatDoor.En
