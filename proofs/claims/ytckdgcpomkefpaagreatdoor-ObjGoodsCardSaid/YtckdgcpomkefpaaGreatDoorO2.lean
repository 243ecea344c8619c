/- colophonref05.Copy, and both Gets: what they answer. -/
import Derived.Test.YtckdgcpomkefpaaGreatDoorO1
set_option linter.unusedVariables false
set_option linter.unusedSimpArgs false
set_option maxRecDepth 100000
namespace Go.Proofs.YtckdgcpomkefpaaGreatDoor.En
open Go
theorem fits_ble {n : Nat} (h : n ≤ 1000001) : Nat.ble n fitsN = true := Nat.ble_eq_true_of_le (by unfold fitsN; omega)
theorem copy_loop {ext : CallF} {k m : Nat} {k1 n1 : Int} {b1 : Bool} {s1 : ByteArray} {ks1 l1 : List Dat} (hk0 : 0 < k) (hf : l1.length ≤ 1000000) (hk : ∀ d ∈ l1, fitO k (d.at 4).toL (d.at 5).toL) :
    ∀ (n i r : Nat) (acc : List Dat), i + n = l1.length → n < r → acc.length = i → copyL (copyC k ext) m r k1 n1 b1 s1 ks1 l1 acc (i : Int) = some (.ret (.agg (obA k1 n1 b1 s1 ks1 (acc ++ (l1.drop i).map (copyO k)))) [none]) := by
  intro n
  induction n with
  | zero =>
    intro i r acc hi hr ha
    cases r with
    | zero => omega
    | succ r =>
      rw [copy_1, show decide ((i : Int) < l1.length) = false from decide_eq_false (by omega), List.drop_eq_nil_of_le (by omega), List.map_nil, List.append_nil]
      rfl
  | succ n ih =>
    intro i r acc hi hr ha
    cases r with
    | zero => omega
    | succ r =>
      have h1 : i < l1.length := by omega
      have e : mkO (l1[i].at 0).toI (l1[i].at 2).toI (l1[i].at 1).toB (l1[i].at 3).toS (l1[i].at 4).toL ((l1[i].at 5).toL.map (copyO (k - 1))) = copyO k l1[i] := by
        obtain ⟨j, rfl⟩ : ∃ j, k = j + 1 := ⟨k - 1, by omega⟩
        rfl
      have ih := ih (i + 1) r (acc ++ [copyO k l1[i]]) (by omega) (by omega) (by simp; omega)
      rw [show ((i + 1 : Nat) : Int) = (i : Int) + 1 by omega] at ih
      rw [copy_1, show decide ((i : Int) < l1.length) = true from decide_eq_true (by omega), idx_at h1, IntWalk.i64_in _ (by omega)]
      simp only [cond_true, Option.bind_some]
      rw [fitB_eq (hk _ (List.getElem_mem h1)), cond_true, fits_ble (by omega), cond_true, e, ih, List.drop_eq_getElem_cons h1, List.map_cons, List.append_assoc]
      rfl
theorem copy_run {ext : CallF} {k m : Nat} {k1 n1 : Int} {b1 : Bool} {s1 : ByteArray} {ks1 l1 : List Dat} (h : fitO (k + 1) ks1 l1) (hm : 1000000 < m) :
    evFn PR TK (copyC k ext) m 25 [.agg (obA k1 n1 b1 s1 ks1 l1)] [none] = some (.ret (.agg (obA k1 n1 b1 s1 ks1 (l1.map (copyO k)))) [none]) := by
  obtain ⟨h1, h2, h3⟩ := h
  rw [copy_0, fits_ble (by omega), cond_true]
  cases l1 with
  | nil =>
    obtain ⟨m, rfl⟩ : ∃ j, m = j + 1 := ⟨m - 1, by omega⟩
    rw [copy_1]; rfl
  | cons d l =>
    have hk0 : 0 < k := by
      cases k with
      | zero => exact (h3 d (by simp)).elim
      | succ k => omega
    have e := copy_loop (ext := ext) (m := m) (k1 := k1) (n1 := n1) (b1 := b1) (s1 := s1) (ks1 := ks1) hk0 h2 h3 (d :: l).length 0 m [] (by omega) (by omega) rfl
    rw [List.drop_zero, List.nil_append, show ((0 : Nat) : Int) = 0 from rfl] at e
    exact e
theorem copy_sound {ext : CallF} (hext : SoundCall PR ext) : ∀ k, SoundCall PR (copyC k ext) := by
  refine sound_rec (takes := TK) hmixP hext _ (fn := (PR.funcs[25]?).getD default) (by kernel_rfl) (by kernel_rfl) copyE (fun xs bs out h => ?_) (fun k xs bs out h => ?_)
  · unfold copyE at h
    split at h
    · injection h with h
      injection h with h _
      exact fitB_of h
    · cases h
  · unfold copyE at h
    split at h
    · injection h with h
      injection h with h1 h2
      subst h2
      exact ⟨1000001, copy_run (fitB_of h1) (by omega)⟩
    · cases h
/-! ### Get -/
def findK (key : ByteArray) : List Dat → Nat → Option Nat
  | [], _ => none
  | d :: ks, i => bif (d.at 0).toS.toList == key.toList then some i else findK key ks (i + 1)
def zeroO : Dat := mkO 0 0 false ⟨#[]⟩ [] []
def getO (ks l : List Dat) (key : ByteArray) : Option Dat := (findK key ks 0).bind fun i => l[i]?
def getR (r : Option Dat) : Option Out := some (.ret (.tup [.agg (obD (r.getD zeroO)), B r.isSome]) [none, none])
def getE : List AV → Bx → Option (Bool × Out)
  | [.agg [.v (.int .i64 k1), .v (.bool b1), .v (.int .i64 n1), .v (.string s1), .row none 9 ks1, .row none 43 l1], .v (.string key)], [none, none] =>
    some (Nat.ble ks1.length 1000000 && Nat.ble l1.length 1000000, .ret (.tup [.agg (obD ((bif k1 == 7 then getO ks1 l1 key else none).getD zeroO)), B (bif k1 == 7 then getO ks1 l1 key else none).isSome]) [none, none])
  | _, _ => none
theorem idx_ge {l : List Dat} {i : Nat} (h : ¬ i < l.length) : l[i]? = none := List.getElem?_eq_none (by omega)
theorem get_loop {call : CallF} {m : Nat} {k1 n1 : Int} {b1 : Bool} {s1 key : ByteArray} {ks1 l1 : List Dat} (hf : ks1.length ≤ 1000000) :
    ∀ (n i r : Nat), i + n = ks1.length → n < r → getL call m r k1 n1 b1 s1 key ks1 l1 (i : Int) = getR ((findK key (ks1.drop i) i).bind fun i => l1[i]?) := by
  intro n
  induction n with
  | zero =>
    intro i r hi hr
    cases r with
    | zero => omega
    | succ r =>
      rw [get_S, show decide ((i : Int) < ks1.length) = false from decide_eq_false (by omega), List.drop_eq_nil_of_le (by omega)]
      rfl
  | succ n ih =>
    intro i r hi hr
    cases r with
    | zero => omega
    | succ r =>
      have h1 : i < ks1.length := by omega
      have ih := ih (i + 1) r (by omega) (by omega)
      rw [show ((i + 1 : Nat) : Int) = (i : Int) + 1 by omega] at ih
      rw [get_S, show decide ((i : Int) < ks1.length) = true from decide_eq_true (by omega), idx_at h1, IntWalk.i64_in _ (by omega), ih, List.drop_eq_getElem_cons h1]
      simp only [cond_true, Option.bind_some, findK]
      cases ((ks1[i].at 0).toS.toList == key.toList)
      · rfl
      · simp only [cond_true, Option.bind_some]
        by_cases h2 : i < l1.length
        · rw [show decide ((i : Int) ≥ l1.length) = false from decide_eq_false (by omega), idx_at h2, List.getElem?_eq_getElem h2]
          rfl
        · rw [show decide ((i : Int) ≥ l1.length) = true from decide_eq_true (by omega), idx_ge h2]
          rfl
theorem rget_run {call : CallF} {m : Nat} {k1 n1 : Int} {b1 : Bool} {s1 key : ByteArray} {ks1 l1 : List Dat} (hf : ks1.length ≤ 1000000) (hm : 1000000 < m) :
    evFn PR TK call m 36 [.agg (obA k1 n1 b1 s1 ks1 l1), S key] [none, none] = getR (bif k1 == 7 then getO ks1 l1 key else none) := by
  rw [get_0]
  unfold bne
  cases (k1 == 7)
  · rfl
  · have e := get_loop (call := call) (m := m) (k1 := k1) (n1 := n1) (b1 := b1) (s1 := s1) (key := key) (l1 := l1) hf ks1.length 0 m (by omega) (by omega)
    rw [List.drop_zero, show ((0 : Nat) : Int) = 0 from rfl] at e
    exact e
theorem rget_sound {ext : CallF} (hext : SoundCall PR ext) : SoundCall PR (addF 36 getE ext) := by
  refine sound_add (takes := TK) hmixP hext _ (fn := (PR.funcs[36]?).getD default) (by kernel_rfl) (by kernel_rfl) getE fun xs bs out h => ?_
  unfold getE at h
  split at h
  · injection h with h
    injection h with h1 h2
    subst h2
    rw [Bool.and_eq_true] at h1
    exact ⟨1000001, rget_run (Nat.le_of_ble_eq_true h1.1) (by omega)⟩
  · cases h
noncomputable def ogetL (call : CallF) (m r : Nat) (k n : Int) (b : Bool) (s key : ByteArray) (ks l : List Dat) (i : Int) := loopF PR TK call m 35 [none, none] [true, true, false, true] r
  (sp 37 [(1, S key), (2, .box 2 0), (4, .box 4 0), (13, .row none 9 ks), (14, I ks.length), (15, I i)] [(2, obA k n b s ks l), (4, zr)])
theorem oget_0 (call : CallF) (m : Nat) (k n : Int) (b : Bool) (s key : ByteArray) (ks l : List Dat) : evFn PR TK call m 35 [.agg (obA k n b s ks l), S key] [none, none] =
  bif (k != 7) then some (.ret (.tup [.agg (obA 0 0 false ⟨#[]⟩ [] []), B false]) [none, none]) else ogetL call m m k n b s key ks l 0 := by kernel_rfl
def andK {β : Type} (c d : Bool) (k : Bool → Option β) : Option β := (bif c then some d else some false).bind k
theorem andK_eq {β : Type} (c d : Bool) (k : Bool → Option β) : andK c d k = k (c && d) := by cases c <;> rfl
theorem oget_1 (call : CallF) (m r : Nat) (k n : Int) (b : Bool) (s key : ByteArray) (ks l : List Dat) (i : Int) : ogetL call m (r + 1) k n b s key ks l i =
  bif decide (i < ks.length) then (idx ks i).bind fun d => andK ((d.at 0).toS.toList == key.toList) (decide (i < l.length)) fun t => bif t then (idx l i).bind fun e => some (.ret (.tup [.agg (obD e), B true]) [none, none])
    else ogetL call m r k n b s key ks l (IntKind.i64.wrap (i + 1))
  else some (.ret (.tup [.agg (obA 0 0 false ⟨#[]⟩ [] []), B false]) [none, none]) := by kernel_rfl
theorem findK_ge {key : ByteArray} : ∀ (ks : List Dat) (i j : Nat), findK key ks i = some j → i ≤ j
  | [], i, j, h => by cases h
  | d :: ks, i, j, h => by
    unfold findK at h
    cases hc : ((d.at 0).toS.toList == key.toList) <;> rw [hc] at h <;> simp only [cond_true, cond_false] at h
    · have := findK_ge ks (i + 1) j h; omega
    · cases h; exact Nat.le_refl _
theorem oget_loop {call : CallF} {m : Nat} {k1 n1 : Int} {b1 : Bool} {s1 key : ByteArray} {ks1 l1 : List Dat} (hf : ks1.length ≤ 1000000) :
    ∀ (n i r : Nat), i + n = ks1.length → n < r → ogetL call m r k1 n1 b1 s1 key ks1 l1 (i : Int) = getR ((findK key (ks1.drop i) i).bind fun i => l1[i]?) := by
  intro n
  induction n with
  | zero =>
    intro i r hi hr
    cases r with
    | zero => omega
    | succ r =>
      rw [oget_1, show decide ((i : Int) < ks1.length) = false from decide_eq_false (by omega), List.drop_eq_nil_of_le (by omega)]
      rfl
  | succ n ih =>
    intro i r hi hr
    cases r with
    | zero => omega
    | succ r =>
      have h1 : i < ks1.length := by omega
      have ih := ih (i + 1) r (by omega) (by omega)
      rw [show ((i + 1 : Nat) : Int) = (i : Int) + 1 by omega] at ih
      rw [oget_1, show decide ((i : Int) < ks1.length) = true from decide_eq_true (by omega), idx_at h1, IntWalk.i64_in _ (by omega), ih, List.drop_eq_getElem_cons h1]
      simp only [cond_true, Option.bind_some, findK, andK_eq]
      cases ((ks1[i].at 0).toS.toList == key.toList)
      · rfl
      · simp only [cond_true, Option.bind_some, Bool.true_and]
        by_cases h2 : i < l1.length
        · rw [show decide ((i : Int) < l1.length) = true from decide_eq_true (by omega), idx_at h2, List.getElem?_eq_getElem h2]
          rfl
        · rw [show decide ((i : Int) < l1.length) = false from decide_eq_false (by omega), idx_ge h2]
          simp only [cond_false]
          cases hq : findK key (ks1.drop (i + 1)) (i + 1) with
          | none => rfl
          | some j =>
            have := findK_ge _ _ _ hq
            rw [Option.bind_some, idx_ge (by omega)]
theorem oget_run {call : CallF} {m : Nat} {k1 n1 : Int} {b1 : Bool} {s1 key : ByteArray} {ks1 l1 : List Dat} (hf : ks1.length ≤ 1000000) (hm : 1000000 < m) :
    evFn PR TK call m 35 [.agg (obA k1 n1 b1 s1 ks1 l1), S key] [none, none] = getR (bif k1 == 7 then getO ks1 l1 key else none) := by
  rw [oget_0]
  unfold bne
  cases (k1 == 7)
  · rfl
  · have e := oget_loop (call := call) (m := m) (k1 := k1) (n1 := n1) (b1 := b1) (s1 := s1) (key := key) (l1 := l1) hf ks1.length 0 m (by omega) (by omega)
    rw [List.drop_zero, show ((0 : Nat) : Int) = 0 from rfl] at e
    exact e
theorem oget_sound {ext : CallF} (hext : SoundCall PR ext) : SoundCall PR (addF 35 getE ext) := by
  refine sound_add (takes := TK) hmixP hext _ (fn := (PR.funcs[35]?).getD default) (by kernel_rfl) (by kernel_rfl) getE fun xs bs out h => ?_
  unfold getE at h
  split at h
  · injection h with h
    injection h with h1 h2
    subst h2
    rw [Bool.and_eq_true] at h1
    exact ⟨1000001, oget_run (Nat.le_of_ble_eq_true h1.1) (by omega)⟩
  · cases h
end Go.Proofs.YtckdgcpomkefpaaGreatDoor.En
