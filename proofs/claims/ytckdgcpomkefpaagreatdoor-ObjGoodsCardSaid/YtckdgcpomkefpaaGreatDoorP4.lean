/- colophonref05.good, Count and Good: what they answer. -/
import Derived.Test.YtckdgcpomkefpaaGreatDoorP3
set_option linter.unusedVariables false
set_option linter.unusedSimpArgs false
set_option maxRecDepth 100000
namespace Go.Proofs.YtckdgcpomkefpaaGreatDoor.En
open Go
def itemsG (f : Dat → Int → Int) : List Dat → Int → Int
  | [], n => n
  | d :: l, n => bif decide (f d n < 0) then -1 else itemsG f l (f d n)
def flatD (d : Dat) : Bool := flatB (d.at 0).toI (d.at 2).toI (d.at 1).toB (d.at 3).toS (d.at 4).toL (d.at 5).toL
def goodO : Nat → Dat → Int → Int → Int
  | 0, _, _, _ => -1
  | k + 1, d, nest, ahead => bif decide (ahead + 1 > 65536) || !flatD d then -1 else
      bif (d.at 0).toI == 6 || (d.at 0).toI == 7 then (bif decide (nest + 1 > 32) then -1 else itemsG (fun e n => goodO k e (nest + 1) n) (d.at 5).toL (ahead + 1)) else itemsG (fun e n => goodO k e nest n) (d.at 5).toL (ahead + 1)
theorem goodO_nrm (k : Nat) (d : Dat) (nest ahead : Int) : goodO k (nrm d) nest ahead = goodO k d nest ahead := by cases k <;> rfl
def okG (k : Nat) (ks l : List Dat) (nest ahead : Int) : Prop := fitO k ks l ∧ 0 ≤ nest ∧ nest ≤ 33 ∧ 0 ≤ ahead ∧ ahead ≤ 65536
noncomputable def rgoodE (k : Nat) : List AV → Bx → Option (Bool × Out)
  | [.agg [.v (.int .i64 k1), .v (.bool b1), .v (.int .i64 n1), .v (.string s1), .row none 9 ks1, .row none 43 l1], .v (.int .i64 nest), .v (.int .i64 ahead)], [none, none, none] =>
    some (decP (okG k ks1 l1 nest ahead), .ret (I (goodO k (mkO k1 n1 b1 s1 ks1 l1) nest ahead)) [none, none, none])
  | _, _ => none
noncomputable def rgoodC (k : Nat) : CallF := addF 54 (rgoodE k) (addF 93 flatE fun _ _ _ => none)
noncomputable def rgoodL (call : CallF) (m r : Nat) (k1 n1 : Int) (b1 : Bool) (s1 : ByteArray) (ks1 l1 : List Dat) (nest n i : Int) := loopF PR TK call m 54 [none, none, none] [true, true, true, true, false, true] r (sp 48 [(1, I nest), (3, .box 3 0), (7, I n), (8, I i)] [(3, obA k1 n1 b1 s1 ks1 l1)])
section
variable (call ext : CallF) (k m r : Nat) (k1 n1 : Int) (b1 : Bool) (s1 : ByteArray) (ks1 l1 : List Dat) (nest ahead n i : Int)
theorem rgood_0 : evFn PR TK (rgoodC k) m 54 [.agg (obA k1 n1 b1 s1 ks1 l1), I nest, I ahead] [none, none, none] =
    orO (decide (W (ahead + 1) > 65536)) (bif Nat.ble ks1.length 1000000 then some (!flatB k1 n1 b1 s1 ks1 l1) else none) fun t => bif t then nR (-1) else
      orK (k1 == 6) (k1 == 7) fun t => bif t then (bif decide (W (nest + 1) > 32) then nR (-1) else rgoodL (rgoodC k) m m k1 n1 b1 s1 ks1 l1 (W (nest + 1)) (W (ahead + 1)) 0) else rgoodL (rgoodC k) m m k1 n1 b1 s1 ks1 l1 nest (W (ahead + 1)) 0 := by kernel_rfl
theorem rgood_1 : rgoodL (rgoodC k) m (r + 1) k1 n1 b1 s1 ks1 l1 nest n i = bif decide (i < l1.length) then (idx l1 i).bind fun d =>
      bif decP (okG k (d.at 4).toL (d.at 5).toL nest n) then (bif decide (goodO k (nrm d) nest n < 0) then nR (-1) else rgoodL (rgoodC k) m r k1 n1 b1 s1 ks1 l1 nest (goodO k (nrm d) nest n) (W (i + 1))) else none
    else nR n := by kernel_rfl
end
theorem itemsG_bd {f : Dat → Int → Int} : ∀ (l : List Dat) (n : Int), (∀ d ∈ l, ∀ n, 0 ≤ n → n ≤ 65536 → -1 ≤ f d n ∧ f d n ≤ 65536) → 0 ≤ n → n ≤ 65536 → -1 ≤ itemsG f l n ∧ itemsG f l n ≤ 65536
  | [], n, _, h1, h2 => ⟨by unfold itemsG; omega, h2⟩
  | d :: l, n, hf, h1, h2 => by
    have := hf d (by simp) n h1 h2
    show -1 ≤ (bif decide (f d n < 0) then -1 else itemsG f l (f d n)) ∧ (bif decide (f d n < 0) then -1 else itemsG f l (f d n)) ≤ 65536
    by_cases h : f d n < 0
    · rw [decide_eq_true h]; exact ⟨by simp, by simp⟩
    · rw [decide_eq_false h]
      exact itemsG_bd l _ (fun e he => hf e (by simp [he])) (by omega) this.2
theorem goodO_bd : ∀ (k : Nat) (d : Dat) (nest ahead : Int), 0 ≤ ahead → -1 ≤ goodO k d nest ahead ∧ goodO k d nest ahead ≤ 65536
  | 0, d, nest, ahead, _ => by simp [goodO]
  | k + 1, d, nest, ahead, h0 => by
    unfold goodO
    cases hc : decide (ahead + 1 > 65536) || !flatD d
    · rw [Bool.or_eq_false_iff] at hc
      have h1 := of_decide_eq_false hc.1
      simp only [cond_false]
      cases (d.at 0).toI == 6 || (d.at 0).toI == 7
      · exact itemsG_bd _ _ (fun e he n hn _ => goodO_bd k e nest n hn) (by omega) (by omega)
      · cases decide (nest + 1 > 32)
        · exact itemsG_bd _ _ (fun e he n hn _ => goodO_bd k e (nest + 1) n hn) (by omega) (by omega)
        · exact ⟨by simp, by simp⟩
    · exact ⟨by simp, by simp⟩
theorem rgood_loop {k m : Nat} {k1 n1 : Int} {b1 : Bool} {s1 : ByteArray} {ks1 l1 : List Dat} {nest : Int} (h2 : 0 ≤ nest) (h3 : nest ≤ 33) (hl : l1.length ≤ 1000000) (hk : ∀ d ∈ l1, fitO k (d.at 4).toL (d.at 5).toL) :
    ∀ (q i r : Nat) (n : Int), i + q = l1.length → q < r → 0 ≤ n → n ≤ 65536 → rgoodL (rgoodC k) m r k1 n1 b1 s1 ks1 l1 nest n (i : Int) = nR (itemsG (fun e n => goodO k e nest n) (l1.drop i) n) := by
  intro q
  induction q with
  | zero =>
    intro i r n hi hr hn1 hn2
    cases r with
    | zero => omega
    | succ r =>
      rw [rgood_1, show decide ((i : Int) < l1.length) = false from decide_eq_false (by omega), cond_false, List.drop_eq_nil_of_le (by omega)]
      rfl
  | succ q ih =>
    intro i r n hi hr hn1 hn2
    cases r with
    | zero => omega
    | succ r =>
      have hlt : i < l1.length := by omega
      have hb := goodO_bd k l1[i] nest n hn1
      have hok : okG k (l1[i].at 4).toL (l1[i].at 5).toL nest n := ⟨hk _ (List.getElem_mem hlt), h2, h3, hn1, hn2⟩
      rw [rgood_1, show decide ((i : Int) < l1.length) = true from decide_eq_true (by omega), cond_true, idx_at hlt, Option.bind_some, decP_eq hok, cond_true, goodO_nrm, W_in (n := (i : Int) + 1) (by omega), List.drop_eq_getElem_cons hlt]
      show _ = nR (bif decide (goodO k l1[i] nest n < 0) then -1 else itemsG (fun e n => goodO k e nest n) (l1.drop (i + 1)) (goodO k l1[i] nest n))
      by_cases hneg : goodO k l1[i] nest n < 0
      · rw [decide_eq_true hneg]; rfl
      · have ih := ih (i + 1) r (goodO k l1[i] nest n) (by omega) (by omega) (by omega) hb.2
        rw [show ((i + 1 : Nat) : Int) = (i : Int) + 1 by omega] at ih
        rw [decide_eq_false hneg, cond_false, cond_false, ih]
theorem rgood_run {k m : Nat} {k1 n1 : Int} {b1 : Bool} {s1 : ByteArray} {ks1 l1 : List Dat} {nest ahead : Int} (h : okG (k + 1) ks1 l1 nest ahead) (hm : 1000000 < m) :
    evFn PR TK (rgoodC k) m 54 [.agg (obA k1 n1 b1 s1 ks1 l1), I nest, I ahead] [none, none, none] = nR (goodO (k + 1) (mkO k1 n1 b1 s1 ks1 l1) nest ahead) := by
  obtain ⟨⟨f1, f2, f3⟩, h2, h3, h4, h5⟩ := h
  rw [rgood_0, show Nat.ble ks1.length 1000000 = true from Nat.ble_eq_true_of_le f1, cond_true, orO_eq, orK_eq, W_in (n := ahead + 1) (by omega), W_in (n := nest + 1) (by omega)]
  show _ = nR (bif decide (ahead + 1 > 65536) || !flatB k1 n1 b1 s1 ks1 l1 then -1 else
      bif k1 == 6 || k1 == 7 then (bif decide (nest + 1 > 32) then -1 else itemsG (fun e n => goodO k e (nest + 1) n) l1 (ahead + 1)) else itemsG (fun e n => goodO k e nest n) l1 (ahead + 1))
  cases hc : decide (ahead + 1 > 65536) || !flatB k1 n1 b1 s1 ks1 l1
  · rw [Bool.or_eq_false_iff] at hc
    have c1 := of_decide_eq_false hc.1
    rw [cond_false, cond_false]
    cases k1 == 6 || k1 == 7
    · have e := rgood_loop (k := k) (m := m) (k1 := k1) (n1 := n1) (b1 := b1) (s1 := s1) (ks1 := ks1) h2 h3 f2 f3 l1.length 0 m (ahead + 1) (by omega) (by omega) (by omega) (by omega)
      rw [List.drop_zero, show ((0 : Nat) : Int) = 0 from rfl] at e
      rw [cond_false, cond_false, e]
    · rw [cond_true, cond_true]
      by_cases hn : nest + 1 > 32
      · rw [decide_eq_true hn]; rfl
      · have e := rgood_loop (k := k) (m := m) (k1 := k1) (n1 := n1) (b1 := b1) (s1 := s1) (ks1 := ks1) (nest := nest + 1) (by omega) (by omega) f2 f3 l1.length 0 m (ahead + 1) (by omega) (by omega) (by omega) (by omega)
        rw [List.drop_zero, show ((0 : Nat) : Int) = 0 from rfl] at e
        rw [decide_eq_false hn, cond_false, cond_false, e]
  · rfl
theorem rgood_sound : ∀ k, SoundCall PR (rgoodC k) := by
  refine sound_rec (takes := TK) hmixP (flat_sound sound_none) _ (fn := (PR.funcs[54]?).getD default) (by kernel_rfl) (by kernel_rfl) rgoodE (fun xs bs out h => ?_) (fun k xs bs out h => ?_)
  · unfold rgoodE at h
    split at h
    · injection h with h
      injection h with h _
      exact (decP_of h).1
    · cases h
  · unfold rgoodE at h
    split at h
    · injection h with h
      injection h with h1 h2
      subst h2
      exact ⟨1000001, rgood_run (decP_of h1) (by omega)⟩
    · cases h
noncomputable def countE : List AV → Bx → Option (Bool × Out)
  | [.agg [.v (.int .i64 k1), .v (.bool b1), .v (.int .i64 n1), .v (.string s1), .row none 9 ks1, .row none 43 l1]], [none] =>
    some (decP (okG 101 ks1 l1 0 0), .ret (I (goodO 101 (mkO k1 n1 b1 s1 ks1 l1) 0 0)) [none])
  | _, _ => none
theorem count_0 (m : Nat) (k1 n1 : Int) (b1 : Bool) (s1 : ByteArray) (ks1 l1 : List Dat) : evFn PR TK (rgoodC 101) m 33 [.agg (obA k1 n1 b1 s1 ks1 l1)] [none] =
  bif decP (okG 101 ks1 l1 0 0) then some (.ret (I (goodO 101 (mkO k1 n1 b1 s1 ks1 l1) 0 0)) [none]) else none := by kernel_rfl
theorem count_sound : SoundCall PR (addF 33 countE fun _ _ _ => none) := by
  refine sound_both (sound_add (takes := TK) hmixP (rgood_sound 101) _ (fn := (PR.funcs[33]?).getD default) (by kernel_rfl) (by kernel_rfl) countE fun xs bs out h => ?_) sound_none
  unfold countE at h
  split at h
  · injection h with h
    injection h with h1 h2
    subst h2
    refine ⟨1, (count_0 _ _ _ _ _ _ _).trans ?_⟩
    rw [h1]; rfl
  · cases h
noncomputable def rGoodE : List AV → Bx → Option (Bool × Out)
  | [.agg [.v (.int .i64 k1), .v (.bool b1), .v (.int .i64 n1), .v (.string s1), .row none 9 ks1, .row none 43 l1]], [none] =>
    some (decP (okG 101 ks1 l1 0 0), .ret (B (decide (goodO 101 (mkO k1 n1 b1 s1 ks1 l1) 0 0 > 0))) [none])
  | _, _ => none
theorem rGood_0 (m : Nat) (k1 n1 : Int) (b1 : Bool) (s1 : ByteArray) (ks1 l1 : List Dat) : evFn PR TK (addF 33 countE fun _ _ _ => none) m 26 [.agg (obA k1 n1 b1 s1 ks1 l1)] [none] =
  bif decP (okG 101 ks1 l1 0 0) then some (.ret (B (decide (goodO 101 (mkO k1 n1 b1 s1 ks1 l1) 0 0 > 0))) [none]) else none := by kernel_rfl
theorem rGood_sound : SoundCall PR (addF 26 rGoodE fun _ _ _ => none) := by
  refine sound_both (sound_add (takes := TK) hmixP count_sound _ (fn := (PR.funcs[26]?).getD default) (by kernel_rfl) (by kernel_rfl) rGoodE fun xs bs out h => ?_) sound_none
  unfold rGoodE at h
  split at h
  · injection h with h
    injection h with h1 h2
    subst h2
    refine ⟨1, (rGood_0 _ _ _ _ _ _ _).trans ?_⟩
    rw [h1]; rfl
  · cases h
end Go.Proofs.YtckdgcpomkefpaaGreatDoor.En
