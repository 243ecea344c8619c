/- obj.Good and colophonref05.Good say the same. -/
import Derived.Test.YtckdgcpomkefpaaGreatDoorP6
set_option linter.unusedVariables false
set_option linter.unusedSimpArgs false
set_option maxRecDepth 100000
namespace Go.Proofs.YtckdgcpomkefpaaGreatDoor.En
open Go
theorem keysEq_nil (ks : List Dat) : keysEq ks [] = ks.isEmpty := by cases ks <;> rfl
theorem allEq_nil (f : Dat → Dat → Bool) (l : List Dat) : allEq f l [] = l.isEmpty := by cases l <;> rfl
def eS (s : ByteArray) : Bool := s.toList == (⟨#[]⟩ : ByteArray).toList
theorem sm_eq (k : Nat) (n : Int) (b : Bool) (s : ByteArray) (ks l : List Dat) : sm (k + 1) n b s ks l = (!b && ((n == 0) && (eS s && (ks.isEmpty && l.isEmpty)))) := by
  have : sm (k + 1) n b s ks l = (((0 : Int) == 0) && ((b == false) && ((n == 0) && (eS s && (keysEq ks [] && allEq (sameO k) l []))))) := rfl
  rw [this, keysEq_nil, allEq_nil]
  cases b <;> rfl
theorem len_pos (l : List Dat) : decide ((l.length : Int) > 0) = !l.isEmpty := by
  cases l with
  | nil => rfl
  | cons d l =>
    have : ((d :: l).length : Int) > 0 := by rw [List.length_cons]; omega
    rw [decide_eq_true this]; rfl
def bareN (k1 : Int) (b A E X Y : Bool) : Bool := ((((b && k1 != 1) || (((!A && k1 != 2) && k1 != 3) && k1 != 8)) || ((!E && k1 != 4) && k1 != 5)) || (!X && k1 != 7)) || ((!Y && k1 != 6) && k1 != 7)
theorem bareN_eq (k1 n1 : Int) (b1 : Bool) (s1 : ByteArray) (ks1 l1 : List Dat) : bareB k1 n1 b1 s1 ks1 l1 = bareN k1 b1 (n1 == 0) (eS s1) ks1.isEmpty l1.isEmpty := by
  unfold bareB bareN
  rw [len_pos, len_pos]
  rfl
theorem eS_nil : eS ⟨#[]⟩ = true := by unfold eS; simp
def rel (x : Bool × Int) (n : Int) : Prop := (x.1 = true ↔ 0 ≤ n) ∧ (x.1 = true → x.2 = 65536 - n)
theorem rel_no {left : Int} : rel (false, left) (-1) := ⟨⟨fun h => (by cases h), fun h => (by omega)⟩, fun h => (by cases h)⟩
theorem bn0 (b A E X Y : Bool) : (!bareN 0 b A E X Y) = (!b && (A && (E && (X && Y)))) := by cases b <;> cases A <;> cases E <;> cases X <;> cases Y <;> rfl
theorem bn1 (b A E X Y : Bool) : (!bareN 1 b A E X Y) = (A && (E && (X && Y))) := by cases b <;> cases A <;> cases E <;> cases X <;> cases Y <;> rfl
theorem bn2 (b A E X Y : Bool) : (!bareN 2 b A E X Y) = (!b && (E && (X && Y))) := by cases b <;> cases A <;> cases E <;> cases X <;> cases Y <;> rfl
theorem bn3 (b A E X Y : Bool) : (!bareN 3 b A E X Y) = (!b && (E && (X && Y))) := by cases b <;> cases A <;> cases E <;> cases X <;> cases Y <;> rfl
theorem bn4 (b A E X Y : Bool) : (!bareN 4 b A E X Y) = (!b && (A && (X && Y))) := by cases b <;> cases A <;> cases E <;> cases X <;> cases Y <;> rfl
theorem bn5 (b A E X Y : Bool) : (!bareN 5 b A E X Y) = (!b && (A && (X && Y))) := by cases b <;> cases A <;> cases E <;> cases X <;> cases Y <;> rfl
theorem bn6 (b A E X Y : Bool) : (!bareN 6 b A E X Y) = (!b && (A && (E && X))) := by cases b <;> cases A <;> cases E <;> cases X <;> cases Y <;> rfl
theorem bn7 (b A E X Y : Bool) : (!bareN 7 b A E X Y) = (!b && (A && E)) := by cases b <;> cases A <;> cases E <;> cases X <;> cases Y <;> rfl
theorem bn8 (b A E X Y : Bool) : (!bareN 8 b A E X Y) = (!b && (E && (X && Y))) := by cases b <;> cases A <;> cases E <;> cases X <;> cases Y <;> rfl
theorem ogI_rel {k : Nat} (hk : ∀ (d : Dat) (deep left nest ahead : Int), left + ahead = 65536 → deep + nest = 32 → 0 ≤ ahead → ahead ≤ 65536 → 0 ≤ deep → rel (ogO k d deep left) (goodO k d nest ahead)) {deep nest : Int} (hdn : deep + nest = 33) (hd : 1 ≤ deep) :
    ∀ (l : List Dat) (left ahead : Int), left + ahead = 65536 → 0 ≤ ahead → ahead ≤ 65536 → rel (ogI (ogO k) deep l left) (itemsG (fun e n => goodO k e nest n) l ahead)
  | [], left, ahead, h1, h2, h3 => ⟨⟨fun _ => h2, fun _ => rfl⟩, fun _ => by show left = 65536 - ahead; omega⟩
  | d :: l, left, ahead, h1, h2, h3 => by
    obtain ⟨r1, r2⟩ := hk d (deep - 1) left nest ahead h1 (by omega) h2 h3 (by omega)
    have hb := goodO_bd k d nest ahead h2
    unfold ogI itemsG
    cases hq : (ogO k d (deep - 1) left).1
    · have : goodO k d nest ahead < 0 := by
        rcases Int.lt_or_le (goodO k d nest ahead) 0 with h | h
        · exact h
        · rw [r1.2 h] at hq; cases hq
      rw [decide_eq_true this]
      exact rel_no
    · have h4 := r1.1 hq
      have h5 := r2 hq
      rw [Bool.not_true, cond_false, decide_eq_false (by omega), cond_false]
      exact ogI_rel hk hdn hd l _ _ (by omega) h4 hb.2
theorem allO_rel {k : Nat} (hk : ∀ (d : Dat) (deep left nest ahead : Int), left + ahead = 65536 → deep + nest = 32 → 0 ≤ ahead → ahead ≤ 65536 → 0 ≤ deep → rel (ogO k d deep left) (goodO k d nest ahead)) {deep nest : Int} (hdn : deep + nest = 32) (hd : 0 ≤ deep)
    (l : List Dat) (left ahead : Int) (h1 : left + ahead = 65536) (h2 : 0 ≤ ahead) (h3 : ahead ≤ 65536) : rel (allO (ogO k) l deep left) (bif decide (nest + 1 > 32) then -1 else itemsG (fun e n => goodO k e (nest + 1) n) l ahead) := by
  unfold allO
  by_cases h : deep < 1
  · rw [decide_eq_true h, decide_eq_true (show nest + 1 > 32 by omega)]; exact rel_no
  · rw [decide_eq_false h, decide_eq_false (show ¬ nest + 1 > 32 by omega)]
    exact ogI_rel hk (by omega) (by omega) l left ahead h1 h2 h3
theorem itemsG_ne {f : Dat → Int → Int} (hf : ∀ d n, 0 ≤ n → f d n ≠ 0) : ∀ (l : List Dat) (n : Int), 0 < n → itemsG f l n ≠ 0
  | [], n, h => by unfold itemsG; omega
  | d :: l, n, h => by
    unfold itemsG
    by_cases hn : f d n < 0
    · rw [decide_eq_true hn]; simp
    · rw [decide_eq_false hn, cond_false]
      have := hf d n (by omega)
      exact itemsG_ne hf l _ (by omega)
theorem goodO_ne : ∀ (k : Nat) (d : Dat) (nest ahead : Int), 0 ≤ ahead → goodO k d nest ahead ≠ 0
  | 0, d, nest, ahead, _ => by simp [goodO]
  | k + 1, d, nest, ahead, h => by
    unfold goodO
    cases decide (ahead + 1 > 65536) || !flatD d
    · cases (d.at 0).toI == 6 || (d.at 0).toI == 7
      · exact itemsG_ne (fun e n hn => goodO_ne k e nest n hn) _ _ (by omega)
      · cases decide (nest + 1 > 32)
        · exact itemsG_ne (fun e n hn => goodO_ne k e (nest + 1) n hn) _ _ (by omega)
        · simp
    · simp
theorem og_good : ∀ (k : Nat) (d : Dat) (deep left nest ahead : Int), left + ahead = 65536 → deep + nest = 32 → 0 ≤ ahead → ahead ≤ 65536 → 0 ≤ deep → rel (ogO k d deep left) (goodO k d nest ahead)
  | 0, d, deep, left, nest, ahead, _, _, _, _, _ => rel_no
  | k + 1, d, deep, left, nest, ahead, h1, h2, h3, h4, h5 => by
    have hk := og_good k
    unfold ogO goodO
    by_cases hl : left - 1 < 0
    · rw [decide_eq_true hl, decide_eq_true (show ahead + 1 > 65536 by omega)]; exact rel_no
    rw [decide_eq_false hl, decide_eq_false (show ¬ ahead + 1 > 65536 by omega), cond_false, Bool.false_or]
    have hfl : flatD d = (!bareN (d.at 0).toI (d.at 1).toB ((d.at 2).toI == 0) (eS (d.at 3).toS) (d.at 4).toL.isEmpty (d.at 5).toL.isEmpty && kindB (d.at 0).toI (d.at 2).toI (d.at 3).toS (d.at 4).toL (d.at 5).toL) := by
      unfold flatD flatB
      rw [bareN_eq]
    rw [hfl]
    have hall := allO_rel hk h2 h5 (d.at 5).toL (left - 1) (ahead + 1) (by omega) (by omega) (by omega)
    generalize hK : (d.at 0).toI = K
    generalize (d.at 1).toB = b
    generalize hn : (d.at 2).toI = n
    generalize hs : (d.at 3).toS = s
    generalize (d.at 4).toL = ks
    revert hall
    generalize hlst : (d.at 5).toL = l
    intro hall
    -- a kind without items
    have plain : ∀ (c : Bool) (g : Dat → Int → Int), (c = true → l.isEmpty = true) → rel (c, left - 1) (bif !c then -1 else itemsG g l (ahead + 1)) := fun c g hc => by
      cases c
      · exact rel_no
      · have : l = [] := by simpa using hc rfl
        subst this
        exact ⟨⟨fun _ => (by show 0 ≤ ahead + 1; omega), fun _ => rfl⟩, fun _ => (by show left - 1 = 65536 - (ahead + 1); omega)⟩
    have smE : ∀ (n : Int) (b : Bool) (s : ByteArray) (ok : Bool), (ok && sm (k + 1) n b s ks l) = true → l.isEmpty = true := fun n b s ok h => by
      rw [sm_eq] at h
      cases hq : l.isEmpty
      · rw [hq] at h; simp at h
      · rfl
    by_cases hk0 : K = 0
    · subst hk0
      have hc : (!bareN 0 b (n == 0) (eS s) ks.isEmpty l.isEmpty && true) = sm (k + 1) n b s ks l := by
        rw [bn0, sm_eq, Bool.and_true]
      show rel (sm (k + 1) n b s ks l, left - 1) (bif !(!bareN 0 b (n == 0) (eS s) ks.isEmpty l.isEmpty && true) then -1 else itemsG (fun e n => goodO k e nest n) l (ahead + 1))
      rw [hc]
      exact plain _ _ fun h => smE n b s true (by rw [h]; rfl)
    by_cases hk1 : K = 1
    · subst hk1
      have hc : (!bareN 1 b (n == 0) (eS s) ks.isEmpty l.isEmpty && true) = sm (k + 1) n false s ks l := by
        rw [bn1, sm_eq, Bool.and_true]; rfl
      show rel (sm (k + 1) n false s ks l, left - 1) (bif !(!bareN 1 b (n == 0) (eS s) ks.isEmpty l.isEmpty && true) then -1 else itemsG (fun e n => goodO k e nest n) l (ahead + 1))
      rw [hc]
      exact plain _ _ fun h => smE n false s true (by rw [h]; rfl)
    by_cases hk2 : K = 2
    · subst hk2
      have hc : (!bareN 2 b (n == 0) (eS s) ks.isEmpty l.isEmpty && inB n) = (inB n && sm (k + 1) 0 b s ks l) := by
        rw [bn2, sm_eq]
        cases inB n <;> cases b <;> cases (n == 0) <;> cases eS s <;> cases ks.isEmpty <;> cases l.isEmpty <;> rfl
      show rel (inB n && sm (k + 1) 0 b s ks l, left - 1) (bif !(!bareN 2 b (n == 0) (eS s) ks.isEmpty l.isEmpty && inB n) then -1 else itemsG (fun e n => goodO k e nest n) l (ahead + 1))
      rw [hc]
      exact plain _ _ (smE _ _ _ _)
    by_cases hk3 : K = 3
    · subst hk3
      have hc : (!bareN 3 b (n == 0) (eS s) ks.isEmpty l.isEmpty && (inB n && (n.tmod 65536) != 0)) = ((inB n && (n.tmod 65536) != 0) && sm (k + 1) 0 b s ks l) := by
        rw [bn3, sm_eq]
        cases (inB n && (n.tmod 65536) != 0) <;> cases b <;> cases (n == 0) <;> cases eS s <;> cases ks.isEmpty <;> cases l.isEmpty <;> rfl
      show rel ((inB n && (n.tmod 65536) != 0) && sm (k + 1) 0 b s ks l, left - 1) (bif !(!bareN 3 b (n == 0) (eS s) ks.isEmpty l.isEmpty && (inB n && (n.tmod 65536) != 0)) then -1 else itemsG (fun e n => goodO k e nest n) l (ahead + 1))
      rw [hc]
      exact plain _ _ (smE _ _ _ _)
    by_cases hk4 : K = 4
    · subst hk4
      have hc : (!bareN 4 b (n == 0) (eS s) ks.isEmpty l.isEmpty && namedB s) = (namedB s && sm (k + 1) n b ⟨#[]⟩ ks l) := by
        rw [bn4, sm_eq, eS_nil]
        cases namedB s <;> cases b <;> cases (n == 0) <;> cases eS s <;> cases ks.isEmpty <;> cases l.isEmpty <;> rfl
      show rel (namedB s && sm (k + 1) n b ⟨#[]⟩ ks l, left - 1) (bif !(!bareN 4 b (n == 0) (eS s) ks.isEmpty l.isEmpty && namedB s) then -1 else itemsG (fun e n => goodO k e nest n) l (ahead + 1))
      rw [hc]
      exact plain _ _ (smE _ _ _ _)
    by_cases hk5 : K = 5
    · subst hk5
      have hc : (!bareN 5 b (n == 0) (eS s) ks.isEmpty l.isEmpty && decide ((s.size : Int) ≤ 65536)) = (decide ((s.size : Int) ≤ 65536) && sm (k + 1) n b ⟨#[]⟩ ks l) := by
        rw [bn5, sm_eq, eS_nil]
        cases decide ((s.size : Int) ≤ 65536) <;> cases b <;> cases (n == 0) <;> cases eS s <;> cases ks.isEmpty <;> cases l.isEmpty <;> rfl
      show rel (decide ((s.size : Int) ≤ 65536) && sm (k + 1) n b ⟨#[]⟩ ks l, left - 1) (bif !(!bareN 5 b (n == 0) (eS s) ks.isEmpty l.isEmpty && decide ((s.size : Int) ≤ 65536)) then -1 else itemsG (fun e n => goodO k e nest n) l (ahead + 1))
      rw [hc]
      exact plain _ _ (smE _ _ _ _)
    by_cases hk6 : K = 6
    · subst hk6
      have hc : (!bareN 6 b (n == 0) (eS s) ks.isEmpty l.isEmpty && true) = sm (k + 1) n b s ks [] := by
        rw [bn6, sm_eq, Bool.and_true]
        cases b <;> cases (n == 0) <;> cases eS s <;> cases ks.isEmpty <;> rfl
      show rel ((allO (ogO k) l deep (left - 1)).1 && sm (k + 1) n b s ks [], (allO (ogO k) l deep (left - 1)).2) (bif !(!bareN 6 b (n == 0) (eS s) ks.isEmpty l.isEmpty && true) then -1 else (bif decide (nest + 1 > 32) then -1 else itemsG (fun e n => goodO k e (nest + 1) n) l (ahead + 1)))
      rw [hc]
      cases sm (k + 1) n b s ks []
      · rw [Bool.and_false]; exact rel_no
      · rw [Bool.and_true]; exact hall
    by_cases hk7 : K = 7
    · subst hk7
      have hc : (!bareN 7 b (n == 0) (eS s) ks.isEmpty l.isEmpty) = sm (k + 1) n b s [] [] := by
        rw [bn7, sm_eq]
        cases b <;> cases (n == 0) <;> cases eS s <;> rfl
      show rel (bif keysR [] ks && ((ks.length : Int) == l.length) then ((allO (ogO k) l deep (left - 1)).1 && sm (k + 1) n b s [] [], (allO (ogO k) l deep (left - 1)).2) else (false, left - 1)) (bif !(!bareN 7 b (n == 0) (eS s) ks.isEmpty l.isEmpty && (bif !((ks.length : Int) == l.length) then false else keysR [] ks)) then -1 else (bif decide (nest + 1 > 32) then -1 else itemsG (fun e n => goodO k e (nest + 1) n) l (ahead + 1)))
      rw [hc]
      cases sm (k + 1) n b s [] []
      · rw [Bool.and_false, Bool.false_and]
        cases keysR [] ks && ((ks.length : Int) == l.length) <;> exact rel_no
      · rw [Bool.and_true, Bool.true_and]
        cases keysR [] ks
        · cases ((ks.length : Int) == l.length) <;> exact rel_no
        · cases ((ks.length : Int) == l.length)
          · exact rel_no
          · exact hall
    by_cases hk8 : K = 8
    · subst hk8
      have hc : (!bareN 8 b (n == 0) (eS s) ks.isEmpty l.isEmpty && (decide (n ≥ 1) && decide (n ≤ 4096))) = ((decide (n ≥ 1) && decide (n ≤ 4096)) && sm (k + 1) 0 b s ks l) := by
        rw [bn8, sm_eq]
        cases (decide (n ≥ 1) && decide (n ≤ 4096)) <;> cases b <;> cases (n == 0) <;> cases eS s <;> cases ks.isEmpty <;> cases l.isEmpty <;> rfl
      show rel ((decide (n ≥ 1) && decide (n ≤ 4096)) && sm (k + 1) 0 b s ks l, left - 1) (bif !(!bareN 8 b (n == 0) (eS s) ks.isEmpty l.isEmpty && (decide (n ≥ 1) && decide (n ≤ 4096))) then -1 else itemsG (fun e n => goodO k e nest n) l (ahead + 1))
      rw [hc]
      exact plain _ _ (smE _ _ _ _)
    have c0 : (K == 0) = false := by simpa using hk0
    have c1 : (K == 1) = false := by simpa using hk1
    have c2 : (K == 2) = false := by simpa using hk2
    have c3 : (K == 3) = false := by simpa using hk3
    have c4 : (K == 4) = false := by simpa using hk4
    have c5 : (K == 5) = false := by simpa using hk5
    have c6 : (K == 6) = false := by simpa using hk6
    have c7 : (K == 7) = false := by simpa using hk7
    have c8 : (K == 8) = false := by simpa using hk8
    unfold ogS kindB
    rw [c0, c1, c2, c3, c4, c5, c6, c7, c8]
    simp only [cond_false, Bool.or_self, Bool.and_false, Bool.not_false, cond_true]
    exact rel_no
theorem Good_eq {k1 n1 : Int} {b1 : Bool} {s1 : ByteArray} {ks1 l1 : List Dat} : (ogO 101 (mkO k1 n1 b1 s1 ks1 l1) 32 65536).1 = decide (goodO 101 (mkO k1 n1 b1 s1 ks1 l1) 0 0 > 0) := by
  have h := (og_good 101 (mkO k1 n1 b1 s1 ks1 l1) 32 65536 0 0 (by decide) (by decide) (by decide) (by decide) (by decide)).1
  have hne := goodO_ne 101 (mkO k1 n1 b1 s1 ks1 l1) 0 0 (by decide)
  rw [Bool.eq_iff_iff, decide_eq_true_eq, h]
  omega
end Go.Proofs.YtckdgcpomkefpaaGreatDoor.En
