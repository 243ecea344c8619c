/- Part 6 of a proof: what it needs of the program's functions as plain Lean functions, with the proof that the machine's calls come to them, and of plain laws; put together out of smaller texts. No conditions besides those that each statement names. -/
import Derived.Laws.BytesString
import Derived.Laws.Cells
import Derived.Lib.Hide
import Derived.Test.YtckdgcpomkefpaaGreatDoorPl0
import Derived.Test.YtckdgcpomkefpaaGreatDoorPl4
import Derived.Test.YtckdgcpomkefpaaGreatDoorPl5
import Derived.WalkKit
section
set_option linter.unusedVariables false
set_option linter.unusedSimpArgs false
set_option maxRecDepth 100000
namespace Go.Proofs.YtckdgcpomkefpaaGreatDoor.En
open Go
theorem keysEq_nil (ks : List Dat) : keysEq ks [] = ks.isEmpty := by cases ks <;> rfl
theorem allEq_nil (f : Dat → Dat → Bool) (l : List Dat) : allEq f l [] = l.isEmpty := by cases l <;> rfl
def eS (s : ByteArray) : Bool := s.toList == (⟨#[]⟩ : ByteArray).toList
theorem sm_eq (k : Nat) (n : Int) (b : Bool) (s : ByteArray) (ks l : List Dat) : sm (k + 1) n b s ks l = (!b && ((n == 0) && (eS s && (ks.isEmpty && l.isEmpty)))) := by
  have : sm (k + 1) n b s ks l = (((0 : Int) == 0) && ((b == false) && ((n == 0) && (eS s && (keysEq ks [] && allEq (sameO k) l []))))) := rfl
  rw [this, keysEq_nil, allEq_nil]
  cases b <;> rfl
theorem len_pos (l : List Dat) : decide ((l.length : Int) > 0) = !l.isEmpty := by
  cases l with
  | nil => rfl
  | cons d l =>
    have : ((d :: l).length : Int) > 0 := by rw [List.length_cons]; omega
    rw [decide_eq_true this]; rfl
def bareN (k1 : Int) (b A E X Y : Bool) : Bool := ((((b && k1 != 1) || (((!A && k1 != 2) && k1 != 3) && k1 != 8)) || ((!E && k1 != 4) && k1 != 5)) || (!X && k1 != 7)) || ((!Y && k1 != 6) && k1 != 7)
theorem bareN_eq (k1 n1 : Int) (b1 : Bool) (s1 : ByteArray) (ks1 l1 : List Dat) : bareB k1 n1 b1 s1 ks1 l1 = bareN k1 b1 (n1 == 0) (eS s1) ks1.isEmpty l1.isEmpty := by
  unfold bareB bareN
  rw [len_pos, len_pos]
  rfl
theorem eS_nil : eS ⟨#[]⟩ = true := by unfold eS; simp
def rel (x : Bool × Int) (n : Int) : Prop := (x.1 = true ↔ 0 ≤ n) ∧ (x.1 = true → x.2 = 65536 - n)
theorem rel_no {left : Int} : rel (false, left) (-1) := ⟨⟨fun h => (by cases h), fun h => (by omega)⟩, fun h => (by cases h)⟩
theorem bn0 (b A E X Y : Bool) : (!bareN 0 b A E X Y) = (!b && (A && (E && (X && Y)))) := by cases b <;> cases A <;> cases E <;> cases X <;> cases Y <;> rfl
theorem bn1 (b A E X Y : Bool) : (!bareN 1 b A E X Y) = (A && (E && (X && Y))) := by cases b <;> cases A <;> cases E <;> cases X <;> cases Y <;> rfl
theorem bn2 (b A E X Y : Bool) : (!bareN 2 b A E X Y) = (!b && (E && (X && Y))) := by cases b <;> cases A <;> cases E <;> cases X <;> cases Y <;> rfl
theorem bn3 (b A E X Y : Bool) : (!bareN 3 b A E X Y) = (!b && (E && (X && Y))) := by cases b <;> cases A <;> cases E <;> cases X <;> cases Y <;> rfl
theorem bn4 (b A E X Y : Bool) : (!bareN 4 b A E X Y) = (!b && (A && (X && Y))) := by cases b <;> cases A <;> cases E <;> cases X <;> cases Y <;> rfl
theorem bn5 (b A E X Y : Bool) : (!bareN 5 b A E X Y) = (!b && (A && (X && Y))) := by cases b <;> cases A <;> cases E <;> cases X <;> cases Y <;> rfl
theorem bn6 (b A E X Y : Bool) : (!bareN 6 b A E X Y) = (!b && (A && (E && X))) := by cases b <;> cases A <;> cases E <;> cases X <;> cases Y <;> rfl
theorem bn7 (b A E X Y : Bool) : (!bareN 7 b A E X Y) = (!b && (A && E)) := by cases b <;> cases A <;> cases E <;> cases X <;> cases Y <;> rfl
theorem bn8 (b A E X Y : Bool) : (!bareN 8 b A E X Y) = (!b && (E && (X && Y))) := by cases b <;> cases A <;> cases E <;> cases X <;> cases Y <;> rfl
theorem ogI_rel {k : Nat} (hk : ∀ (d : Dat) (deep left nest ahead : Int), left + ahead = 65536 → deep + nest = 32 → 0 ≤ ahead → ahead ≤ 65536 → 0 ≤ deep → rel (ogO k d deep left) (goodO k d nest ahead)) {deep nest : Int} (hdn : deep + nest = 33) (hd : 1 ≤ deep) :
    ∀ (l : List Dat) (left ahead : Int), left + ahead = 65536 → 0 ≤ ahead → ahead ≤ 65536 → rel (ogI (ogO k) deep l left) (itemsG (fun e n => goodO k e nest n) l ahead)
  | [], left, ahead, h1, h2, h3 => ⟨⟨fun _ => h2, fun _ => rfl⟩, fun _ => by show left = 65536 - ahead; omega⟩
  | d :: l, left, ahead, h1, h2, h3 => by
    obtain ⟨r1, r2⟩ := hk d (deep - 1) left nest ahead h1 (by omega) h2 h3 (by omega)
    have hb := goodO_bd k d nest ahead h2
    unfold ogI itemsG
    cases hq : (ogO k d (deep - 1) left).1
    · have : goodO k d nest ahead < 0 := by
        rcases Int.lt_or_le (goodO k d nest ahead) 0 with h | h
        · exact h
        · rw [r1.2 h] at hq; cases hq
      rw [decide_eq_true this]
      exact rel_no
    · have h4 := r1.1 hq
      have h5 := r2 hq
      rw [Bool.not_true, cond_false, decide_eq_false (by omega), cond_false]
      exact ogI_rel hk hdn hd l _ _ (by omega) h4 hb.2
theorem allO_rel {k : Nat} (hk : ∀ (d : Dat) (deep left nest ahead : Int), left + ahead = 65536 → deep + nest = 32 → 0 ≤ ahead → ahead ≤ 65536 → 0 ≤ deep → rel (ogO k d deep left) (goodO k d nest ahead)) {deep nest : Int} (hdn : deep + nest = 32) (hd : 0 ≤ deep)
    (l : List Dat) (left ahead : Int) (h1 : left + ahead = 65536) (h2 : 0 ≤ ahead) (h3 : ahead ≤ 65536) : rel (allO (ogO k) l deep left) (bif decide (nest + 1 > 32) then -1 else itemsG (fun e n => goodO k e (nest + 1) n) l ahead) := by
  unfold allO
  by_cases h : deep < 1
  · rw [decide_eq_true h, decide_eq_true (show nest + 1 > 32 by omega)]; exact rel_no
  · rw [decide_eq_false h, decide_eq_false (show ¬ nest + 1 > 32 by omega)]
    exact ogI_rel hk (by omega) (by omega) l left ahead h1 h2 h3
theorem itemsG_ne {f : Dat → Int → Int} (hf : ∀ d n, 0 ≤ n → f d n ≠ 0) : ∀ (l : List Dat) (n : Int), 0 < n → itemsG f l n ≠ 0
  | [], n, h => by unfold itemsG; omega
  | d :: l, n, h => by
    unfold itemsG
    by_cases hn : f d n < 0
    · rw [decide_eq_true hn]; simp
    · rw [decide_eq_false hn, cond_false]
      have := hf d n (by omega)
      exact itemsG_ne hf l _ (by omega)
theorem goodO_ne : ∀ (k : Nat) (d : Dat) (nest ahead : Int), 0 ≤ ahead → goodO k d nest ahead ≠ 0
  | 0, d, nest, ahead, _ => by simp [goodO]
  | k + 1, d, nest, ahead, h => by
    unfold goodO
    cases decide (ahead + 1 > 65536) || !flatD d
    · cases (d.at 0).toI == 6 || (d.at 0).toI == 7
      · exact itemsG_ne (fun e n hn => goodO_ne k e nest n hn) _ _ (by omega)
      · cases decide (nest + 1 > 32)
        · exact itemsG_ne (fun e n hn => goodO_ne k e (nest + 1) n hn) _ _ (by omega)
        · simp
    · simp
theorem og_good : ∀ (k : Nat) (d : Dat) (deep left nest ahead : Int), left + ahead = 65536 → deep + nest = 32 → 0 ≤ ahead → ahead ≤ 65536 → 0 ≤ deep → rel (ogO k d deep left) (goodO k d nest ahead)
  | 0, d, deep, left, nest, ahead, _, _, _, _, _ => rel_no
  | k + 1, d, deep, left, nest, ahead, h1, h2, h3, h4, h5 => by
    have hk := og_good k
    unfold ogO goodO
    by_cases hl : left - 1 < 0
    · rw [decide_eq_true hl, decide_eq_true (show ahead + 1 > 65536 by omega)]; exact rel_no
    rw [decide_eq_false hl, decide_eq_false (show ¬ ahead + 1 > 65536 by omega), cond_false, Bool.false_or]
    have hfl : flatD d = (!bareN (d.at 0).toI (d.at 1).toB ((d.at 2).toI == 0) (eS (d.at 3).toS) (d.at 4).toL.isEmpty (d.at 5).toL.isEmpty && kindB (d.at 0).toI (d.at 2).toI (d.at 3).toS (d.at 4).toL (d.at 5).toL) := by
      unfold flatD flatB
      rw [bareN_eq]
    rw [hfl]
    have hall := allO_rel hk h2 h5 (d.at 5).toL (left - 1) (ahead + 1) (by omega) (by omega) (by omega)
    generalize hK : (d.at 0).toI = K
    generalize (d.at 1).toB = b
    generalize hn : (d.at 2).toI = n
    generalize hs : (d.at 3).toS = s
    generalize (d.at 4).toL = ks
    revert hall
    generalize hlst : (d.at 5).toL = l
    intro hall
    -- a kind without items
    have plain : ∀ (c : Bool) (g : Dat → Int → Int), (c = true → l.isEmpty = true) → rel (c, left - 1) (bif !c then -1 else itemsG g l (ahead + 1)) := fun c g hc => by
      cases c
      · exact rel_no
      · have : l = [] := by simpa using hc rfl
        subst this
        exact ⟨⟨fun _ => (by show 0 ≤ ahead + 1; omega), fun _ => rfl⟩, fun _ => (by show left - 1 = 65536 - (ahead + 1); omega)⟩
    have smE : ∀ (n : Int) (b : Bool) (s : ByteArray) (ok : Bool), (ok && sm (k + 1) n b s ks l) = true → l.isEmpty = true := fun n b s ok h => by
      rw [sm_eq] at h
      cases hq : l.isEmpty
      · rw [hq] at h; simp at h
      · rfl
    by_cases hk0 : K = 0
    · subst hk0
      have hc : (!bareN 0 b (n == 0) (eS s) ks.isEmpty l.isEmpty && true) = sm (k + 1) n b s ks l := by
        rw [bn0, sm_eq, Bool.and_true]
      show rel (sm (k + 1) n b s ks l, left - 1) (bif !(!bareN 0 b (n == 0) (eS s) ks.isEmpty l.isEmpty && true) then -1 else itemsG (fun e n => goodO k e nest n) l (ahead + 1))
      rw [hc]
      exact plain _ _ fun h => smE n b s true (by rw [h]; rfl)
    by_cases hk1 : K = 1
    · subst hk1
      have hc : (!bareN 1 b (n == 0) (eS s) ks.isEmpty l.isEmpty && true) = sm (k + 1) n false s ks l := by
        rw [bn1, sm_eq, Bool.and_true]; rfl
      show rel (sm (k + 1) n false s ks l, left - 1) (bif !(!bareN 1 b (n == 0) (eS s) ks.isEmpty l.isEmpty && true) then -1 else itemsG (fun e n => goodO k e nest n) l (ahead + 1))
      rw [hc]
      exact plain _ _ fun h => smE n false s true (by rw [h]; rfl)
    by_cases hk2 : K = 2
    · subst hk2
      have hc : (!bareN 2 b (n == 0) (eS s) ks.isEmpty l.isEmpty && inB n) = (inB n && sm (k + 1) 0 b s ks l) := by
        rw [bn2, sm_eq]
        cases inB n <;> cases b <;> cases (n == 0) <;> cases eS s <;> cases ks.isEmpty <;> cases l.isEmpty <;> rfl
      show rel (inB n && sm (k + 1) 0 b s ks l, left - 1) (bif !(!bareN 2 b (n == 0) (eS s) ks.isEmpty l.isEmpty && inB n) then -1 else itemsG (fun e n => goodO k e nest n) l (ahead + 1))
      rw [hc]
      exact plain _ _ (smE _ _ _ _)
    by_cases hk3 : K = 3
    · subst hk3
      have hc : (!bareN 3 b (n == 0) (eS s) ks.isEmpty l.isEmpty && (inB n && (n.tmod 65536) != 0)) = ((inB n && (n.tmod 65536) != 0) && sm (k + 1) 0 b s ks l) := by
        rw [bn3, sm_eq]
        cases (inB n && (n.tmod 65536) != 0) <;> cases b <;> cases (n == 0) <;> cases eS s <;> cases ks.isEmpty <;> cases l.isEmpty <;> rfl
      show rel ((inB n && (n.tmod 65536) != 0) && sm (k + 1) 0 b s ks l, left - 1) (bif !(!bareN 3 b (n == 0) (eS s) ks.isEmpty l.isEmpty && (inB n && (n.tmod 65536) != 0)) then -1 else itemsG (fun e n => goodO k e nest n) l (ahead + 1))
      rw [hc]
      exact plain _ _ (smE _ _ _ _)
    by_cases hk4 : K = 4
    · subst hk4
      have hc : (!bareN 4 b (n == 0) (eS s) ks.isEmpty l.isEmpty && namedB s) = (namedB s && sm (k + 1) n b ⟨#[]⟩ ks l) := by
        rw [bn4, sm_eq, eS_nil]
        cases namedB s <;> cases b <;> cases (n == 0) <;> cases eS s <;> cases ks.isEmpty <;> cases l.isEmpty <;> rfl
      show rel (namedB s && sm (k + 1) n b ⟨#[]⟩ ks l, left - 1) (bif !(!bareN 4 b (n == 0) (eS s) ks.isEmpty l.isEmpty && namedB s) then -1 else itemsG (fun e n => goodO k e nest n) l (ahead + 1))
      rw [hc]
      exact plain _ _ (smE _ _ _ _)
    by_cases hk5 : K = 5
    · subst hk5
      have hc : (!bareN 5 b (n == 0) (eS s) ks.isEmpty l.isEmpty && decide ((s.size : Int) ≤ 65536)) = (decide ((s.size : Int) ≤ 65536) && sm (k + 1) n b ⟨#[]⟩ ks l) := by
        rw [bn5, sm_eq, eS_nil]
        cases decide ((s.size : Int) ≤ 65536) <;> cases b <;> cases (n == 0) <;> cases eS s <;> cases ks.isEmpty <;> cases l.isEmpty <;> rfl
      show rel (decide ((s.size : Int) ≤ 65536) && sm (k + 1) n b ⟨#[]⟩ ks l, left - 1) (bif !(!bareN 5 b (n == 0) (eS s) ks.isEmpty l.isEmpty && decide ((s.size : Int) ≤ 65536)) then -1 else itemsG (fun e n => goodO k e nest n) l (ahead + 1))
      rw [hc]
      exact plain _ _ (smE _ _ _ _)
    by_cases hk6 : K = 6
    · subst hk6
      have hc : (!bareN 6 b (n == 0) (eS s) ks.isEmpty l.isEmpty && true) = sm (k + 1) n b s ks [] := by
        rw [bn6, sm_eq, Bool.and_true]
        cases b <;> cases (n == 0) <;> cases eS s <;> cases ks.isEmpty <;> rfl
      show rel ((allO (ogO k) l deep (left - 1)).1 && sm (k + 1) n b s ks [], (allO (ogO k) l deep (left - 1)).2) (bif !(!bareN 6 b (n == 0) (eS s) ks.isEmpty l.isEmpty && true) then -1 else (bif decide (nest + 1 > 32) then -1 else itemsG (fun e n => goodO k e (nest + 1) n) l (ahead + 1)))
      rw [hc]
      cases sm (k + 1) n b s ks []
      · rw [Bool.and_false]; exact rel_no
      · rw [Bool.and_true]; exact hall
    by_cases hk7 : K = 7
    · subst hk7
      have hc : (!bareN 7 b (n == 0) (eS s) ks.isEmpty l.isEmpty) = sm (k + 1) n b s [] [] := by
        rw [bn7, sm_eq]
        cases b <;> cases (n == 0) <;> cases eS s <;> rfl
      show rel (bif keysR [] ks && ((ks.length : Int) == l.length) then ((allO (ogO k) l deep (left - 1)).1 && sm (k + 1) n b s [] [], (allO (ogO k) l deep (left - 1)).2) else (false, left - 1)) (bif !(!bareN 7 b (n == 0) (eS s) ks.isEmpty l.isEmpty && (bif !((ks.length : Int) == l.length) then false else keysR [] ks)) then -1 else (bif decide (nest + 1 > 32) then -1 else itemsG (fun e n => goodO k e (nest + 1) n) l (ahead + 1)))
      rw [hc]
      cases sm (k + 1) n b s [] []
      · rw [Bool.and_false, Bool.false_and]
        cases keysR [] ks && ((ks.length : Int) == l.length) <;> exact rel_no
      · rw [Bool.and_true, Bool.true_and]
        cases keysR [] ks
        · cases ((ks.length : Int) == l.length) <;> exact rel_no
        · cases ((ks.length : Int) == l.length)
          · exact rel_no
          · exact hall
    by_cases hk8 : K = 8
    · subst hk8
      have hc : (!bareN 8 b (n == 0) (eS s) ks.isEmpty l.isEmpty && (decide (n ≥ 1) && decide (n ≤ 4096))) = ((decide (n ≥ 1) && decide (n ≤ 4096)) && sm (k + 1) 0 b s ks l) := by
        rw [bn8, sm_eq]
        cases (decide (n ≥ 1) && decide (n ≤ 4096)) <;> cases b <;> cases (n == 0) <;> cases eS s <;> cases ks.isEmpty <;> cases l.isEmpty <;> rfl
      show rel ((decide (n ≥ 1) && decide (n ≤ 4096)) && sm (k + 1) 0 b s ks l, left - 1) (bif !(!bareN 8 b (n == 0) (eS s) ks.isEmpty l.isEmpty && (decide (n ≥ 1) && decide (n ≤ 4096))) then -1 else itemsG (fun e n => goodO k e nest n) l (ahead + 1))
      rw [hc]
      exact plain _ _ (smE _ _ _ _)
    have c0 : (K == 0) = false := by simpa using hk0
    have c1 : (K == 1) = false := by simpa using hk1
    have c2 : (K == 2) = false := by simpa using hk2
    have c3 : (K == 3) = false := by simpa using hk3
    have c4 : (K == 4) = false := by simpa using hk4
    have c5 : (K == 5) = false := by simpa using hk5
    have c6 : (K == 6) = false := by simpa using hk6
    have c7 : (K == 7) = false := by simpa using hk7
    have c8 : (K == 8) = false := by simpa using hk8
    unfold ogS kindB
    rw [c0, c1, c2, c3, c4, c5, c6, c7, c8]
    simp only [cond_false, Bool.or_self, Bool.and_false, Bool.not_false, cond_true]
    exact rel_no
theorem Good_eq {k1 n1 : Int} {b1 : Bool} {s1 : ByteArray} {ks1 l1 : List Dat} : (ogO 101 (mkO k1 n1 b1 s1 ks1 l1) 32 65536).1 = decide (goodO 101 (mkO k1 n1 b1 s1 ks1 l1) 0 0 > 0) := by
  have h := (og_good 101 (mkO k1 n1 b1 s1 ks1 l1) 32 65536 0 0 (by decide) (by decide) (by decide) (by decide) (by decide)).1
  have hne := goodO_ne 101 (mkO k1 n1 b1 s1 ks1 l1) 0 0 (by decide)
  rw [Bool.eq_iff_iff, decide_eq_true_eq, h]
  omega
end Go.Proofs.YtckdgcpomkefpaaGreatDoor.En
end
section
set_option linter.unusedVariables false
set_option linter.unusedSimpArgs false
set_option maxRecDepth 100000
namespace Go.Proofs.YtckdgcpomkefpaaGreatDoor.En
open Go
theorem digF_len : ∀ (k u : Nat), (digF k u).length ≤ k
  | 0, u => by simp [digF]
  | k + 1, u => by
    unfold digF
    cases Nat.blt u 10
    · rw [cond_false, List.length_append, List.length_singleton]
      have := digF_len k (u / 10)
      omega
    · simp
theorem digF_pos (k u : Nat) : 0 < (digF (k + 1) u).length := by
  unfold digF
  cases Nat.blt u 10
  · rw [cond_false, List.length_append, List.length_singleton]; omega
  · simp
theorem itS_size (n : Int) : (itS n).size ≤ 21 ∧ 0 < (itS n).size := by
  have e : (itS n).size = (itoaF n).length := by unfold itS; simp [ByteArray.size]
  rw [e]
  unfold itoaF
  cases decide (n < 0)
  · have h1 : (digF 20 n.toNat).length ≤ 20 := digF_len 20 n.toNat
    have h2 : 0 < (digF 20 n.toNat).length := digF_pos 19 n.toNat
    rw [cond_false]
    exact ⟨by omega, h2⟩
  · rw [cond_true, List.length_cons]
    have := digF_len 20 n.natAbs
    omega
theorem fixT_size {x : Int} (h : inB x = true) : (fixT x).size ≤ 30 ∧ 0 < (fixT x).size := by
  obtain ⟨b1, b2⟩ := inB_of h
  unfold fixT
  rw [bs_size, List.length_append]
  unfold textBody
  rw [List.length_append, asU_length]
  have h1 := natDigits_length 7 (x.natAbs / 65536) (by omega)
  have h2 := natDigits_pos (x.natAbs / 65536)
  have h3 : (if x < 0 then ([45] : List UInt8) else []).length ≤ 1 := by split <;> simp
  have h4 : (if x.natAbs % 65536 = 0 then ([] : List UInt8) else 46 :: asU (fracD 16 (x.natAbs % 65536))).length ≤ 17 := by
    split
    · simp
    · rw [List.length_cons, asU_length]
      have := fracD_length 16 (x.natAbs % 65536)
      omega
  omega
theorem flat_len {f : UInt8 → List Dat} {c : Nat} (hf : ∀ b, (f b).length ≤ c) : ∀ l : List UInt8, (l.flatMap f).length ≤ c * l.length
  | [] => by simp
  | b :: l => by
    rw [List.flatMap_cons, List.length_append, List.length_cons]
    have h1 := hf b
    have h2 := flat_len hf l
    rw [Nat.mul_succ]; omega
theorem nameT_len (s : ByteArray) : (nameT s).length ≤ 3 * s.size + 1 ∧ 0 < (nameT s).length := by
  unfold nameT
  have := flat_len esc_len s.data.toList
  have hsz : s.data.toList.length = s.size := Array.length_toList
  rw [hsz] at this
  rw [List.length_cons]; omega
theorem txtT_len (s : ByteArray) : (txtT s).length ≤ 2 * s.size + 2 ∧ 0 < (txtT s).length := by
  have hsz : s.data.toList.length = s.size := Array.length_toList
  unfold txtT
  cases s.data.toList.all shB
  · have := flat_len (c := 2) (fun b => Nat.le_of_eq (hex2_len b)) s.data.toList
    rw [hsz] at this
    rw [cond_false]
    unfold hexT
    rw [List.length_append, List.length_cons, List.length_singleton]; omega
  · have := flat_len escP_len s.data.toList
    rw [hsz] at this
    rw [cond_true]
    unfold parT
    rw [List.length_append, List.length_cons, List.length_singleton]; omega
theorem isBy_sep {f : Dat → List Dat} (hf : ∀ d, isBy (f d)) : ∀ (l : List Dat) (first : Bool), isBy (sepT f first l)
  | [], first => isBy.nil
  | d :: r, first => by
    rw [sepT_cons]
    refine ((?_ : isBy _).app (hf d)).app (isBy_sep hf r false)
    cases first
    · exact isBy.cons 32 rfl isBy.nil
    · exact isBy.nil
theorem isBy_dic {f : Dat → List Dat} (hf : ∀ d, isBy (f d)) : ∀ (ks l : List Dat) (first : Bool), isBy (dicT f first ks l)
  | [], l, first => by unfold dicT; exact isBy.nil
  | key :: ks, [], first => by unfold dicT; exact isBy.nil
  | key :: ks, d :: r, first => by
    rw [dicT_cons]
    refine (((?_ : isBy _).app (isBy_name _)).app (isBy.cons 32 rfl isBy.nil)).app (hf d) |>.app (isBy_dic hf ks r false)
    cases first
    · exact isBy.cons 32 rfl isBy.nil
    · exact isBy.nil
theorem isBy_txtO : ∀ (k : Nat) (d : Dat), isBy (txtO k d)
  | 0, d => isBy.nil
  | k + 1, d => by
    unfold txtO txtK
    cases (d.at 0).toI == 0
    · cases (d.at 0).toI == 1
      · cases (d.at 0).toI == 2
        · cases (d.at 0).toI == 3
          · cases (d.at 0).toI == 4
            · cases (d.at 0).toI == 5
              · cases (d.at 0).toI == 6
                · cases (d.at 0).toI == 7
                  · cases (d.at 0).toI == 8
                    · exact isBy.nil
                    · exact isBy_to _
                  · exact ((isBy_to _).app (isBy_dic (isBy_txtO k) _ _ _)).app (isBy_to _)
                · exact (isBy.cons 91 rfl (isBy_sep (isBy_txtO k) _ _)).app (isBy.cons 93 rfl isBy.nil)
              · exact isBy_txt _
            · exact isBy_name _
          · exact isBy_to _
        · exact isBy_to _
      · exact isBy_to _
    · exact isBy_to _
theorem itemsG_mono {g : Dat → Int → Int} (hg : ∀ d n, 0 ≤ n → 0 ≤ g d n → n + 1 ≤ g d n) : ∀ (l : List Dat) (n : Int), 0 ≤ n → 0 ≤ itemsG g l n → n + l.length ≤ itemsG g l n
  | [], n, h0, h => by unfold itemsG; simp
  | d :: l, n, h0, h => by
    unfold itemsG at h ⊢
    by_cases hd : g d n < 0
    · rw [decide_eq_true hd] at h; simp at h
    · rw [decide_eq_false hd, cond_false] at h ⊢
      have h1 := hg d n h0 (by omega)
      have := itemsG_mono hg l (g d n) (by omega) h
      rw [List.length_cons]; omega
theorem goodO_mono : ∀ (k : Nat) (d : Dat) (nest ahead : Int), 0 ≤ ahead → 0 ≤ goodO k d nest ahead → ahead + 1 ≤ goodO k d nest ahead
  | 0, d, nest, ahead, _, h => by simp [goodO] at h
  | k + 1, d, nest, ahead, h0, h => by
    unfold goodO at h ⊢
    cases hc : decide (ahead + 1 > 65536) || !flatD d
    · rw [hc, cond_false] at h
      rw [cond_false]
      cases hk : (d.at 0).toI == 6 || (d.at 0).toI == 7
      · rw [hk, cond_false] at h
        rw [cond_false]
        have := itemsG_mono (g := fun e n => goodO k e nest n) (fun e n hn he => goodO_mono k e nest n hn he) _ _ (by omega) h
        omega
      · rw [hk, cond_true] at h
        rw [cond_true]
        cases hn : decide (nest + 1 > 32)
        · rw [hn, cond_false] at h
          rw [cond_false]
          have := itemsG_mono (g := fun e n => goodO k e (nest + 1) n) (fun e n hn he => goodO_mono k e (nest + 1) n hn he) _ _ (by omega) h
          omega
        · rw [hn] at h; simp at h
    · rw [hc] at h; simp at h
theorem itemsG_all {g : Dat → Int → Int} (hg : ∀ d n, 0 ≤ n → 0 ≤ g d n → n + 1 ≤ g d n) : ∀ (l : List Dat) (n : Int), 0 ≤ n → 0 ≤ itemsG g l n → ∀ d ∈ l, ∃ n', 0 ≤ n' ∧ 0 ≤ g d n'
  | [], n, h0, h, d, hd => by cases hd
  | e :: l, n, h0, h, d, hd => by
    unfold itemsG at h
    by_cases he : g e n < 0
    · rw [decide_eq_true he] at h; simp at h
    · rw [decide_eq_false he, cond_false] at h
      rcases List.mem_cons.1 hd with rfl | hd
      · exact ⟨n, h0, by omega⟩
      · have := hg e n h0 (by omega)
        exact itemsG_all hg l _ (by omega) h d hd
theorem goodO_fitW : ∀ (k : Nat) (d : Dat) (nest ahead : Int), 0 ≤ ahead → 0 ≤ goodO k d nest ahead → fitW k d
  | 0, d, nest, ahead, _, h => by simp [goodO] at h
  | k + 1, d, nest, ahead, h0, h => by
    have hb := (goodO_bd (k + 1) d nest ahead h0).2
    unfold goodO at h hb
    cases hc : decide (ahead + 1 > 65536) || !flatD d
    · rw [hc, cond_false] at h hb
      rw [Bool.or_eq_false_iff, Bool.not_eq_false'] at hc
      cases hk : (d.at 0).toI == 6 || (d.at 0).toI == 7
      · rw [hk, cond_false] at h hb
        have h1 := itemsG_mono (g := fun e n => goodO k e nest n) (fun e n hn he => goodO_mono k e nest n hn he) _ _ (by omega) h
        refine ⟨hc.2, by omega, fun e he => ?_⟩
        obtain ⟨n', a1, a2⟩ := itemsG_all (g := fun e n => goodO k e nest n) (fun e n hn he => goodO_mono k e nest n hn he) _ _ (by omega) h e he
        exact goodO_fitW k e nest n' a1 a2
      · rw [hk, cond_true] at h hb
        cases hn : decide (nest + 1 > 32)
        · rw [hn, cond_false] at h hb
          have h1 := itemsG_mono (g := fun e n => goodO k e (nest + 1) n) (fun e n hn he => goodO_mono k e (nest + 1) n hn he) _ _ (by omega) h
          refine ⟨hc.2, by omega, fun e he => ?_⟩
          obtain ⟨n', a1, a2⟩ := itemsG_all (g := fun e n => goodO k e (nest + 1) n) (fun e n hn he => goodO_mono k e (nest + 1) n hn he) _ _ (by omega) h e he
          exact goodO_fitW k e (nest + 1) n' a1 a2
        · rw [hn] at h; simp at h
    · rw [hc] at h; simp at h
theorem sepT_len {f : Dat → List Dat} {g : Dat → Int → Int} (hg : ∀ d n, 0 ≤ n → 0 ≤ g d n → n + 1 ≤ g d n) (hf : ∀ d n, 0 ≤ n → 0 ≤ g d n → ((f d).length : Int) + 1000 ≤ (g d n - n) * 200000) :
    ∀ (l : List Dat) (first : Bool) (n : Int), 0 ≤ n → 0 ≤ itemsG g l n → ((sepT f first l).length : Int) ≤ (itemsG g l n - n) * 200000
  | [], first, n, h0, h => by unfold sepT itemsG; simp
  | d :: l, first, n, h0, h => by
    rw [sepT_cons, List.length_append, List.length_append]
    unfold itemsG at h ⊢
    by_cases he : g d n < 0
    · rw [decide_eq_true he] at h; simp at h
    · rw [decide_eq_false he, cond_false] at h ⊢
      have h1 := hg d n h0 (by omega)
      have h2 := hf d n h0 (by omega)
      have h3 := sepT_len hg hf l false (g d n) (by omega) h
      have h4 : (bif first then ([] : List Dat) else [Dat.int 32]).length ≤ 1 := by cases first <;> simp
      omega
theorem dicT_len {f : Dat → List Dat} {g : Dat → Int → Int} (hg : ∀ d n, 0 ≤ n → 0 ≤ g d n → n + 1 ≤ g d n) (hf : ∀ d n, 0 ≤ n → 0 ≤ g d n → ((f d).length : Int) + 1000 ≤ (g d n - n) * 200000) :
    ∀ (ks l : List Dat) (first : Bool) (n : Int), (∀ d ∈ ks, (d.at 0).toS.size ≤ 127) → 0 ≤ n → 0 ≤ itemsG g l n → ((dicT f first ks l).length : Int) ≤ (itemsG g l n - n) * 200000
  | [], l, first, n, hk, h0, h => by
    have := itemsG_mono hg l n h0 h
    unfold dicT
    simp only [List.length_nil]
    omega
  | key :: ks, [], first, n, hk, h0, h => by unfold dicT itemsG; simp
  | key :: ks, d :: l, first, n, hk, h0, h => by
    rw [dicT_cons, List.length_append, List.length_append, List.length_append, List.length_append, List.length_singleton]
    unfold itemsG at h ⊢
    by_cases he : g d n < 0
    · rw [decide_eq_true he] at h; simp at h
    · rw [decide_eq_false he, cond_false] at h ⊢
      have h1 := hg d n h0 (by omega)
      have h2 := hf d n h0 (by omega)
      have h3 := dicT_len hg hf ks l false (g d n) (fun e he => hk e (by simp [he])) (by omega) h
      have h4 : (bif first then ([] : List Dat) else [Dat.int 32]).length ≤ 1 := by cases first <;> simp
      have h5 := (nameT_len (key.at 0).toS).1
      have h6 := hk key (by simp)
      omega
theorem txtO_len : ∀ (k : Nat) (d : Dat) (nest ahead : Int), 0 ≤ ahead → 0 ≤ goodO k d nest ahead → ((txtO k d).length : Int) + 1000 ≤ (goodO k d nest ahead - ahead) * 200000 ∧ 0 < (txtO k d).length
  | 0, d, nest, ahead, _, h => by simp [goodO] at h
  | k + 1, d, nest, ahead, h0, h => by
    have hm2 : (1 : Int) ≤ goodO (k + 1) d nest ahead - ahead := by have := goodO_mono (k + 1) d nest ahead h0 h; omega
    have small : ∀ t : List Dat, t.length ≤ 140000 → 0 < t.length → (t.length : Int) + 1000 ≤ (goodO (k + 1) d nest ahead - ahead) * 200000 ∧ 0 < t.length := fun t ht hp => ⟨by omega, hp⟩
    have h1 : ∀ c : Bool, (0 ≤ bif c then (-1 : Int) else goodO (k + 1) d nest ahead) → c = false := fun c hc => by cases c; rfl; simp at hc
    cases hc : decide (ahead + 1 > 65536) || !flatD d
    · have eg : goodO (k + 1) d nest ahead = bif (d.at 0).toI == 6 || (d.at 0).toI == 7 then (bif decide (nest + 1 > 32) then -1 else itemsG (fun e n => goodO k e (nest + 1) n) (d.at 5).toL (ahead + 1)) else itemsG (fun e n => goodO k e nest n) (d.at 5).toL (ahead + 1) := by
        show (bif decide (ahead + 1 > 65536) || !flatD d then -1 else _) = _
        rw [hc]; rfl
      rw [Bool.or_eq_false_iff, Bool.not_eq_false'] at hc
      have hkb := kindB_of (show flatB (d.at 0).toI (d.at 2).toI (d.at 1).toB (d.at 3).toS (d.at 4).toL (d.at 5).toL = true from hc.2)
      rw [eg] at small h ⊢
      clear hm2 h1 eg hc
      show ((txtK (txtO k) (d.at 0).toI (d.at 2).toI (d.at 1).toB (d.at 3).toS (d.at 4).toL (d.at 5).toL).length : Int) + 1000 ≤ _ ∧ 0 < (txtK (txtO k) (d.at 0).toI (d.at 2).toI (d.at 1).toB (d.at 3).toS (d.at 4).toL (d.at 5).toL).length
      revert small h
      revert hkb
      generalize (d.at 0).toI = k1
      generalize (d.at 2).toI = n1
      generalize (d.at 1).toB = b1
      generalize (d.at 3).toS = s1
      generalize (d.at 4).toL = ks1
      generalize (d.at 5).toL = l1
      intro hkb
      rcases kinds9 hkb with rfl | rfl | rfl | rfl | rfl | rfl | rfl | rfl | rfl
      · intro _ small
        exact small (bytesTo nullT) (by rw [bytesTo_len]; decide) (by rw [bytesTo_len]; decide)
      · intro _ small
        exact small (bytesTo (boolT b1)) (by rw [bytesTo_len]; cases b1 <;> decide) (by rw [bytesTo_len]; cases b1 <;> decide)
      · intro _ small
        have := itS_size n1
        exact small (bytesTo (itS n1)) (by rw [bytesTo_len]; omega) (by rw [bytesTo_len]; omega)
      · intro _ small
        have hk : (inB n1 && (n1.tmod 65536) != 0) = true := hkb
        rw [Bool.and_eq_true] at hk
        have := fixT_size hk.1
        exact small (bytesTo (fixT n1)) (by rw [bytesTo_len]; omega) (by rw [bytesTo_len]; omega)
      · intro _ small
        have hk : namedB s1 = true := hkb
        have h1 := named_size hk
        have := nameT_len s1
        exact small (nameT s1) (by omega) (by omega)
      · intro _ small
        have hk : decide ((s1.size : Int) ≤ 65536) = true := hkb
        have h1 := of_decide_eq_true hk
        have := txtT_len s1
        exact small (txtT s1) (by omega) (by omega)
      · intro h' _
        have h' : 0 ≤ (bif decide (nest + 1 > 32) then -1 else itemsG (fun e n => goodO k e (nest + 1) n) l1 (ahead + 1)) := h'
        show (((Dat.int 91 :: sepT (txtO k) true l1) ++ [Dat.int 93]).length : Int) + 1000 ≤ ((bif decide (nest + 1 > 32) then -1 else itemsG (fun e n => goodO k e (nest + 1) n) l1 (ahead + 1)) - ahead) * 200000 ∧ 0 < ((Dat.int 91 :: sepT (txtO k) true l1) ++ [Dat.int 93]).length
        cases hn : decide (nest + 1 > 32)
        · rw [hn, cond_false] at h'
          rw [cond_false, List.length_append, List.length_cons, List.length_singleton]
          have := sepT_len (f := txtO k) (g := fun e n => goodO k e (nest + 1) n) (fun e n hn he => goodO_mono k e (nest + 1) n hn he) (fun e n hn he => (txtO_len k e (nest + 1) n hn he).1) l1 true (ahead + 1) (by omega) h'
          omega
        · rw [hn] at h'; simp at h'
      · intro h' _
        have h' : 0 ≤ (bif decide (nest + 1 > 32) then -1 else itemsG (fun e n => goodO k e (nest + 1) n) l1 (ahead + 1)) := h'
        show (((bytesTo ⟨#[60, 60]⟩ ++ dicT (txtO k) true ks1 l1) ++ bytesTo ⟨#[62, 62]⟩).length : Int) + 1000 ≤ ((bif decide (nest + 1 > 32) then -1 else itemsG (fun e n => goodO k e (nest + 1) n) l1 (ahead + 1)) - ahead) * 200000 ∧ 0 < ((bytesTo ⟨#[60, 60]⟩ ++ dicT (txtO k) true ks1 l1) ++ bytesTo ⟨#[62, 62]⟩).length
        cases hn : decide (nest + 1 > 32)
        · rw [hn, cond_false] at h'
          rw [cond_false, List.length_append, List.length_append, bytesTo_len, bytesTo_len]
          have := dicT_len (f := txtO k) (g := fun e n => goodO k e (nest + 1) n) (fun e n hn he => goodO_mono k e (nest + 1) n hn he) (fun e n hn he => (txtO_len k e (nest + 1) n hn he).1) ks1 l1 true (ahead + 1) (kb7 hkb).2 (by omega) h'
          have e2 : (⟨#[60, 60]⟩ : ByteArray).size = 2 := rfl
          have e3 : (⟨#[62, 62]⟩ : ByteArray).size = 2 := rfl
          omega
        · rw [hn] at h'; simp at h'
      · intro _ small
        have := itS_size n1
        have e : (bytesTo (itS n1 ++ refT)).length = (itS n1).size + 4 := by rw [bytesTo_len, ByteArray.size_append]; rfl
        exact small (bytesTo (itS n1 ++ refT)) (by omega) (by omega)
    · have : goodO (k + 1) d nest ahead = -1 := by
        show (bif decide (ahead + 1 > 65536) || !flatD d then -1 else _) = _
        rw [hc]; rfl
      omega
theorem okWr_good {d : Dat} (h : goodO 101 d 0 0 > 0) : okWr 101 d [] := by
  refine ⟨goodO_fitW 101 d 0 0 (by omega) (by omega), ?_⟩
  have h1 := (txtO_len 101 d 0 0 (by omega) (by omega)).1
  have h2 := (goodO_bd 101 d 0 0 (by omega)).2
  simp only [List.length_nil]
  omega
end Go.Proofs.YtckdgcpomkefpaaGreatDoor.En
end
section
set_option linter.unusedVariables false
set_option linter.unusedSimpArgs false
set_option maxRecDepth 100000
namespace Go.Proofs.YtckdgcpomkefpaaGreatDoor.En
open Go
def pR (s : ByteArray) (e : Int) : Option Out := some (.ret (.tup [S s, I e]) [none])
noncomputable def prC : CallF := addF 24 GoodE (addF 45 (writeE 101) (addF 46 blE (addF 47 strE fun _ _ _ => none)))
theorem prC_sound : SoundCall PR prC := sound_both Good_sound (sound_both (write_sound 101) (bl_sound (str_sound sound_none)))
section
variable (m : Nat) (k1 n1 : Int) (b1 : Bool) (s1 : ByteArray) (ks1 l1 : List Dat)
theorem print_0 : evFn PR TK prC m 29 [.agg (obA k1 n1 b1 s1 ks1 l1)] [none] =
  bif decP (okO' 101 ks1 l1 32 65536) then (bif !(ogO 101 (mkO k1 n1 b1 s1 ks1 l1) 32 65536).1 then pR ⟨#[]⟩ 50 else
    (bif decP (okWr 101 (mkO k1 n1 b1 s1 ks1 l1) []) then (bif decide (((wrO 101 (mkO k1 n1 b1 s1 ks1 l1) []).length : Int) > 1048576) then pR ⟨#[]⟩ 2 else
      (bif bytesOk (wrO 101 (mkO k1 n1 b1 s1 ks1 l1) []) && (Nat.blt 0 (wrO 101 (mkO k1 n1 b1 s1 ks1 l1) []).length && Nat.ble (wrO 101 (mkO k1 n1 b1 s1 ks1 l1) []).length 9223372036854775807) then pR (bytesOf (wrO 101 (mkO k1 n1 b1 s1 ks1 l1) [])) 0 else none)) else none)) else none := by kernel_rfl
noncomputable def rprC : CallF := addF 26 rGoodE (addF 48 (rtextE 101) fun _ _ _ => none)
theorem rprC_sound : SoundCall PR rprC := sound_both rGood_sound (sound_both (rtext_sound 101) sound_none)
theorem rprint_0 : evFn PR TK2 rprC m 30 [.agg (obA k1 n1 b1 s1 ks1 l1)] [none] =
  bif decP (okG 101 ks1 l1 0 0) then (bif !decide (goodO 101 (mkO k1 n1 b1 s1 ks1 l1) 0 0 > 0) then pR ⟨#[]⟩ 50 else
    (bif decP (okWr 101 (mkO k1 n1 b1 s1 ks1 l1) []) then (bif decide (((bytesOf (txtO 101 (mkO k1 n1 b1 s1 ks1 l1))).size : Int) > 1048576) then pR ⟨#[]⟩ 2 else pR (bytesOf (txtO 101 (mkO k1 n1 b1 s1 ks1 l1))) 0) else none)) else none := by kernel_rfl
end
noncomputable def printS (d : Dat) : ByteArray := bif decide (goodO 101 d 0 0 > 0) then (bif decide (((txtO 101 d).length : Int) > 1048576) then ⟨#[]⟩ else bytesOf (txtO 101 d)) else ⟨#[]⟩
noncomputable def printF (d : Dat) : Int := bif decide (goodO 101 d 0 0 > 0) then (bif decide (((txtO 101 d).length : Int) > 1048576) then 2 else 0) else 50
def okPr (ks l : List Dat) : Prop := fitO 101 ks l ∧ keyZ 101 ks l
noncomputable def printE : List AV → Bx → Option (Bool × Out)
  | [.agg [.v (.int .i64 k1), .v (.bool b1), .v (.int .i64 n1), .v (.string s1), .row none 9 ks1, .row none 43 l1]], [none] =>
    some (decP (okPr ks1 l1), .ret (.tup [S (printS (mkO k1 n1 b1 s1 ks1 l1)), I (printF (mkO k1 n1 b1 s1 ks1 l1))]) [none])
  | _, _ => none
theorem bytesOk_of {l : List Dat} (h : isBy l) : bytesOk l = true := by
  unfold bytesOk
  rw [List.all_eq_true]
  intro d hd
  obtain ⟨b, rfl⟩ := h d hd
  have := b.toNat_lt
  rw [Bool.and_eq_true, decide_eq_true_eq, decide_eq_true_eq]
  show (0 : Int) ≤ (b.toNat : Int) ∧ (b.toNat : Int) < 256
  omega
theorem print_run {m : Nat} {k1 n1 : Int} {b1 : Bool} {s1 : ByteArray} {ks1 l1 : List Dat} (h : okPr ks1 l1) :
    evFn PR TK prC m 29 [.agg (obA k1 n1 b1 s1 ks1 l1)] [none] = pR (printS (mkO k1 n1 b1 s1 ks1 l1)) (printF (mkO k1 n1 b1 s1 ks1 l1)) := by
  have hok : okO' 101 ks1 l1 32 65536 := ⟨h.1, h.2, by decide, by decide, by decide, by decide⟩
  rw [print_0, decP_eq hok, cond_true, Good_eq]
  unfold printS printF
  generalize mkO k1 n1 b1 s1 ks1 l1 = d
  by_cases hg : goodO 101 d 0 0 > 0
  · have hw := okWr_good hg
    have hl := txtO_len 101 d 0 0 (by omega) (by omega)
    have hb := (goodO_bd 101 d 0 0 (by omega)).2
    have far := wrO_far 101 d [] [] (asFar.refl _)
    rw [List.nil_append] at far
    obtain ⟨h1, h2, h3⟩ := far
    rw [decide_eq_true hg, Bool.not_true, cond_false, decP_eq hw, cond_true, cond_true, cond_true]
    by_cases hs : 1048576 < (txtO 101 d).length
    · have := h3 hs
      rw [decide_eq_true (show ((wrO 101 d []).length : Int) > 1048576 by omega), decide_eq_true (show ((txtO 101 d).length : Int) > 1048576 by omega)]
      rfl
    · rw [h2 (by omega), decide_eq_false (show ¬ ((txtO 101 d).length : Int) > 1048576 by omega), cond_false, cond_false, cond_false, bytesOk_of (isBy_txtO 101 d), show Nat.blt 0 (txtO 101 d).length = true from Nat.ble_eq_true_of_le hl.2, Nat.ble_eq_true_of_le (by omega)]
      rfl
  · rw [decide_eq_false hg]; rfl
theorem rprint_run {m : Nat} {k1 n1 : Int} {b1 : Bool} {s1 : ByteArray} {ks1 l1 : List Dat} (h : okPr ks1 l1) :
    evFn PR TK2 rprC m 30 [.agg (obA k1 n1 b1 s1 ks1 l1)] [none] = pR (printS (mkO k1 n1 b1 s1 ks1 l1)) (printF (mkO k1 n1 b1 s1 ks1 l1)) := by
  have hok : okG 101 ks1 l1 0 0 := ⟨h.1, by decide, by decide, by decide, by decide⟩
  rw [rprint_0, decP_eq hok, cond_true, bytesOf_size]
  unfold printS printF
  generalize mkO k1 n1 b1 s1 ks1 l1 = d
  by_cases hg : goodO 101 d 0 0 > 0
  · rw [decide_eq_true hg, Bool.not_true, cond_false, decP_eq (okWr_good hg), cond_true, cond_true, cond_true]
    cases decide (((txtO 101 d).length : Int) > 1048576) <;> rfl
  · rw [decide_eq_false hg]; rfl
theorem print_sound {ext : CallF} (hext : SoundCall PR ext) : SoundCall PR (addF 29 printE ext) := by
  refine sound_both (sound_add (takes := TK) hmixP prC_sound _ (fn := (PR.funcs[29]?).getD default) (by kernel_rfl) (by kernel_rfl) printE fun xs bs out h => ?_) hext
  unfold printE at h
  split at h
  · injection h with h
    injection h with h1 h2
    subst h2
    exact ⟨1, print_run (decP_of h1)⟩
  · cases h
theorem rprint_sound {ext : CallF} (hext : SoundCall PR ext) : SoundCall PR (addF 30 printE ext) := by
  refine sound_both (sound_add (takes := TK2) hmixP rprC_sound _ (fn := (PR.funcs[30]?).getD default) (by kernel_rfl) (by kernel_rfl) printE fun xs bs out h => ?_) hext
  unfold printE at h
  split at h
  · injection h with h
    injection h with h1 h2
    subst h2
    exact ⟨1, rprint_run (decP_of h1)⟩
  · cases h
end Go.Proofs.YtckdgcpomkefpaaGreatDoor.En
end
section
set_option linter.unusedVariables false
set_option linter.unusedSimpArgs false
set_option maxRecDepth 100000
namespace Go.Proofs.YtckdgcpomkefpaaGreatDoor.En
open Go
def lenS : ByteArray := ⟨#[76, 101, 110, 103, 116, 104]⟩
def meaK (ks : List Dat) : List Dat := ks ++ [.str lenS]
def meaL (l : List Dat) (n : Int) : List Dat := l ++ [mkO 2 n false ⟨#[]⟩ [] []]
def obM (k n : Int) (b : Bool) (s : ByteArray) (ks l : List Dat) : List AV := [I k, B b, I n, S s, .row (some (sub 4 4)) 9 ks, .row (some (sub 4 5)) 43 l]
def meaE : List AV → Bx → Option (Bool × Out)
  | [.agg [.v (.int .i64 k1), .v (.bool b1), .v (.int .i64 n1), .v (.string s1), .row none 9 ks1, .row none 43 l1], .v (.int .i64 n)], [none, none] =>
    some (Nat.ble ks1.length 1000000 && Nat.ble l1.length 1000000, .ret (.agg (obM k1 n1 b1 s1 (meaK ks1) (meaL l1 n))) [none, none])
  | _, _ => none
section
variable (call : CallF) (m : Nat) (k1 n1 : Int) (b1 : Bool) (s1 : ByteArray) (ks1 l1 : List Dat) (n : Int)
theorem mea_0 : evFn PR TK call m 61 [.agg (obA k1 n1 b1 s1 ks1 l1), I n] [none, none] =
  bif Nat.ble ks1.length fitsN then (bif Nat.ble (ks1.length + 1) fitsN then (bif Nat.ble l1.length fitsN then (bif Nat.ble (l1.length + 1) fitsN then
    some (.ret (.agg (obM k1 n1 b1 s1 (meaK ks1) (meaL l1 n))) [none, none]) else none) else none) else none) else none := by kernel_rfl
end
theorem mea_sound {ext : CallF} (hext : SoundCall PR ext) : SoundCall PR (addF 61 meaE ext) := by
  refine sound_add (takes := TK) hmixP hext _ (fn := (PR.funcs[61]?).getD default) (by kernel_rfl) (by kernel_rfl) meaE fun xs bs out h => ?_
  unfold meaE at h
  split at h
  · injection h with h
    injection h with h1 h2
    subst h2
    rw [Bool.and_eq_true] at h1
    have := Nat.le_of_ble_eq_true h1.1
    have := Nat.le_of_ble_eq_true h1.2
    refine ⟨1, (mea_0 _ _ _ _ _ _ _ _ _).trans ?_⟩
    rw [fits_ble (by omega), fits_ble (by omega), fits_ble (by omega), fits_ble (by omega)]; rfl
  · cases h
def wA (b : List Dat) (e : Int) : List AV := [.row (some (sub 0 0)) 5 b, I e]
def putS (x : List Dat × Int) (s : ByteArray) : List Dat × Int := bif x.2 == 0 then (bif decide (((x.1.length : Int) + s.size) > 16777216) then (x.1, 2) else (x.1 ++ bytesTo s, 0)) else x
def putW : List Dat × Int → List Dat → List Dat × Int
  | x, [] => x
  | x, d :: l => putW (putS x (d.at 0).toS) l
def okPut (l b : List Dat) : Prop := l.length ≤ 1000000 ∧ (∀ d ∈ l, (d.at 0).toS.size ≤ 140737488355328) ∧ b.length ≤ 16777216
noncomputable def putE : List AV → Bx → Option (Bool × Out)
  | [.box 0 0, .row none 9 l], [some [.row (some m) E b, .v (.int .i64 e)], none] =>
    bif Nat.beq m (sub 0 0) && Nat.beq E 5 then some (decP (okPut l b), .ret (.tup []) [some (wA (putW (b, e) l).1 (putW (b, e) l).2), none]) else none
  | _, _ => none
noncomputable def putL (call : CallF) (m r : Nat) (l b : List Dat) (e i : Int) := loopF PR TK call m 55 [some (wA b e), none] [true] r (sp 46 [(0, .box 0 0), (6, .row none 9 l), (7, I l.length), (8, I i)] [(0, wA b e)])
def wR (x : List Dat × Int) : Option Out := some (.ret (.tup []) [some (wA x.1 x.2), none])
section
variable (call : CallF) (m r : Nat) (l b : List Dat) (e i : Int)
theorem put_0 : evFn PR TK call m 55 [.box 0 0, .row none 9 l] [some (wA b e), none] = putL call m m l b e 0 := by kernel_rfl
theorem put_1 : putL call m (r + 1) l b e i = bif decide (i < l.length) then (idx l i).bind fun d =>
      andK (e == 0) (decide (W ((b.length : Int) + (d.at 0).toS.size) > 16777216)) fun t => bif t then putL call m r l b 2 (W (i + 1)) else
        (bif e == 0 then (bif Nat.ble (b.length + (d.at 0).toS.size) fitsN then putL call m r l (b ++ bytesTo (d.at 0).toS) e (W (i + 1)) else none) else putL call m r l b e (W (i + 1)))
    else wR (b, e) := by kernel_rfl
end
theorem put_loop {call : CallF} {m : Nat} {l : List Dat} (hl : l.length ≤ 1000000) (hs : ∀ d ∈ l, (d.at 0).toS.size ≤ 140737488355328) :
    ∀ (n i r : Nat) (b : List Dat) (e : Int), i + n = l.length → n < r → b.length ≤ 16777216 → putL call m r l b e (i : Int) = wR (putW (b, e) (l.drop i)) := by
  intro n
  induction n with
  | zero =>
    intro i r b e hi hr hb
    cases r with
    | zero => omega
    | succ r =>
      rw [put_1, show decide ((i : Int) < l.length) = false from decide_eq_false (by omega), List.drop_eq_nil_of_le (by omega)]
      rfl
  | succ n ih =>
    intro i r b e hi hr hb
    cases r with
    | zero => omega
    | succ r =>
      have h1 : i < l.length := by omega
      have hz := hs _ (List.getElem_mem h1)
      have ih := ih (i + 1) r
      rw [show ((i + 1 : Nat) : Int) = (i : Int) + 1 by omega] at ih
      rw [put_1, show decide ((i : Int) < l.length) = true from decide_eq_true (by omega), idx_at h1, W_in (n := (i : Int) + 1) (by omega), List.drop_eq_getElem_cons h1]
      simp only [cond_true, Option.bind_some, andK_eq]
      rw [W_in (n := (b.length : Int) + ((l[i].at 0).toS.size : Int)) (by omega)]
      show _ = wR (putW (putS (b, e) (l[i].at 0).toS) (l.drop (i + 1)))
      cases he : e == 0
      · have hp : putS (b, e) (l[i].at 0).toS = (b, e) := by unfold putS; rw [he]; rfl
        rw [hp, Bool.false_and]
        exact ih b e (by omega) (by omega) hb
      · have he0 : e = 0 := by simpa using he
        subst he0
        rw [Bool.true_and]
        by_cases hc : ((b.length : Int) + (l[i].at 0).toS.size) > 16777216
        · have hp : putS (b, 0) (l[i].at 0).toS = (b, 2) := by unfold putS; rw [he, decide_eq_true hc]; rfl
          rw [hp, decide_eq_true hc]
          exact ih b 2 (by omega) (by omega) hb
        · have hp : putS (b, 0) (l[i].at 0).toS = (b ++ bytesTo (l[i].at 0).toS, 0) := by unfold putS; rw [he, decide_eq_false hc]; rfl
          rw [hp, decide_eq_false hc, show Nat.ble (b.length + (l[i].at 0).toS.size) fitsN = true from Nat.ble_eq_true_of_le (by unfold fitsN; omega)]
          exact ih _ 0 (by omega) (by omega) (by rw [List.length_append, bytesTo_len]; omega)
theorem putS_len {x : List Dat × Int} {s : ByteArray} (h : x.1.length ≤ 16777216) : (putS x s).1.length ≤ 16777216 := by
  unfold putS
  cases x.2 == 0
  · exact h
  · by_cases hc : ((x.1.length : Int) + s.size) > 16777216
    · rw [decide_eq_true hc]; exact h
    · rw [decide_eq_false hc]
      show (x.1 ++ bytesTo s).length ≤ _
      rw [List.length_append, bytesTo_len]; omega
theorem putW_len : ∀ (l : List Dat) (x : List Dat × Int), x.1.length ≤ 16777216 → (putW x l).1.length ≤ 16777216
  | [], x, h => h
  | d :: l, x, h => putW_len l (putS x (d.at 0).toS) (putS_len h)
theorem put_sound {ext : CallF} (hext : SoundCall PR ext) : SoundCall PR (addF 55 putE ext) := by
  refine sound_add (takes := TK) hmixP hext _ (fn := (PR.funcs[55]?).getD default) (by kernel_rfl) (by kernel_rfl) putE fun xs bs out h => ?_
  unfold putE at h
  split at h
  · rename_i l m E b e
    obtain ⟨hc, h⟩ := bif_some h
    injection h with h
    injection h with h1 h2
    rw [Bool.and_eq_true] at hc
    have hm1 := Nat.eq_of_beq_eq_true hc.1
    have hE := Nat.eq_of_beq_eq_true hc.2
    subst hm1 hE h2
    obtain ⟨p1, p2, p3⟩ := decP_of h1
    refine ⟨1000001, (put_0 _ _ _ _ _).trans ?_⟩
    have e := put_loop (call := ext) (m := 1000001) p1 p2 l.length 0 1000001 b e (by omega) (by omega) p3
    rw [List.drop_zero] at e
    exact e
  · cases h
theorem printS_size (d : Dat) : (printS d).size ≤ 1048576 := by
  unfold printS
  cases decide (goodO 101 d 0 0 > 0)
  · exact Nat.zero_le _
  · by_cases h : (((txtO 101 d).length : Int) > 1048576)
    · rw [decide_eq_true h]; exact Nat.zero_le _
    · rw [decide_eq_false h, cond_true, cond_false, bytesOf_size]; omega
noncomputable def objW (x : List Dat × Int) (d : Dat) : List Dat × Int := putW (x.1, bif x.2 == 0 then printF d else x.2) [.str (printS d)]
noncomputable def objE : List AV → Bx → Option (Bool × Out)
  | [.box 0 0, .agg [.v (.int .i64 k1), .v (.bool b1), .v (.int .i64 n1), .v (.string s1), .row none 9 ks1, .row none 43 l1]], [some [.row (some m) E b, .v (.int .i64 e)], none] =>
    bif Nat.beq m (sub 0 0) && Nat.beq E 5 then some (decP (okPr ks1 l1 ∧ b.length ≤ 16777216), .ret (.tup []) [some (wA (objW (b, e) (mkO k1 n1 b1 s1 ks1 l1)).1 (objW (b, e) (mkO k1 n1 b1 s1 ks1 l1)).2), none]) else none
  | _, _ => none
noncomputable def obC : CallF := addF 29 printE (addF 55 putE fun _ _ _ => none)
theorem obC_sound : SoundCall PR obC := print_sound (put_sound sound_none)
section
variable (m : Nat) (k1 n1 : Int) (b1 : Bool) (s1 : ByteArray) (ks1 l1 b : List Dat) (e : Int)
theorem object_0 : evFn PR TK obC m 56 [.box 0 0, .agg (obA k1 n1 b1 s1 ks1 l1)] [some (wA b e), none] =
  bif decP (okPr ks1 l1) then (bif e == 0 then (bif decP (okPut [.str (printS (mkO k1 n1 b1 s1 ks1 l1))] b) then wR (putW (b, printF (mkO k1 n1 b1 s1 ks1 l1)) [.str (printS (mkO k1 n1 b1 s1 ks1 l1))]) else none)
    else (bif decP (okPut [.str (printS (mkO k1 n1 b1 s1 ks1 l1))] b) then wR (putW (b, e) [.str (printS (mkO k1 n1 b1 s1 ks1 l1))]) else none)) else none := by kernel_rfl
end
theorem okPut1 {s : ByteArray} {b : List Dat} (h : s.size ≤ 140737488355328) (hb : b.length ≤ 16777216) : okPut [.str s] b := ⟨by simp, fun d hd => by
  rw [List.mem_singleton] at hd
  subst hd
  exact h, hb⟩
theorem object_sound {ext : CallF} (hext : SoundCall PR ext) : SoundCall PR (addF 56 objE ext) := by
  refine sound_both (sound_add (takes := TK) hmixP obC_sound _ (fn := (PR.funcs[56]?).getD default) (by kernel_rfl) (by kernel_rfl) objE fun xs bs out h => ?_) hext
  unfold objE at h
  split at h
  · rename_i k1 b1 n1 s1 ks1 l1 m E b e
    obtain ⟨hc, h⟩ := bif_some h
    injection h with h
    injection h with h1 h2
    rw [Bool.and_eq_true] at hc
    have hm1 := Nat.eq_of_beq_eq_true hc.1
    have hE := Nat.eq_of_beq_eq_true hc.2
    subst hm1 hE h2
    obtain ⟨p1, p2⟩ := decP_of h1
    refine ⟨1, (object_0 _ _ _ _ _ _ _ _ _).trans ?_⟩
    have hp := okPut1 (s := printS (mkO k1 n1 b1 s1 ks1 l1)) (b := b) (by have := printS_size (mkO k1 n1 b1 s1 ks1 l1); omega) p2
    rw [decP_eq p1, decP_eq hp]
    unfold objW
    cases e == 0 <;> rfl
  · cases h
def enA (k n : Int) (b : Bool) (s : ByteArray) (ks l : List Dat) (st : Bool) (da : ByteArray) : List AV := [I k, B b, I n, S s, .row none 9 ks, .row none 43 l, B st, S da]
def sObj : ByteArray := ⟨#[32, 48, 32, 111, 98, 106, 10]⟩
def sStr : ByteArray := ⟨#[10, 115, 116, 114, 101, 97, 109, 10]⟩
def sEndS : ByteArray := ⟨#[10, 101, 110, 100, 115, 116, 114, 101, 97, 109, 10, 101, 110, 100, 111, 98, 106, 10]⟩
def sEnd : ByteArray := ⟨#[10, 101, 110, 100, 111, 98, 106, 10]⟩
def bodyD (k n : Int) (b : Bool) (s : ByteArray) (ks l : List Dat) (st : Bool) (da : ByteArray) : Dat := bif st then mkO k n b s (meaK ks) (meaL l da.size) else mkO k n b s ks l
noncomputable def entW (x : List Dat × Int) (i : Int) (d : Dat) (st : Bool) (da : ByteArray) : List Dat × Int :=
  putW (objW (putW x [.str (itS i), .str sObj]) d) (bif st then [.str sStr, .str da, .str sEndS] else [.str sEnd])
def okEn (ks l : List Dat) (st : Bool) (da : ByteArray) (i : Int) (b : List Dat) : Prop := okPr ks l ∧ (st = true → okPr (meaK ks) (meaL l da.size)) ∧ da.size ≤ 140737488355328 ∧ -9223372036854775808 ≤ i ∧ i ≤ 9223372036854775807 ∧ b.length ≤ 16777216
noncomputable def entE : List AV → Bx → Option (Bool × Out)
  | [.box 0 0, .v (.int .i64 i), .agg [.v (.int .i64 k1), .v (.bool b1), .v (.int .i64 n1), .v (.string s1), .row none 9 ks1, .row none 43 l1, .v (.bool st), .v (.string da)]], [some [.row (some m) E b, .v (.int .i64 e)], none, none] =>
    bif Nat.beq m (sub 0 0) && Nat.beq E 5 then some (decP (okEn ks1 l1 st da i b), .ret (.tup []) [some (wA (entW (b, e) i (bodyD k1 n1 b1 s1 ks1 l1 st da) st da).1 (entW (b, e) i (bodyD k1 n1 b1 s1 ks1 l1 st da) st da).2), none, none]) else none
  | _, _ => none
def wR3 (x : List Dat × Int) : Option Out := some (.ret (.tup []) [some (wA x.1 x.2), none, none])
noncomputable def enC : CallF := addF 58 itoaE (addF 61 meaE (addF 56 objE (addF 55 putE fun _ _ _ => none)))
theorem enC_sound : SoundCall PR enC := itoa_sound (mea_sound (object_sound (put_sound sound_none)))
section
variable (m : Nat) (i k1 n1 : Int) (b1 : Bool) (s1 : ByteArray) (ks1 l1 : List Dat) (da : ByteArray) (b : List Dat) (e : Int)
theorem ent_0 : evFn PR TK enC m 57 [.box 0 0, I i, .agg (enA k1 n1 b1 s1 ks1 l1 false da)] [some (wA b e), none, none] =
  bif decide (-9223372036854775808 ≤ i) && decide (i ≤ 9223372036854775807) then (bif decP (okPut [.str (itS i), .str sObj] b) then
    (bif decP (okPr ks1 l1 ∧ (putW (b, e) [.str (itS i), .str sObj]).1.length ≤ 16777216) then
      (bif decP (okPut [.str sEnd] (objW (putW (b, e) [.str (itS i), .str sObj]) (mkO k1 n1 b1 s1 ks1 l1)).1) then wR3 (putW (objW (putW (b, e) [.str (itS i), .str sObj]) (mkO k1 n1 b1 s1 ks1 l1)) [.str sEnd]) else none) else none) else none) else none := by kernel_rfl
theorem ent_1 : evFn PR TK enC m 57 [.box 0 0, I i, .agg (enA k1 n1 b1 s1 ks1 l1 true da)] [some (wA b e), none, none] =
  bif decide (-9223372036854775808 ≤ i) && decide (i ≤ 9223372036854775807) then (bif decP (okPut [.str (itS i), .str sObj] b) then
    (bif Nat.ble ks1.length 1000000 && Nat.ble l1.length 1000000 then (bif decP (okPr (meaK ks1) (meaL l1 da.size) ∧ (putW (b, e) [.str (itS i), .str sObj]).1.length ≤ 16777216) then
      (bif decP (okPut [.str sStr, .str da, .str sEndS] (objW (putW (b, e) [.str (itS i), .str sObj]) (mkO k1 n1 b1 s1 (meaK ks1) (meaL l1 da.size))).1) then wR3 (putW (objW (putW (b, e) [.str (itS i), .str sObj]) (mkO k1 n1 b1 s1 (meaK ks1) (meaL l1 da.size))) [.str sStr, .str da, .str sEndS]) else none) else none) else none) else none) else none := by kernel_rfl
end
theorem okPut_i {i : Int} {b : List Dat} (hb : b.length ≤ 16777216) : okPut [.str (itS i), .str sObj] b := ⟨by simp, fun d hd => by
  rcases List.mem_cons.1 hd with rfl | hd
  · have := (itS_size i).1
    show (itS i).size ≤ _
    omega
  · rw [List.mem_singleton] at hd
    subst hd
    decide, hb⟩
theorem objW_len {x : List Dat × Int} {d : Dat} (h : x.1.length ≤ 16777216) : (objW x d).1.length ≤ 16777216 := putW_len _ _ h
theorem entW_len {x : List Dat × Int} {i : Int} {d : Dat} {st : Bool} {da : ByteArray} (h : x.1.length ≤ 16777216) : (entW x i d st da).1.length ≤ 16777216 := putW_len _ _ (objW_len (putW_len _ _ h))
theorem okPr_len {ks l : List Dat} (h : okPr ks l) : ks.length ≤ 1000000 ∧ l.length ≤ 1000000 := ⟨h.1.1, h.1.2.1⟩
theorem entry_sound {ext : CallF} (hext : SoundCall PR ext) : SoundCall PR (addF 57 entE ext) := by
  refine sound_both (sound_add (takes := TK) hmixP enC_sound _ (fn := (PR.funcs[57]?).getD default) (by kernel_rfl) (by kernel_rfl) entE fun xs bs out h => ?_) hext
  unfold entE at h
  split at h
  · rename_i i k1 b1 n1 s1 ks1 l1 st da m E b e
    obtain ⟨hc, h⟩ := bif_some h
    injection h with h
    injection h with h1 h2
    rw [Bool.and_eq_true] at hc
    have hm1 := Nat.eq_of_beq_eq_true hc.1
    have hE := Nat.eq_of_beq_eq_true hc.2
    subst hm1 hE h2
    obtain ⟨p1, p2, p3, p4, p5, p6⟩ := decP_of h1
    have hx := putW_len [.str (itS i), .str sObj] (b, e) p6
    have hi : (decide (-9223372036854775808 ≤ i) && decide (i ≤ 9223372036854775807)) = true := by rw [decide_eq_true p4, decide_eq_true p5]; rfl
    refine ⟨1, ?_⟩
    cases st
    · refine (ent_0 _ _ _ _ _ _ _ _ _ _ _).trans ?_
      have ho := objW_len (d := mkO k1 n1 b1 s1 ks1 l1) hx
      rw [hi, decP_eq (okPut_i p6), decP_eq (show okPr ks1 l1 ∧ _ from ⟨p1, hx⟩), decP_eq (okPut1 (s := sEnd) (by decide) ho)]
      rfl
    · refine (ent_1 _ _ _ _ _ _ _ _ _ _ _).trans ?_
      have ho := objW_len (d := mkO k1 n1 b1 s1 (meaK ks1) (meaL l1 da.size)) hx
      have ⟨q1, q2⟩ := okPr_len p1
      have h3 : okPut [.str sStr, .str da, .str sEndS] (objW (putW (b, e) [.str (itS i), .str sObj]) (mkO k1 n1 b1 s1 (meaK ks1) (meaL l1 da.size))).1 := ⟨by simp, fun d hd => by
        rcases List.mem_cons.1 hd with rfl | hd
        · decide
        · rcases List.mem_cons.1 hd with rfl | hd
          · exact p3
          · rw [List.mem_singleton] at hd
            subst hd
            decide, ho⟩
      rw [hi, decP_eq (okPut_i p6), Nat.ble_eq_true_of_le q1, Nat.ble_eq_true_of_le q2, decP_eq (show okPr (meaK ks1) (meaL l1 da.size) ∧ _ from ⟨p2 rfl, hx⟩), decP_eq h3]
      rfl
  · cases h
end Go.Proofs.YtckdgcpomkefpaaGreatDoor.En
end
section
set_option linter.unusedVariables false
set_option linter.unusedSimpArgs false
set_option maxRecDepth 100000
namespace Go.Proofs.YtckdgcpomkefpaaGreatDoor.En
open Go
def okE (ks l : List Dat) : Prop := okPr ks l ∧ ks.length ≤ 999999 ∧ l.length ≤ 999999
def stmB (k n : Int) (b : Bool) (s : ByteArray) (ks l : List Dat) : Bool := ((k == 7) && !(bif k == 7 then getO ks l lenS else none).isSome) && decide (goodO 101 (mkO k n b s (meaK ks) (meaL l 0)) 0 0 > 0)
noncomputable def stmE : List AV → Bx → Option (Bool × Out)
  | [.agg [.v (.int .i64 k1), .v (.bool b1), .v (.int .i64 n1), .v (.string s1), .row none 9 ks1, .row none 43 l1]], [none] =>
    some (decP (okE ks1 l1), .ret (B (stmB k1 n1 b1 s1 ks1 l1)) [none])
  | _, _ => none
noncomputable def stC : CallF := addF 35 getE (addF 61 meaE (addF 24 GoodE fun _ _ _ => none))
theorem stC_sound : SoundCall PR stC := sound_both (oget_sound sound_none) (sound_both (mea_sound sound_none) (sound_both Good_sound sound_none))
section
variable (m : Nat) (k1 n1 : Int) (b1 : Bool) (s1 : ByteArray) (ks1 l1 : List Dat)
theorem stm_0 : evFn PR TK stC m 41 [.agg (obA k1 n1 b1 s1 ks1 l1)] [none] =
  bif Nat.ble ks1.length 1000000 && Nat.ble l1.length 1000000 then andK (k1 == 7) (!(bif k1 == 7 then getO ks1 l1 lenS else none).isSome) fun t =>
    bif t == true then (bif Nat.ble ks1.length 1000000 && Nat.ble l1.length 1000000 then (bif decP (okO' 101 (meaK ks1) (meaL l1 0) 32 65536) then some (ogO 101 (mkO k1 n1 b1 s1 (meaK ks1) (meaL l1 0)) 32 65536).1 else none).bind bR1 else none) else bR1 false
  else none := by kernel_rfl
end
def enF (l : List Dat) (root : Int) : List AV := [.row none 64 l, I root]
noncomputable def chkC : CallF := addF 24 GoodE (addF 41 stmE fun _ _ _ => none)
noncomputable def chkL (call : CallF) (m r : Nat) (l : List Dat) (root i : Int) := loopF PR TK call m 17 [none] [true, true, false, true] r (sp 60 [(29, .row none 64 l), (30, I l.length), (31, I i)] [])
def iR (n : Int) : Option Out := some (.ret (I n) [none])
section
variable (m r : Nat) (l : List Dat) (root i : Int)
theorem chk_0 (call : CallF) : evFn PR TK call m 17 [.agg (enF l root)] [none] =
  orK ((l.length : Int) == 0) (decide ((l.length : Int) > 4096)) fun t => orK t (decide (root < 1)) fun t => orK t (decide (root > l.length)) fun t => bif t then iR 1 else chkL call m m l root 0 := by kernel_rfl
theorem chk_1 : chkL chkC m (r + 1) l root i = bif decide (i < l.length) then (idx l i).bind fun d =>
    bif decP (okO' 101 (d.at 4).toL (d.at 5).toL 32 65536) then
      orO (!(ogO 101 (nrm d) 32 65536).1) (andK (!(d.at 6).toB) (!((d.at 7).toS.toList == (⟨#[]⟩ : ByteArray).toList)) fun t => some t) fun t =>
      orO t (andO (d.at 6).toB (bif decP (okE (d.at 4).toL (d.at 5).toL) then some (!stmB (d.at 0).toI (d.at 2).toI (d.at 1).toB (d.at 3).toS (d.at 4).toL (d.at 5).toL) else none) fun t => some t) fun t =>
      bif t then iR 50 else chkL chkC m r l root (W (i + 1)) else none
    else iR 0 := by kernel_rfl
end
def hasB (key : ByteArray) : List Dat → Bool
  | [] => false
  | d :: ks => bif (d.at 0).toS.toList == key.toList then true else hasB key ks
noncomputable def hasL (call : CallF) (m r : Nat) (k1 n1 : Int) (b1 : Bool) (s1 key : ByteArray) (ks1 l1 : List Dat) (i : Int) := loopF PR TK call m 42 [none, none] [true, false, true] r (sp 20 [(1, S key), (2, .box 2 0), (5, I i)] [(2, obA k1 n1 b1 s1 ks1 l1)])
section
variable (call : CallF) (m r : Nat) (k1 n1 : Int) (b1 : Bool) (s1 key : ByteArray) (ks1 l1 : List Dat) (i : Int)
theorem has_0 : evFn PR TK call m 42 [.agg (obA k1 n1 b1 s1 ks1 l1), S key] [none, none] = hasL call m m k1 n1 b1 s1 key ks1 l1 0 := by kernel_rfl
theorem has_1 : hasL call m (r + 1) k1 n1 b1 s1 key ks1 l1 i = bif decide (i < ks1.length) then (idx ks1 i).bind fun d => bif ((d.at 0).toS.toList == key.toList) then bR true else hasL call m r k1 n1 b1 s1 key ks1 l1 (W (i + 1)) else bR false := by kernel_rfl
end
def hasE : List AV → Bx → Option (Bool × Out)
  | [.agg [.v (.int .i64 k1), .v (.bool b1), .v (.int .i64 n1), .v (.string s1), .row none 9 ks1, .row none 43 l1], .v (.string key)], [none, none] =>
    some (Nat.ble ks1.length 1000000, .ret (B (hasB key ks1)) [none, none])
  | _, _ => none
noncomputable def rchkC : CallF := addF 33 countE (addF 42 hasE fun _ _ _ => none)
noncomputable def rchkL (call : CallF) (m r : Nat) (l : List Dat) (root i : Int) := loopF PR TK call m 18 [none] [true, true, false, true] r (sp 76 [(1, .box 1 0), (3, I i)] [(1, enF l root)])
section
variable (m r : Nat) (l : List Dat) (root i : Int)
theorem rchk_0 (call : CallF) : evFn PR TK call m 18 [.agg (enF l root)] [none] =
  orK (decide ((l.length : Int) < 1)) (decide ((l.length : Int) > 4096)) fun t => orK t (decide (root < 1)) fun t => orK t (decide (root > l.length)) fun t => bif t then iR 1 else rchkL call m m l root 0 := by kernel_rfl
theorem rchk_1 : rchkL rchkC m (r + 1) l root i = bif decide (i < l.length) then (idx l i).bind fun d =>
    bif decP (okG 101 (d.at 4).toL (d.at 5).toL 0 0) then
      orO (decide (goodO 101 (nrm d) 0 0 < 0)) (andK (!(d.at 6).toB) (!((d.at 7).toS.toList == (⟨#[]⟩ : ByteArray).toList)) fun t => some t) fun t =>
      orO t (andO (d.at 6).toB (orO ((d.at 0).toI != 7) (bif Nat.ble (d.at 4).toL.length 1000000 then some (hasB lenS (d.at 4).toL) else none) fun t => orO t (some (decide (W (goodO 101 (nrm d) 0 0 - 1) ≥ 65535))) fun t => some t) fun t => some t) fun t =>
      bif t then iR 50 else rchkL rchkC m r l root (W (i + 1)) else none
    else iR 0 := by kernel_rfl
end
end Go.Proofs.YtckdgcpomkefpaaGreatDoor.En
end
section
set_option linter.unusedVariables false
set_option linter.unusedSimpArgs false
namespace Go.Proofs.YtckdgcpomkefpaaGreatDoor.X
open Go.RowKit
def tenV (n j : Nat) : Nat := 48 + n / 10 ^ (9 - j) % 10
def tenC (n k : Nat) : Array Value := ((List.range 10).map fun j => Value.int .u8 (if 10 ≤ j + k then (tenV n j : Int) else 48)).toArray
def tenS (n : Nat) : ByteArray := ⟨((List.range 10).map fun j => UInt8.ofNat (tenV n j)).toArray⟩
theorem run_mark (w : World) (us : Array Value) (n c : Nat) : (convert 57 57 (.slice (some ⟨w.heap.size, 0, none⟩) n c)).run Tryz.prog (w.alloc (.cells us 5 (0, 0))) = .ok (.slice (some ⟨w.heap.size, 0, none⟩) n c) (w.alloc (.cells us 5 (us.size, us.size + 1))) := by
  have h2 : Tryz.prog.underlying 57 = some (.slice 5) := by kernel_rfl
  have h3 : Tryz.prog.underlying 5 = some (.int .u8) := by kernel_rfl
  have e2 : (w.alloc (.cells us 5 (0, 0))).heap[w.heap.size]? = some (.cells us 5 (0, 0)) := by
    show (w.heap.push _)[w.heap.size]? = _
    rw [Array.getElem?_push, if_pos rfl]
  have hsh : (shape w.heap.size).run Tryz.prog (w.alloc (.cells us 5 (0, 0))) = .ok (some (5, us.size)) (w.alloc (.cells us 5 (0, 0))) := by
    show Result.ok ((w.alloc (.cells us 5 (0, 0))).shape? w.heap.size) _ = _
    unfold World.shape?; rw [e2]
  have hfz : (w.alloc (.cells us 5 (0, 0))).freeze ⟨w.heap.size, us.size, none⟩ 1 = w.alloc (.cells us 5 (us.size, us.size + 1)) := by
    have hh : (w.heap.push (.cells us 5 (0, 0))).modify w.heap.size (fun | .cells c elem (lo, hi) => .cells c elem (if lo == hi then (us.size, us.size + 1) else (min lo us.size, max hi (us.size + 1))) | o => o) = w.heap.push (.cells us 5 (us.size, us.size + 1)) := by
      apply Array.ext_getElem?
      intro i
      rw [Array.getElem?_modify, Array.getElem?_push, Array.getElem?_push]
      by_cases e : i = w.heap.size
      · subst e; simp
      · rw [if_neg (fun h => e h.symm), if_neg e, if_neg e]
    show ({ w with heap := (w.heap.push (.cells us 5 (0, 0))).modify w.heap.size _ } : World) = { w with heap := w.heap.push _ }
    rw [← hh]; rfl
  simp only [convert, Sem.run_bind, run_underlying h2, run_underlying h3, Result.andThen_ok, markStringish, hsh, beq_self_eq_true]
  show Result.ok _ ((w.alloc (.cells us 5 (0, 0))).freeze ⟨w.heap.size, us.size, none⟩ 1) = _
  rw [hfz]
theorem ten_set (n k : Nat) (hk : k ≤ 9) {v : Int} (hv : v = (tenV n (9 - k) : Int)) : (tenC n k).setIfInBounds (9 - k) (.int .u8 v) = tenC n (k + 1) := by
  apply Array.ext_getElem?
  intro i
  rw [Array.getElem?_setIfInBounds]
  have hg : ∀ k, (tenC n k)[i]? = if i < 10 then some (Value.int .u8 (if 10 ≤ i + k then (tenV n i : Int) else 48)) else none := fun k => by
    unfold tenC
    rw [List.getElem?_toArray, List.getElem?_map]
    by_cases h : i < 10
    · rw [if_pos h, List.getElem?_range h]; rfl
    · rw [if_neg h, List.getElem?_eq_none (by simpa using h)]; rfl
  have hsz : (tenC n k).size = 10 := by simp [tenC]
  rw [hg, hg, hsz]
  by_cases e : 9 - k = i
  · subst e
    rw [if_pos rfl, if_pos (by omega), if_pos (by omega), if_pos (by omega), hv]
  · rw [if_neg e]
    by_cases h : i < 10
    · rw [if_pos h, if_pos h]
      by_cases h2 : 10 ≤ i + k
      · rw [if_pos h2, if_pos (by omega)]
      · rw [if_neg h2, if_neg (by omega)]
    · rw [if_neg h, if_neg h]
theorem ten_heap {n k j : Nat} {w wr : World} {v : Int} (hj : j = 9 - k) (hk : k ≤ 9) (hv : v = (tenV n j : Int)) (h : wr.heap[w.heap.size]? = some (.cells (tenC n k) 5 (10, 11))) : (wr.setCell ⟨w.heap.size, j, none⟩ (.int .u8 v)).heap[w.heap.size]? = some (.cells (tenC n (k + 1)) 5 (10, 11)) := by
  subst hj
  show (wr.heap.modify w.heap.size _)[w.heap.size]? = _
  rw [Array.getElem?_modify, if_pos rfl, h, ← ten_set n k hk hv]
  rfl
theorem ten_below {w wr : World} {j : Nat} {v : Value} (h : Below w.heap.size w wr) : Below w.heap.size w (wr.setCell ⟨w.heap.size, j, none⟩ v) := by
  refine ⟨h.os, h.tape, h.output, ?_, fun k hk => ?_⟩
  · show _ ≤ (wr.heap.modify w.heap.size _).size
    rw [Array.size_modify]; exact h.size
  · show (wr.heap.modify w.heap.size _)[k]? = _
    rw [Array.getElem?_modify, if_neg (by omega)]
    exact h.block k hk
theorem ten_string (n : Nat) (w wr : World) (h : wr.heap[w.heap.size]? = some (.cells (tenC n 10) 5 (10, 11))) : (convert 57 9 (.slice (some ⟨w.heap.size, 0, none⟩) 10 10)).run Tryz.prog wr = .ok (.string (tenS n)) wr := by
  have h2 : Tryz.prog.underlying 57 = some (.slice 5) := by kernel_rfl
  have h3 : Tryz.prog.underlying 5 = some (.int .u8) := by kernel_rfl
  have h4 : Tryz.prog.underlying 9 = some .string := by kernel_rfl
  have hl : (loadCells ⟨w.heap.size, 0, none⟩ 10).run Tryz.prog wr = .ok (((List.range 10).map fun j => (tenV n j : Int)).map (Value.int .u8)).toArray wr := by
    rw [run_loadCells wr ⟨w.heap.size, 0, none⟩ 10 (fun j => .int .u8 (tenV n j : Int)) (fun j hj => ?_)]
    · congr 2
    · have e : (⟨w.heap.size, 0, none⟩ : Addr).add j = ⟨w.heap.size, j, none⟩ := by
        by_cases hj : j = 0
        · subst hj; simp [Addr.add]
        · simp [Addr.add, hj]
      rw [e]
      have hg : (tenC n 10)[j]? = some (Value.int .u8 (tenV n j : Int)) := by
        unfold tenC
        rw [List.getElem?_toArray, List.getElem?_map, List.getElem?_range hj]
        show some (Value.int .u8 (if 10 ≤ j + 10 then (tenV n j : Int) else 48)) = _
        rw [if_pos (by omega)]
      simp [World.cell?, h, hg]
  have := run_bytesToString (P := Tryz.prog) wr ⟨w.heap.size, 0, none⟩ 10 10 _ hl
  simp only [convert, Sem.run_bind, run_underlying h2, run_underlying h3, run_underlying h4, Result.andThen_ok, this]
  congr 2
set_option maxHeartbeats 4000000 in
set_option maxRecDepth 100000 in
theorem ten_calls (n : Nat) (hn : n ≤ 4611686018427387904) (w : World) :
    Calls Tryz.prog 60 #[.int .i64 n] w fun e w' => e = .returned (.string (tenS n)) ∧ Below w.heap.size w w' := by
  have HN := Lib.hid hn
  clear hn
  have hcv := run_mark
  go_enter Tryz.func60, Tryz.ntmps60
  go_wp2
  go_loopw [0, 4] (fun nv iv wr => ∃ k : Nat, k ≤ 10 ∧ nv = .int .i64 (n / 10 ^ k : Nat) ∧ iv = .int .i64 (9 - k) ∧ Hid (Below w.heap.size w wr) ∧ Hid (wr.heap[w.heap.size]? = some (.cells (tenC n k) 5 (10, 11)))) (fun _ iv _ => (intOf iv + 1).toNat)
  case atStart =>
    refine ⟨0, by omega, by simp, rfl, Lib.hid ((Below.refl _ _).alloc (Nat.le_refl _) _), Lib.hid ?_⟩
    show (w.heap.push _)[w.heap.size]? = _
    rw [Array.getElem?_push, if_pos rfl]
    rfl
  case round =>
    obtain ⟨k, hk, rfl, rfl, HB, HC⟩ := hrel
    match k, hk with
    | 0, _ =>
      have hc := HC.out
      have hcl : wr.cell? ⟨w.heap.size, 9, none⟩ = some (.int .u8 48) := by simp [World.cell?, hc, tenC]
      have hfz : wr.frozen? ⟨w.heap.size, 9, none⟩ = false := by simp [World.frozen?, hc]
      clear hc
      go_wp2
      have hn := HN.out
      refine ⟨⟨1, by decide, ?_, by rfl, Lib.hid (ten_below HB.out), Lib.hid (ten_heap (n := n) (k := 0) (by decide) (by decide) ?_ HC.out)⟩, by decide⟩
      · congr 1
        unfold wrap64
        try rw [Int.tdiv_eq_ediv_of_nonneg (by omega)]
        omega
      · unfold tenV
        omega
    | 1, _ =>
      have hc := HC.out
      have hcl : wr.cell? ⟨w.heap.size, 8, none⟩ = some (.int .u8 48) := by simp [World.cell?, hc, tenC]
      have hfz : wr.frozen? ⟨w.heap.size, 8, none⟩ = false := by simp [World.frozen?, hc]
      clear hc
      go_wp2
      have hn := HN.out
      refine ⟨⟨2, by decide, ?_, by rfl, Lib.hid (ten_below HB.out), Lib.hid (ten_heap (n := n) (k := 1) (by decide) (by decide) ?_ HC.out)⟩, by decide⟩
      · congr 1
        unfold wrap64
        try rw [Int.tdiv_eq_ediv_of_nonneg (by omega)]
        omega
      · unfold tenV
        omega
    | 2, _ =>
      have hc := HC.out
      have hcl : wr.cell? ⟨w.heap.size, 7, none⟩ = some (.int .u8 48) := by simp [World.cell?, hc, tenC]
      have hfz : wr.frozen? ⟨w.heap.size, 7, none⟩ = false := by simp [World.frozen?, hc]
      clear hc
      go_wp2
      have hn := HN.out
      refine ⟨⟨3, by decide, ?_, by rfl, Lib.hid (ten_below HB.out), Lib.hid (ten_heap (n := n) (k := 2) (by decide) (by decide) ?_ HC.out)⟩, by decide⟩
      · congr 1
        unfold wrap64
        try rw [Int.tdiv_eq_ediv_of_nonneg (by omega)]
        omega
      · unfold tenV
        omega
    | 3, _ =>
      have hc := HC.out
      have hcl : wr.cell? ⟨w.heap.size, 6, none⟩ = some (.int .u8 48) := by simp [World.cell?, hc, tenC]
      have hfz : wr.frozen? ⟨w.heap.size, 6, none⟩ = false := by simp [World.frozen?, hc]
      clear hc
      go_wp2
      have hn := HN.out
      refine ⟨⟨4, by decide, ?_, by rfl, Lib.hid (ten_below HB.out), Lib.hid (ten_heap (n := n) (k := 3) (by decide) (by decide) ?_ HC.out)⟩, by decide⟩
      · congr 1
        unfold wrap64
        try rw [Int.tdiv_eq_ediv_of_nonneg (by omega)]
        omega
      · unfold tenV
        omega
    | 4, _ =>
      have hc := HC.out
      have hcl : wr.cell? ⟨w.heap.size, 5, none⟩ = some (.int .u8 48) := by simp [World.cell?, hc, tenC]
      have hfz : wr.frozen? ⟨w.heap.size, 5, none⟩ = false := by simp [World.frozen?, hc]
      clear hc
      go_wp2
      have hn := HN.out
      refine ⟨⟨5, by decide, ?_, by rfl, Lib.hid (ten_below HB.out), Lib.hid (ten_heap (n := n) (k := 4) (by decide) (by decide) ?_ HC.out)⟩, by decide⟩
      · congr 1
        unfold wrap64
        try rw [Int.tdiv_eq_ediv_of_nonneg (by omega)]
        omega
      · unfold tenV
        omega
    | 5, _ =>
      have hc := HC.out
      have hcl : wr.cell? ⟨w.heap.size, 4, none⟩ = some (.int .u8 48) := by simp [World.cell?, hc, tenC]
      have hfz : wr.frozen? ⟨w.heap.size, 4, none⟩ = false := by simp [World.frozen?, hc]
      clear hc
      go_wp2
      have hn := HN.out
      refine ⟨⟨6, by decide, ?_, by rfl, Lib.hid (ten_below HB.out), Lib.hid (ten_heap (n := n) (k := 5) (by decide) (by decide) ?_ HC.out)⟩, by decide⟩
      · congr 1
        unfold wrap64
        try rw [Int.tdiv_eq_ediv_of_nonneg (by omega)]
        omega
      · unfold tenV
        omega
    | 6, _ =>
      have hc := HC.out
      have hcl : wr.cell? ⟨w.heap.size, 3, none⟩ = some (.int .u8 48) := by simp [World.cell?, hc, tenC]
      have hfz : wr.frozen? ⟨w.heap.size, 3, none⟩ = false := by simp [World.frozen?, hc]
      clear hc
      go_wp2
      have hn := HN.out
      refine ⟨⟨7, by decide, ?_, by rfl, Lib.hid (ten_below HB.out), Lib.hid (ten_heap (n := n) (k := 6) (by decide) (by decide) ?_ HC.out)⟩, by decide⟩
      · congr 1
        unfold wrap64
        try rw [Int.tdiv_eq_ediv_of_nonneg (by omega)]
        omega
      · unfold tenV
        omega
    | 7, _ =>
      have hc := HC.out
      have hcl : wr.cell? ⟨w.heap.size, 2, none⟩ = some (.int .u8 48) := by simp [World.cell?, hc, tenC]
      have hfz : wr.frozen? ⟨w.heap.size, 2, none⟩ = false := by simp [World.frozen?, hc]
      clear hc
      go_wp2
      have hn := HN.out
      refine ⟨⟨8, by decide, ?_, by rfl, Lib.hid (ten_below HB.out), Lib.hid (ten_heap (n := n) (k := 7) (by decide) (by decide) ?_ HC.out)⟩, by decide⟩
      · congr 1
        unfold wrap64
        try rw [Int.tdiv_eq_ediv_of_nonneg (by omega)]
        omega
      · unfold tenV
        omega
    | 8, _ =>
      have hc := HC.out
      have hcl : wr.cell? ⟨w.heap.size, 1, none⟩ = some (.int .u8 48) := by simp [World.cell?, hc, tenC]
      have hfz : wr.frozen? ⟨w.heap.size, 1, none⟩ = false := by simp [World.frozen?, hc]
      clear hc
      go_wp2
      have hn := HN.out
      refine ⟨⟨9, by decide, ?_, by rfl, Lib.hid (ten_below HB.out), Lib.hid (ten_heap (n := n) (k := 8) (by decide) (by decide) ?_ HC.out)⟩, by decide⟩
      · congr 1
        unfold wrap64
        try rw [Int.tdiv_eq_ediv_of_nonneg (by omega)]
        omega
      · unfold tenV
        omega
    | 9, _ =>
      have hc := HC.out
      have hcl : wr.cell? ⟨w.heap.size, 0, none⟩ = some (.int .u8 48) := by simp [World.cell?, hc, tenC]
      have hfz : wr.frozen? ⟨w.heap.size, 0, none⟩ = false := by simp [World.frozen?, hc]
      clear hc
      go_wp2
      have hn := HN.out
      refine ⟨⟨10, by decide, ?_, by rfl, Lib.hid (ten_below HB.out), Lib.hid (ten_heap (n := n) (k := 9) (by decide) (by decide) ?_ HC.out)⟩, by decide⟩
      · congr 1
        unfold wrap64
        try rw [Int.tdiv_eq_ediv_of_nonneg (by omega)]
        omega
      · unfold tenV
        omega
    | 10, _ =>
      have hcs := ten_string n w wr HC.out
      go_wp2
      go_ret
      exact ⟨rfl, HB.out⟩
end Go.Proofs.YtckdgcpomkefpaaGreatDoor.X
end
section
set_option linter.unusedVariables false
set_option linter.unusedSimpArgs false
set_option maxRecDepth 100000
namespace Go.Proofs.YtckdgcpomkefpaaGreatDoor.En
open Go
def dcB (n : Int) : Bool := decide (0 ≤ n) && decide (n ≤ 10000000000000000)
def dcE : List AV → Bx → Option (Bool × Out)
  | [.v (.int .i64 n)], [none] => some (dcB n, .ret (S (itS n)) [none])
  | _, _ => none
theorem dc_sound : SoundCall PR (addF 59 dcE fun _ _ _ => none) := by
  refine decC_sound.le fun f xs bs out h => ?_
  unfold addF at h
  unfold decC addF
  cases hf : Nat.beq f 59 <;> rw [hf] at h
  · cases h
  · simp only [cond_true] at h ⊢
    unfold dcE at h
    split at h
    · rename_i n
      injection h with h
      injection h with h1 h2
      subst h2
      unfold dcB at h1
      rw [Bool.and_eq_true, decide_eq_true_eq, decide_eq_true_eq] at h1
      obtain ⟨u, rfl⟩ : ∃ u : Nat, n = (u : Int) := ⟨n.natAbs, by omega⟩
      obtain ⟨d1, d2, d3⟩ := dec18 (u := u) (by omega)
      show some (decOk 18 (u : Int), Out.ret (S (decF 18 (u : Int))) [none]) = _
      rw [d1, d2]
      unfold itS
      rw [itoaF_eq (by omega) (by omega)]
      have e : Lib.itoa (u : Int) = asU (natDigits u) := by
        unfold Lib.itoa
        rw [if_neg (by omega), decDigits_asU]; rfl
      rw [e]; rfl
    · cases h
def tenB (n : Int) : Bool := decide (0 ≤ n) && decide (n ≤ 4611686018427387904)
def tenT (n : Int) : ByteArray := X.tenS n.toNat
def tenE : List AV → Bx → Option (Bool × Out)
  | [.v (.int .i64 n)], [none] => some (tenB n, .ret (S (tenT n)) [none])
  | _, _ => none
theorem ten_sound {ext : CallF} (hext : SoundCall PR ext) : SoundCall PR (addF 60 tenE ext) := by
  refine sound_ext hext _ (fn := (PR.funcs[60]?).getD default) (by kernel_rfl) (by kernel_rfl) tenE fun xs bs out h g w vs hm hL hl hv hr => ?_
  unfold tenE at h
  split at h
  · rename_i n
    injection h with h
    injection h with h1 h2
    subst h2
    unfold tenB at h1
    rw [Bool.and_eq_true, decide_eq_true_eq, decide_eq_true_eq] at h1
    obtain rfl := args_v (P := PR) [.int .i64 n] hv hr
    obtain ⟨u, rfl⟩ : ∃ u : Nat, n = (u : Int) := ⟨n.natAbs, by omega⟩
    refine (X.ten_calls u (by omega) w).mono fun e w' he => ?_
    obtain ⟨rfl, hb⟩ := he
    exact post_v hm (by simp) rfl (Fr.of_below hb (Nat.le_refl _))
  · cases h
def enR (s : ByteArray) (b : Bool) : Option Out := some (.ret (.tup [S s, B b]) [none, none])
noncomputable def rentC : CallF := addF 25 (copyE 101) (addF 30 printE (addF 59 dcE fun _ _ _ => none))
section
variable (m : Nat) (i k1 n1 : Int) (b1 : Bool) (s1 : ByteArray) (ks1 l1 : List Dat) (da : ByteArray)
theorem rent_0 : evFn PR TK rentC m 39 [I i, .agg (enA k1 n1 b1 s1 ks1 l1 false da)] [none, none] =
  bif decP (okPr ks1 l1) then (bif dcB i then glueO (itS i) sObj fun t => glueO t (printS (mkO k1 n1 b1 s1 ks1 l1)) fun t => glueO t sEnd fun t => enR t (printF (mkO k1 n1 b1 s1 ks1 l1) == 0) else none) else none := by kernel_rfl
theorem rent_1 : evFn PR TK rentC m 39 [I i, .agg (enA k1 n1 b1 s1 ks1 l1 true da)] [none, none] =
  bif fitB 101 ks1 l1 then (bif Nat.ble (ks1.length + 1) fitsN then (bif Nat.ble ((l1.map (copyO 100)).length + 1) fitsN then glueO sStr da fun u => glueO u sEndS fun u =>
    (bif decP (okPr (meaK ks1) (meaL (l1.map (copyO 100)) da.size)) then (bif dcB i then glueO (itS i) sObj fun t => glueO t (printS (mkO k1 n1 b1 s1 (meaK ks1) (meaL (l1.map (copyO 100)) da.size))) fun t => glueO t u fun t => enR t (printF (mkO k1 n1 b1 s1 (meaK ks1) (meaL (l1.map (copyO 100)) da.size)) == 0) else none) else none) else none) else none) else none := by kernel_rfl
end
end Go.Proofs.YtckdgcpomkefpaaGreatDoor.En
end
section
set_option linter.unusedVariables false
set_option linter.unusedSimpArgs false
set_option maxRecDepth 100000
namespace Go.Proofs.YtckdgcpomkefpaaGreatDoor.En
open Go
def sXref : ByteArray := ⟨#[120, 114, 101, 102, 10, 48, 32]⟩
def sFree : ByteArray := ⟨#[10, 48, 48, 48, 48, 48, 48, 48, 48, 48, 48, 32, 54, 53, 53, 51, 53, 32, 102, 32, 10]⟩
def sUsed : ByteArray := ⟨#[32, 48, 48, 48, 48, 48, 32, 110, 32, 10]⟩
def sTrail : ByteArray := ⟨#[116, 114, 97, 105, 108, 101, 114, 10, 60, 60, 47, 83, 105, 122, 101, 32]⟩
def sRoot : ByteArray := ⟨#[32, 47, 82, 111, 111, 116, 32]⟩
def sStart : ByteArray := ⟨#[32, 48, 32, 82, 62, 62, 10, 115, 116, 97, 114, 116, 120, 114, 101, 102, 10]⟩
def sEof : ByteArray := ⟨#[10, 37, 37, 69, 79, 70, 10]⟩
noncomputable def tlC : CallF := addF 60 tenE (addF 59 dcE fun _ _ _ => none)
noncomputable def tlL (call : CallF) (m r : Nat) (at_ b : List Dat) (root start : Int) (s : ByteArray) (i : Int) := loopF PR TK call m 40 [none, none, none] [true, true, true, false, true] r
  (sp 46 [(0, .row none 3 at_), (1, I root), (2, I start), (7, S s), (8, .row (some 8) 5 b), (9, I i)] [])
def tlR (s : ByteArray) : Option Out := some (.ret (S s) [none, none, none])
section
variable (m r : Nat) (at_ b : List Dat) (root start i : Int) (s : ByteArray)
theorem tl_0 : evFn PR TK tlC m 40 [.row none 3 at_, I root, I start] [none, none, none] =
  bif dcB (W ((at_.length : Int) + 1)) then glueO sXref (itS (W ((at_.length : Int) + 1))) fun t => glueO t sFree fun t => bif Nat.ble t.size fitsN && true then tlL tlC m m at_ (bytesTo t) root start (itS (W ((at_.length : Int) + 1))) 0 else none
  else none := by kernel_rfl
theorem tl_1 : tlL tlC m (r + 1) at_ b root start s i = bif decide (i < at_.length) then (idx at_ i).bind fun d => bif tenB (d.at 0).toI then
      (bif Nat.ble (b.length + (tenT (d.at 0).toI).size) fitsN then (bif Nat.ble ((b ++ bytesTo (tenT (d.at 0).toI)).length + sUsed.size) fitsN then
        tlL tlC m r at_ ((b ++ bytesTo (tenT (d.at 0).toI)) ++ bytesTo sUsed) root start s (W (i + 1)) else none) else none) else none
    else glueO (bytesOf b) sTrail fun t => glueO t s fun t => glueO t sRoot fun t => bif dcB root then glueO t (itS root) fun t => glueO t sStart fun t => (bif dcB start then glueO t (itS start) fun t => glueO t sEof tlR else none) else none := by kernel_rfl
end
def usedW : List Dat → List Dat → List Dat
  | b, [] => b
  | b, d :: l => usedW ((b ++ bytesTo (tenT (d.at 0).toI)) ++ bytesTo sUsed) l
def tailS (at_ : List Dat) (root start : Int) : ByteArray :=
  ((((((bytesOf (usedW (bytesTo ((sXref ++ itS ((at_.length : Int) + 1)) ++ sFree)) at_) ++ sTrail) ++ itS ((at_.length : Int) + 1)) ++ sRoot) ++ itS root) ++ sStart) ++ itS start) ++ sEof
def okTl (at_ : List Dat) (root start : Int) : Prop := at_.length ≤ 5000 ∧ (∀ d ∈ at_, tenB (d.at 0).toI = true) ∧ dcB root = true ∧ dcB start = true
noncomputable def tailE : List AV → Bx → Option (Bool × Out)
  | [.row none 3 at_, .v (.int .i64 root), .v (.int .i64 start)], [none, none, none] => some (decP (okTl at_ root start), .ret (S (tailS at_ root start)) [none, none, none])
  | _, _ => none
def rbadB (d : Dat) : Bool := decide (goodO 101 (nrm d) 0 0 < 0) || ((!(d.at 6).toB && !((d.at 7).toS.toList == (⟨#[]⟩ : ByteArray).toList)) || ((d.at 6).toB && (((d.at 0).toI != 7) || (hasB lenS (d.at 4).toL || decide (goodO 101 (nrm d) 0 0 - 1 ≥ 65535)))))
def chkF (l : List Dat) (root : Int) : Int := bif (((l.length : Int) == 0 || decide ((l.length : Int) > 4096)) || decide (root < 1)) || decide (root > l.length) then 1 else bif l.any rbadB then 50 else 0
def okF (l : List Dat) : Prop := ∀ d ∈ l, okE (d.at 4).toL (d.at 5).toL
noncomputable def checkE : List AV → Bx → Option (Bool × Out)
  | [.agg [.row none 64 l, .v (.int .i64 root)]], [none] => some (decP (okF l), .ret (I (chkF l root)) [none])
  | _, _ => none
noncomputable def entS (i : Int) (d : Dat) (st : Bool) (da : ByteArray) : ByteArray := ((itS i ++ sObj) ++ printS d) ++ (bif st then (sStr ++ da) ++ sEndS else sEnd)
noncomputable def rentE : List AV → Bx → Option (Bool × Out)
  | [.v (.int .i64 i), .agg [.v (.int .i64 k1), .v (.bool b1), .v (.int .i64 n1), .v (.string s1), .row none 9 ks1, .row none 43 l1, .v (.bool st), .v (.string da)]], [none, none] =>
    some (decP (okE ks1 l1 ∧ da.size ≤ 140737488355328 ∧ dcB i = true), .ret (.tup [S (entS i (bodyD k1 n1 b1 s1 ks1 l1 st da) st da), B (printF (bodyD k1 n1 b1 s1 ks1 l1 st da) == 0)]) [none, none])
  | _, _ => none
def headL : List Dat := [.int 37, .int 80, .int 68, .int 70, .int 45, .int 49, .int 46, .int 55, .int 10, .int 37, .int 226, .int 227, .int 207, .int 211, .int 10]
noncomputable def lyC : CallF := addF 18 checkE (addF 39 rentE (addF 40 tailE fun _ _ _ => none))
noncomputable def lyL (call : CallF) (m r : Nat) (l : List Dat) (root : Int) (b at_ : List Dat) (i : Int) := loopF PR TK call m 16 [none] [true, true, true, true, true, false, true] r
  (sp 73 [(1, .box 1 0), (6, .row (some 6) 5 b), (7, .row (some 7) 3 at_), (8, I i)] [(1, enF l root)])
def lyR (s : ByteArray) (at_ : List Dat) (e : Int) : Option Out := some (.ret (.tup [S s, .row (some 3) 3 at_, I e]) [none])
def enB (d : Dat) : Dat := bodyD (d.at 0).toI (d.at 2).toI (d.at 1).toB (d.at 3).toS (d.at 4).toL (d.at 5).toL (d.at 6).toB (d.at 7).toS
section
variable (m r : Nat) (l b at_ : List Dat) (root i : Int)
theorem ly_0 : evFn PR TK lyC m 16 [.agg (enF l root)] [none] =
  bif decP (okF l) then (bif chkF l root != 0 then lyR ⟨#[]⟩ [] (chkF l root) else lyL lyC m m l root headL [] 0) else none := by kernel_rfl
theorem ly_1 : lyL lyC m (r + 1) l root b at_ i = bif decide (i < l.length) then (idx l i).bind fun d =>
      bif decP (okE (d.at 4).toL (d.at 5).toL ∧ (d.at 7).toS.size ≤ 140737488355328 ∧ dcB (W (i + 1)) = true) then
      orK (!(printF (enB d) == 0)) (decide (W ((b.length : Int) + (entS (W (i + 1)) (enB d) (d.at 6).toB (d.at 7).toS).size) > 16777216)) fun t => bif t then lyR ⟨#[]⟩ [] 2 else
        (bif Nat.ble (at_.length + 1) fitsN then (bif Nat.ble (b.length + (entS (W (i + 1)) (enB d) (d.at 6).toB (d.at 7).toS).size) fitsN then
          lyL lyC m r l root (b ++ bytesTo (entS (W (i + 1)) (enB d) (d.at 6).toB (d.at 7).toS)) (at_ ++ [.int b.length]) (W (i + 1)) else none) else none) else none
    else (bif decP (okTl at_ root b.length) then (bif Nat.ble (b.length + (tailS at_ root b.length).size) fitsN then
      (bif decide (((b ++ bytesTo (tailS at_ root b.length)).length : Int) > 16777216) then lyR ⟨#[]⟩ [] 2 else
        (bif Nat.ble (at_.length + 1) fitsN then lyR (bytesOf (b ++ bytesTo (tailS at_ root b.length))) (at_ ++ [.int b.length]) 0 else none)) else none) else none) := by kernel_rfl
end
end Go.Proofs.YtckdgcpomkefpaaGreatDoor.En
end
section
set_option linter.unusedVariables false
set_option linter.unusedSimpArgs false
set_option maxRecDepth 100000
namespace Go.Proofs.YtckdgcpomkefpaaGreatDoor.En
open Go
def wAt (b : List Dat) (e : Int) : List AV := [.row (some (sub 21 0)) 5 b, I e]
noncomputable def wnC : CallF := addF 17 checkE (addF 55 putE (addF 56 objE (addF 57 entE (addF 58 itoaE fun _ _ _ => none))))
noncomputable def wnL1 (call : CallF) (m r : Nat) (l : List Dat) (root : Int) (b : List Dat) (e : Int) (at_ : List Dat) (i : Int) := loopF PR TK call m 38 [none] [true, true, true, true, true, true, false, true] r
  (sp 118 [(1, .box 1 0), (6, .box 21 0), (7, .fn 55 [.box 21 0] []), (8, .fn 56 [.box 21 0] []), (9, .row (some 9) 3 at_), (30, .row none 64 l), (31, I l.length), (32, I i)] [(1, enF l root), (21, wAt b e)])
noncomputable def wnL2 (call : CallF) (m r : Nat) (l : List Dat) (root : Int) (b : List Dat) (e : Int) (at_ at2 : List Dat) (n i : Int) := loopF PR TK call m 38 [none] [true, true, true, true, true, true, true, true, true, true, false, true] r
  (sp 118 [(1, .box 1 0), (6, .box 21 0), (7, .fn 55 [.box 21 0] []), (8, .fn 56 [.box 21 0] []), (9, .row (some 9) 3 at_), (12, I n), (71, .row none 3 at2), (72, I at2.length), (73, I i)] [(1, enF l root), (21, wAt b e)])
def itB (n : Int) : Bool := decide (-9223372036854775808 ≤ n) && decide (n ≤ 9223372036854775807)
def wnF (e : Int) : Option Out := some (.ret (.tup [.v (.pointer none), .row (some 3) 3 [], I e]) [none])
def sTrl : ByteArray := ⟨#[116, 114, 97, 105, 108, 101, 114, 10]⟩
def sStx : ByteArray := ⟨#[10, 115, 116, 97, 114, 116, 120, 114, 101, 102, 10]⟩
def kSize : ByteArray := ⟨#[83, 105, 122, 101]⟩
def kRoot : ByteArray := ⟨#[82, 111, 111, 116]⟩
def trlK : List Dat := [.str kSize, .str kRoot]
def trlL (n root : Int) : List Dat := [mkO 2 n false ⟨#[]⟩ [] [], mkO 8 root false ⟨#[]⟩ [] []]
def trlD (n root : Int) : Dat := mkO 7 0 false ⟨#[]⟩ trlK (trlL n root)
section
variable (m r : Nat) (l b at_ at2 : List Dat) (root e i n : Int)
theorem wn_0 : evFn PR TK wnC m 38 [.agg (enF l root)] [none] =
  bif decP (okF l) then (bif chkF l root != 0 then wnF (chkF l root) else (bif decP (okPut [.str ⟨#[37, 80, 68, 70, 45, 49, 46, 55, 10, 37, 226, 227, 207, 211, 10]⟩] []) then
    wnL1 wnC m m l root (putW ([], 0) [.str ⟨#[37, 80, 68, 70, 45, 49, 46, 55, 10, 37, 226, 227, 207, 211, 10]⟩]).1 (putW ([], 0) [.str ⟨#[37, 80, 68, 70, 45, 49, 46, 55, 10, 37, 226, 227, 207, 211, 10]⟩]).2 [] 0 else none)) else none := by kernel_rfl
theorem wn_1 : wnL1 wnC m (r + 1) l root b e at_ i = bif decide (i < l.length) then (idx l i).bind fun d =>
      bif Nat.ble (at_.length + 1) fitsN then (bif decP (okEn (d.at 4).toL (d.at 5).toL (d.at 6).toB (d.at 7).toS (W (i + 1)) b) then
        wnL1 wnC m r l root (entW (b, e) (W (i + 1)) (enB d) (d.at 6).toB (d.at 7).toS).1 (entW (b, e) (W (i + 1)) (enB d) (d.at 6).toB (d.at 7).toS).2 (at_ ++ [.int b.length]) (W (i + 1)) else none) else none
    else (bif Nat.ble (at_.length + 1) fitsN then (bif itB (W ((l.length : Int) + 1)) then (bif decP (okPut [.str sXref, .str (itS (W ((l.length : Int) + 1))), .str sFree] b) then
      (bif (((true && decide (0 ≤ W (W ((l.length : Int) + 1) - 1))) && decide (W (W ((l.length : Int) + 1) - 1) ≤ ((at_ ++ [Dat.int b.length]).length : Int))) && true) && decide (0 ≤ W (W ((l.length : Int) + 1) - 1)) then
        wnL2 wnC m m l root (putW (b, e) [.str sXref, .str (itS (W ((l.length : Int) + 1))), .str sFree]).1 (putW (b, e) [.str sXref, .str (itS (W ((l.length : Int) + 1))), .str sFree]).2 (at_ ++ [.int b.length])
          (((at_ ++ [Dat.int b.length]).take (W (W ((l.length : Int) + 1) - 1)).toNat).drop (0 : Int).toNat) (W ((l.length : Int) + 1)) 0 else none) else none) else none) else none) := by kernel_rfl
def cut1 (s : ByteArray) : ByteArray := s.extract (1 : Int).toNat ((s.size : Int)).toNat
noncomputable def wnEnd (at_ : List Dat) (n root : Int) (x : List Dat × Int) : Option Out :=
  bif decP (okPut [.str sTrl] x.1) then (bif decP (okPr trlK (trlL n root) ∧ (putW x [.str sTrl]).1.length ≤ 16777216) then (idx at_ (W (n - 1))).bind fun d => bif itB (d.at 0).toI then
    (bif decP (okPut [.str sStx, .str (itS (d.at 0).toI), .str sEof] (objW (putW x [.str sTrl]) (trlD n root)).1) then
      (bif (putW (objW (putW x [.str sTrl]) (trlD n root)) [.str sStx, .str (itS (d.at 0).toI), .str sEof]).2 != 0 then wnF (putW (objW (putW x [.str sTrl]) (trlD n root)) [.str sStx, .str (itS (d.at 0).toI), .str sEof]).2
        else some (.ret (.tup [.ro [.row none 5 (putW (objW (putW x [.str sTrl]) (trlD n root)) [.str sStx, .str (itS (d.at 0).toI), .str sEof]).1, I (putW (objW (putW x [.str sTrl]) (trlD n root)) [.str sStx, .str (itS (d.at 0).toI), .str sEof]).2], .row (some 3) 3 at_, I 0]) [none])) else none) else none else none) else none
theorem wn_2 : wnL2 wnC m (r + 1) l root b e at_ at2 n i = bif decide (i < at2.length) then (idx at2 i).bind fun d =>
      bif itB (W (10000000000 + (d.at 0).toI)) then (bif (((true && decide ((0 : Int) ≤ (itS (W (10000000000 + (d.at 0).toI))).size)) && decide (((itS (W (10000000000 + (d.at 0).toI))).size : Int) ≤ (itS (W (10000000000 + (d.at 0).toI))).size)) && true) && decide ((1 : Int) ≤ (itS (W (10000000000 + (d.at 0).toI))).size) then
        (bif decP (okPut [.str (cut1 (itS (W (10000000000 + (d.at 0).toI)))), .str sUsed] b) then
          wnL2 wnC m r l root (putW (b, e) [.str (cut1 (itS (W (10000000000 + (d.at 0).toI)))), .str sUsed]).1 (putW (b, e) [.str (cut1 (itS (W (10000000000 + (d.at 0).toI)))), .str sUsed]).2 at_ at2 n (W (i + 1)) else none) else none) else none
    else wnEnd at_ n root (b, e) := by kernel_rfl
end
def ofR (at_ : List Dat) (e : Int) : Option Out := some (.ret (.tup [.row (some 2) 3 at_, I e]) [none])
end Go.Proofs.YtckdgcpomkefpaaGreatDoor.En
end
section
set_option linter.unusedVariables false
set_option linter.unusedSimpArgs false
set_option maxRecDepth 100000
namespace Go.Proofs.YtckdgcpomkefpaaGreatDoor.En
open Go
def catW (l : List Dat) : List Dat := l.flatMap fun d => bytesTo (d.at 0).toS
theorem putW_err : ∀ (l : List Dat) (b : List Dat) (e : Int), e ≠ 0 → putW (b, e) l = (b, e)
  | [], b, e, h => rfl
  | d :: l, b, e, h => by
    have : putS (b, e) (d.at 0).toS = (b, e) := by
      unfold putS
      have : ((b, e).2 == 0) = false := by simpa using h
      rw [this]; rfl
    show putW (putS (b, e) (d.at 0).toS) l = _
    rw [this]; exact putW_err l b e h
theorem putW_fit : ∀ (l : List Dat) (b : List Dat), b.length + (catW l).length ≤ 16777216 → putW (b, 0) l = (b ++ catW l, 0)
  | [], b, h => by simp [catW, putW]
  | d :: l, b, h => by
    have hc : catW (d :: l) = bytesTo (d.at 0).toS ++ catW l := rfl
    rw [hc, List.length_append, bytesTo_len] at h
    have : putS (b, 0) (d.at 0).toS = (b ++ bytesTo (d.at 0).toS, 0) := by
      show (bif decide (((b.length : Int) + (d.at 0).toS.size) > 16777216) then (b, (2 : Int)) else (b ++ bytesTo (d.at 0).toS, 0)) = _
      rw [decide_eq_false (by omega)]; rfl
    show putW (putS (b, 0) (d.at 0).toS) l = _
    rw [this, putW_fit l _ (by rw [List.length_append, bytesTo_len]; omega), hc, List.append_assoc]
theorem putW_no : ∀ (l : List Dat) (b : List Dat), b.length ≤ 16777216 → 16777216 < b.length + (catW l).length → (putW (b, 0) l).2 = 2
  | [], b, h0, h => by simp [catW] at h; omega
  | d :: l, b, h0, h => by
    have hc : catW (d :: l) = bytesTo (d.at 0).toS ++ catW l := rfl
    rw [hc, List.length_append, bytesTo_len] at h
    show (putW (putS (b, 0) (d.at 0).toS) l).2 = _
    have hp : putS (b, 0) (d.at 0).toS = (bif decide (((b.length : Int) + (d.at 0).toS.size) > 16777216) then (b, (2 : Int)) else (b ++ bytesTo (d.at 0).toS, 0)) := rfl
    by_cases hz : ((b.length : Int) + (d.at 0).toS.size) > 16777216
    · rw [hp, decide_eq_true hz, cond_true, putW_err _ _ _ (by decide)]
    · rw [hp, decide_eq_false hz, cond_false]
      exact putW_no l _ (by rw [List.length_append, bytesTo_len]; omega) (by rw [List.length_append, bytesTo_len]; omega)
def stuck (x : List Dat × Int) : Prop := x.1.length ≤ 16777216 ∧ x.2 = 2
theorem stuck_put {x : List Dat × Int} (h : stuck x) (l : List Dat) : stuck (putW x l) := by
  obtain ⟨b, e⟩ := x
  obtain ⟨h1, rfl⟩ := h
  rw [putW_err _ _ _ (by decide)]
  exact ⟨h1, rfl⟩
theorem stuck_obj {x : List Dat × Int} (h : stuck x) (d : Dat) : stuck (objW x d) := by
  obtain ⟨b, e⟩ := x
  obtain ⟨h1, rfl⟩ := h
  exact stuck_put ⟨h1, rfl⟩ _
theorem stuck_ent {x : List Dat × Int} (h : stuck x) (i : Int) (d : Dat) (st : Bool) (da : ByteArray) : stuck (entW x i d st da) := stuck_put (stuck_obj (stuck_put h _) _) _
def wrote (x : List Dat × Int) (b t : List Dat) : Prop := (b.length + t.length ≤ 16777216 ∧ x = (b ++ t, 0)) ∨ (16777216 < b.length + t.length ∧ stuck x)
theorem put_wrote (l b : List Dat) (h : b.length ≤ 16777216) : wrote (putW (b, 0) l) b (catW l) := by
  by_cases hf : b.length + (catW l).length ≤ 16777216
  · exact .inl ⟨hf, putW_fit l b hf⟩
  · exact .inr ⟨by omega, putW_len l _ h, putW_no l b h (by omega)⟩
theorem wrote_put {x : List Dat × Int} {b t : List Dat} (h : wrote x b t) (l : List Dat) : wrote (putW x l) b (t ++ catW l) := by
  rcases h with ⟨h1, rfl⟩ | ⟨h1, h2⟩
  · rcases put_wrote l (b ++ t) (by rw [List.length_append]; exact h1) with ⟨h3, h4⟩ | ⟨h3, h4⟩
    · exact .inl ⟨by rw [List.length_append] at h3 ⊢; omega, by rw [h4, List.append_assoc]⟩
    · exact .inr ⟨by rw [List.length_append] at h3 ⊢; omega, h4⟩
  · exact .inr ⟨by rw [List.length_append]; omega, stuck_put h2 l⟩
theorem bytesTo_append (a b : ByteArray) : bytesTo (a ++ b) = bytesTo a ++ bytesTo b := by
  unfold bytesTo
  rw [show (a ++ b).data.toList = a.data.toList ++ b.data.toList by simp, List.map_append]
theorem wrote_obj {x : List Dat × Int} {b t : List Dat} (h : wrote x b t) {d : Dat} (hd : printF d = 0) : wrote (objW x d) b (t ++ bytesTo (printS d)) := by
  have he : objW x d = putW x [.str (printS d)] := by
    unfold objW
    obtain ⟨y, e⟩ := x
    cases he : e == 0
    · rfl
    · have : e = 0 := by simpa using he
      subst this
      show putW (y, bif (0 : Int) == 0 then printF d else 0) _ = _
      rw [hd]; rfl
  rw [he]
  have := wrote_put h [.str (printS d)]
  rwa [show catW [.str (printS d)] = bytesTo (printS d) by show bytesTo (printS d) ++ [] = _; rw [List.append_nil]] at this
theorem obj_stuck {b : List Dat} (h : b.length ≤ 16777216) {d : Dat} (hd : printF d = 2) : stuck (objW (b, 0) d) := by
  have : objW (b, 0) d = putW (b, printF d) [.str (printS d)] := rfl
  rw [this, hd]
  exact stuck_put ⟨h, rfl⟩ _
theorem wrote_stuck {x : List Dat × Int} {b t : List Dat} (h : wrote x b t) {d : Dat} (hd : printF d = 2) : stuck (objW x d) := by
  rcases h with ⟨h1, rfl⟩ | ⟨_, h2⟩
  · exact obj_stuck (by rw [List.length_append]; exact h1) hd
  · exact stuck_obj h2 d
theorem ent_wrote {b : List Dat} (h : b.length ≤ 16777216) (i : Int) {d : Dat} (hd : printF d = 0) (st : Bool) (da : ByteArray) : wrote (entW (b, 0) i d st da) b (bytesTo (entS i d st da)) := by
  have h1 := put_wrote [.str (itS i), .str sObj] b h
  have h2 := wrote_obj h1 hd
  have h3 := wrote_put h2 (bif st then [.str sStr, .str da, .str sEndS] else [.str sEnd])
  have e1 : catW [.str (itS i), .str sObj] = bytesTo (itS i) ++ bytesTo sObj := by show bytesTo (itS i) ++ (bytesTo sObj ++ []) = _; rw [List.append_nil]
  have e2 : catW (bif st then [Dat.str sStr, .str da, .str sEndS] else [.str sEnd]) = bytesTo (bif st then (sStr ++ da) ++ sEndS else sEnd) := by
    cases st
    · show bytesTo sEnd ++ [] = _; rw [List.append_nil]; rfl
    · show bytesTo sStr ++ (bytesTo da ++ (bytesTo sEndS ++ [])) = bytesTo ((sStr ++ da) ++ sEndS)
      rw [bytesTo_append, bytesTo_append, List.append_nil, List.append_assoc]
  have e3 : bytesTo (entS i d st da) = (catW [.str (itS i), .str sObj] ++ bytesTo (printS d)) ++ catW (bif st then [Dat.str sStr, .str da, .str sEndS] else [.str sEnd]) := by
    unfold entS
    rw [e1, e2, bytesTo_append, bytesTo_append, bytesTo_append]
  rw [e3]; exact h3
theorem ent_stuck {b : List Dat} (h : b.length ≤ 16777216) (i : Int) {d : Dat} (hd : printF d = 2) (st : Bool) (da : ByteArray) : stuck (entW (b, 0) i d st da) := by
  unfold entW
  exact stuck_put (wrote_stuck (put_wrote _ b h) hd) _
end Go.Proofs.YtckdgcpomkefpaaGreatDoor.En
end
section
set_option linter.unusedVariables false
set_option linter.unusedSimpArgs false
set_option maxRecDepth 100000
namespace Go.Proofs.YtckdgcpomkefpaaGreatDoor.En
open Go
theorem okPr_mea {ks l : List Dat} (h : okE ks l) (n : Int) : okPr (meaK ks) (meaL l n) := by
  obtain ⟨⟨⟨f1, f2, f3⟩, z1, z2⟩, h1, h2⟩ := h
  have e4 : ((mkO 2 n false ⟨#[]⟩ [] []).at 4).toL = [] := rfl
  have e5 : ((mkO 2 n false ⟨#[]⟩ [] []).at 5).toL = [] := rfl
  refine ⟨⟨?_, ?_, fun d hd => ?_⟩, fun d hd => ?_, fun d hd => ?_⟩
  · show (ks ++ [Dat.str lenS]).length ≤ _
    rw [List.length_append, List.length_singleton]; omega
  · show (l ++ [mkO 2 n false ⟨#[]⟩ [] []]).length ≤ _
    rw [List.length_append, List.length_singleton]; omega
  · rcases List.mem_append.1 hd with hd | hd
    · exact f3 d hd
    · rw [List.mem_singleton] at hd
      subst hd
      rw [e4, e5]
      exact ⟨Nat.zero_le _, Nat.zero_le _, fun d hd => (by cases hd)⟩
  · rcases List.mem_append.1 hd with hd | hd
    · exact z1 d hd
    · rw [List.mem_singleton] at hd
      subst hd
      show lenS.size ≤ maxLen
      have : lenS.size = 6 := rfl
      unfold maxLen; omega
  · rcases List.mem_append.1 hd with hd | hd
    · exact z2 d hd
    · rw [List.mem_singleton] at hd
      subst hd
      rw [e4, e5]
      exact ⟨fun d hd => (by cases hd), fun d hd => (by cases hd)⟩
theorem findK_has (key : ByteArray) : ∀ (ks : List Dat) (j : Nat), (∀ i, findK key ks j = some i → j ≤ i ∧ i < j + ks.length) ∧ (findK key ks j).isSome = hasB key ks
  | [], j => ⟨fun i h => (by cases h), rfl⟩
  | d :: ks, j => by
    obtain ⟨h1, h2⟩ := findK_has key ks (j + 1)
    unfold findK hasB
    cases (d.at 0).toS.toList == key.toList
    · refine ⟨fun i h => ?_, h2⟩
      have := h1 i h
      rw [List.length_cons]; omega
    · refine ⟨fun i h => ?_, rfl⟩
      injection h with h
      subst h
      rw [List.length_cons]; omega
theorem getO_has {key : ByteArray} {ks l : List Dat} (h : ks.length ≤ l.length) : (getO ks l key).isSome = hasB key ks := by
  obtain ⟨h1, h2⟩ := findK_has key ks 0
  unfold getO
  rw [← h2]
  cases hf : findK key ks 0 with
  | none => rfl
  | some i =>
    have := (h1 i hf).2
    rw [Option.bind_some, List.getElem?_eq_getElem (by omega)]; rfl
theorem hasB_any (key : ByteArray) : ∀ ks : List Dat, hasB key ks = ks.any fun e => (e.at 0).toS.toList == key.toList
  | [] => rfl
  | d :: ks => by
    show (bif (d.at 0).toS.toList == key.toList then true else hasB key ks) = _
    rw [List.any_cons, hasB_any key ks]
    cases (d.at 0).toS.toList == key.toList <;> rfl
theorem keysR_snoc (x : Dat) : ∀ (r pre : List Dat), keysR pre (r ++ [x]) = (keysR pre r && (namedB (x.at 0).toS && !((pre ++ r).any fun e => eqK e x)))
  | [], pre => by
    show (namedB (x.at 0).toS && (!(pre.any fun e => eqK e x) && true)) = (true && _)
    rw [List.append_nil, Bool.and_true, Bool.true_and]
  | d :: r, pre => by
    show (namedB (d.at 0).toS && (!(pre.any fun e => eqK e d) && keysR (pre ++ [d]) (r ++ [x]))) = ((namedB (d.at 0).toS && (!(pre.any fun e => eqK e d) && keysR (pre ++ [d]) r)) && _)
    rw [keysR_snoc x r (pre ++ [d]), List.append_assoc, List.singleton_append]
    simp only [Bool.and_assoc]
theorem itemsG_snoc {f : Dat → Int → Int} (x : Dat) : ∀ (l : List Dat) (n : Int), 0 ≤ n → itemsG f (l ++ [x]) n = bif decide (itemsG f l n < 0) then -1 else (bif decide (f x (itemsG f l n) < 0) then -1 else f x (itemsG f l n))
  | [], n, h => by
    show (bif decide (f x n < 0) then -1 else f x n) = bif decide (n < 0) then -1 else _
    rw [decide_eq_false (show ¬ n < 0 by omega)]; rfl
  | d :: l, n, h => by
    show (bif decide (f d n < 0) then -1 else itemsG f (l ++ [x]) (f d n)) = bif decide ((bif decide (f d n < 0) then -1 else itemsG f l (f d n)) < 0) then -1 else _
    by_cases hd : f d n < 0
    · rw [decide_eq_true hd]; rfl
    · have e : itemsG f (d :: l) n = itemsG f l (f d n) := by
        show (bif decide (f d n < 0) then -1 else itemsG f l (f d n)) = _
        rw [decide_eq_false hd]; rfl
      rw [e, decide_eq_false hd, cond_false, cond_false, itemsG_snoc x l (f d n) (by omega)]
theorem good_num {v : Int} (hv : inB v = true) (nest c : Int) : goodO 100 (mkO 2 v false ⟨#[]⟩ [] []) nest c = bif decide (c + 1 > 65536) then -1 else c + 1 := by
  have hf : flatD (mkO 2 v false ⟨#[]⟩ [] []) = true := by
    show (!bareB 2 v false ⟨#[]⟩ [] [] && kindB 2 v ⟨#[]⟩ [] []) = true
    have h1 : bareB 2 v false ⟨#[]⟩ [] [] = false := by simp [bareB]
    have h2 : kindB 2 v ⟨#[]⟩ [] [] = true := hv
    rw [h1, h2]; rfl
  show (bif decide (c + 1 > 65536) || !flatD (mkO 2 v false ⟨#[]⟩ [] []) then -1 else _) = _
  rw [hf, Bool.not_true, Bool.or_false]
  rfl
theorem good_mea {n v : Int} {b : Bool} {s : ByteArray} {ks l : List Dat} (hg : goodO 101 (mkO 7 n b s ks l) 0 0 > 0) (hk : hasB lenS ks = false) (hv : inB v = true) :
    ks.length = l.length ∧ decide (goodO 101 (mkO 7 n b s (meaK ks) (meaL l v)) 0 0 > 0) = decide (goodO 101 (mkO 7 n b s ks l) 0 0 < 65536) := by
  have hsz : ∀ ks l, goodO 101 (mkO 7 n b s ks l) 0 0 = bif !flatD (mkO 7 n b s ks l) then -1 else itemsG (fun e n => goodO 100 e 1 n) l 1 := fun ks l => by
    show (bif decide ((0 : Int) + 1 > 65536) || !flatD (mkO 7 n b s ks l) then -1 else (bif (7 : Int) == 6 || (7 : Int) == 7 then (bif decide ((0 : Int) + 1 > 32) then -1 else itemsG (fun e n => goodO 100 e (0 + 1) n) l (0 + 1)) else _)) = _
    rfl
  have hfl : flatD (mkO 7 n b s ks l) = true := by
    rw [hsz] at hg
    cases hf : flatD (mkO 7 n b s ks l)
    · rw [hf] at hg
      simp at hg
    · rfl
  have hbare : ∀ ks l ks' l', bareB 7 n b s ks l = bareB 7 n b s ks' l' := fun ks l ks' l' => by simp [bareB]
  have hfd : ∀ ks l, flatD (mkO 7 n b s ks l) = (!bareB 7 n b s ks l && (bif ((ks.length : Int) != l.length) then false else keysR [] ks)) := fun ks l => rfl
  have hfl0 := hfl
  rw [hfd, Bool.and_eq_true] at hfl
  obtain ⟨hb, hkk⟩ := hfl
  have hlen : ks.length = l.length := by
    cases hq : ((ks.length : Int) != l.length)
    · have : (ks.length : Int) = l.length := by simpa using hq
      omega
    · rw [hq] at hkk; cases hkk
  have hkeys : keysR [] ks = true := by
    rw [show ((ks.length : Int) != l.length) = false by simp [hlen]] at hkk
    exact hkk
  have hfl' : flatD (mkO 7 n b s (meaK ks) (meaL l v)) = true := by
    rw [hfd, hbare (meaK ks) (meaL l v) ks l, hb]
    have e1 : (((meaK ks).length : Int) != (meaL l v).length) = false := by
      have : (meaK ks).length = (meaL l v).length := by unfold meaK meaL; rw [List.length_append, List.length_append, hlen]; rfl
      rw [this]; simp
    rw [e1]
    show (true && keysR [] (ks ++ [Dat.str lenS])) = true
    rw [keysR_snoc, hkeys, List.nil_append]
    have e2 : (ks.any fun e => eqK e (.str lenS)) = hasB lenS ks := (hasB_any lenS ks).symm
    rw [e2, hk]
    have e3 : namedB ((Dat.str lenS).at 0).toS = true := by decide
    rw [e3]; rfl
  refine ⟨hlen, ?_⟩
  rw [hsz (meaK ks) (meaL l v), hsz ks l, hfl', hfl0]
  rw [hsz, hfl0] at hg
  simp only [Bool.not_true, cond_false] at hg ⊢
  show decide (itemsG _ (l ++ [mkO 2 v false ⟨#[]⟩ [] []]) 1 > 0) = _
  rw [itemsG_snoc _ _ _ (by decide)]
  generalize itemsG (fun e n => goodO 100 e 1 n) l 1 = c at hg ⊢
  rw [decide_eq_false (show ¬ c < 0 by omega), cond_false, good_num hv]
  by_cases h : c + 1 > 65536
  · rw [decide_eq_true h]
    simp
    omega
  · rw [decide_eq_false h, cond_false, decide_eq_false (show ¬ c + 1 < 0 by omega), cond_false, decide_eq_true (show c + 1 > 0 by omega), decide_eq_true (show c < 65536 by omega)]
def pbadB (d : Dat) : Bool := !(ogO 101 (nrm d) 32 65536).1 || ((!(d.at 6).toB && !((d.at 7).toS.toList == (⟨#[]⟩ : ByteArray).toList)) || ((d.at 6).toB && !stmB (d.at 0).toI (d.at 2).toI (d.at 1).toB (d.at 3).toS (d.at 4).toL (d.at 5).toL))
theorem bad_eq (d : Dat) : pbadB d = rbadB d := by
  have hge : (ogO 101 (nrm d) 32 65536).1 = decide (goodO 101 (nrm d) 0 0 > 0) := Good_eq
  unfold pbadB rbadB
  rw [hge]
  have hne := goodO_ne 101 (nrm d) 0 0 (by decide)
  by_cases hg : goodO 101 (nrm d) 0 0 > 0
  · rw [decide_eq_true hg, decide_eq_false (show ¬ goodO 101 (nrm d) 0 0 < 0 by omega), Bool.not_true, Bool.false_or, Bool.false_or]
    congr 1
    congr 1
    unfold stmB
    by_cases h7 : (d.at 0).toI = 7
    · rw [h7]
      have e0 : nrm d = mkO 7 (d.at 2).toI (d.at 1).toB (d.at 3).toS (d.at 4).toL (d.at 5).toL := by unfold nrm; rw [h7]
      rw [e0] at hg ⊢
      cases hh : hasB lenS (d.at 4).toL
      · obtain ⟨hl, hm⟩ := good_mea (v := 0) hg hh (by decide)
        rw [hm]
        show (!((true && !(getO (d.at 4).toL (d.at 5).toL lenS).isSome) && _)) = (false || (false || _))
        rw [getO_has (by omega), hh]
        generalize goodO 101 (mkO 7 (d.at 2).toI (d.at 1).toB (d.at 3).toS (d.at 4).toL (d.at 5).toL) 0 0 = c
        by_cases hc : c < 65536
        · rw [decide_eq_true hc, decide_eq_false (show ¬ c - 1 ≥ 65535 by omega)]; rfl
        · rw [decide_eq_false hc, decide_eq_true (show c - 1 ≥ 65535 by omega)]; rfl
      · have hl : (d.at 4).toL.length = (d.at 5).toL.length := by
          have hf : flatD (mkO 7 (d.at 2).toI (d.at 1).toB (d.at 3).toS (d.at 4).toL (d.at 5).toL) = true := by
            cases hf : flatD (mkO 7 (d.at 2).toI (d.at 1).toB (d.at 3).toS (d.at 4).toL (d.at 5).toL)
            · have : goodO 101 (mkO 7 (d.at 2).toI (d.at 1).toB (d.at 3).toS (d.at 4).toL (d.at 5).toL) 0 0 = -1 := by
                show (bif decide ((0 : Int) + 1 > 65536) || !flatD (mkO 7 (d.at 2).toI (d.at 1).toB (d.at 3).toS (d.at 4).toL (d.at 5).toL) then (-1 : Int) else _) = -1
                rw [hf]; rfl
              omega
            · rfl
          have hfd : flatD (mkO 7 (d.at 2).toI (d.at 1).toB (d.at 3).toS (d.at 4).toL (d.at 5).toL) = (!bareB 7 (d.at 2).toI (d.at 1).toB (d.at 3).toS (d.at 4).toL (d.at 5).toL && (bif (((d.at 4).toL.length : Int) != (d.at 5).toL.length) then false else keysR [] (d.at 4).toL)) := rfl
          rw [hfd, Bool.and_eq_true] at hf
          have h2 := hf.2
          cases hq : (((d.at 4).toL.length : Int) != (d.at 5).toL.length)
          · have : ((d.at 4).toL.length : Int) = (d.at 5).toL.length := by simpa using hq
            omega
          · rw [hq] at h2; cases h2
        show (!((true && !(getO (d.at 4).toL (d.at 5).toL lenS).isSome) && _)) = (false || (true || _))
        rw [getO_has (by omega), hh]; rfl
    · have e7 : ((d.at 0).toI == 7) = false := by simpa using h7
      have e7' : ((d.at 0).toI != 7) = true := by simpa using h7
      rw [e7, e7']; rfl
  · rw [decide_eq_false hg, decide_eq_true (show goodO 101 (nrm d) 0 0 < 0 by omega)]; rfl
end Go.Proofs.YtckdgcpomkefpaaGreatDoor.En
end
section
set_option linter.unusedVariables false
set_option linter.unusedSimpArgs false
set_option maxRecDepth 100000
namespace Go.Proofs.YtckdgcpomkefpaaGreatDoor.En
open Go
theorem sound_addX {ext : CallF} {takes : FuncId → Option Nat} (hext : SoundCall PR ext) (f : FuncId) {fn : Func} (hf : PR.funcs[f]? = some fn) (hok : okFn PR fn = true) (ent : List AV → Bx → Option (Bool × Out))
    (h : ∀ xs bs out, ent xs bs = some (true, out) → ∃ call, SoundCall PR call ∧ ∃ n, evFn PR takes call n f xs bs = some out) : SoundCall PR (addF f ent ext) := fun g xs bs out ho => by
  unfold addF at ho
  cases hg : Nat.beq g f <;> rw [hg] at ho <;> simp only [cond_true, cond_false] at ho
  · exact hext g xs bs out ho
  · have e : g = f := Nat.eq_of_beq_eq_true hg
    subst e
    obtain ⟨call, hc, n, hn⟩ := h xs bs out ho
    obtain ⟨h1, h2⟩ := sound_fn hmixP hc hf hok hn
    refine ⟨h1, fun gh w vs a1 aL a2 a3 a4 => ?_⟩
    have := h2 gh w vs a1 aL a2 a3 a4
    cases out <;> exact this
theorem okO_of {ks l : List Dat} (h : okPr ks l) : okO' 101 ks l 32 65536 := ⟨h.1, h.2, by decide, by decide, by decide, by decide⟩
theorem okG_of {ks l : List Dat} (h : okPr ks l) : okG 101 ks l 0 0 := ⟨h.1, by decide, by decide, by decide, by decide⟩
theorem stm_sound {ext : CallF} (hext : SoundCall PR ext) : SoundCall PR (addF 41 stmE ext) := by
  refine sound_both (sound_add (takes := TK) hmixP stC_sound _ (fn := (PR.funcs[41]?).getD default) (by kernel_rfl) (by kernel_rfl) stmE fun xs bs out h => ?_) hext
  unfold stmE at h
  split at h
  · rename_i k1 b1 n1 s1 ks1 l1
    injection h with h
    injection h with h1 h2
    subst h2
    have h1 := decP_of h1
    have h3 := okPr_mea h1 0
    refine ⟨1, (stm_0 _ _ _ _ _ _ _).trans ?_⟩
    rw [Nat.ble_eq_true_of_le (show ks1.length ≤ 1000000 by have := h1.2.1; omega), Nat.ble_eq_true_of_le (show l1.length ≤ 1000000 by have := h1.2.2; omega), decP_eq (okO_of h3), Good_eq, andK_eq]
    unfold stmB
    cases ((k1 == 7) && !(bif k1 == 7 then getO ks1 l1 lenS else none).isSome) <;> rfl
  · cases h
theorem has_loop {call : CallF} {m : Nat} {k1 n1 : Int} {b1 : Bool} {s1 key : ByteArray} {ks1 l1 : List Dat} (hf : ks1.length ≤ 1000000) :
    ∀ (n i r : Nat), i + n = ks1.length → n < r → hasL call m r k1 n1 b1 s1 key ks1 l1 (i : Int) = bR (hasB key (ks1.drop i)) := by
  intro n
  induction n with
  | zero =>
    intro i r hi hr
    cases r with
    | zero => omega
    | succ r =>
      rw [has_1, show decide ((i : Int) < ks1.length) = false from decide_eq_false (by omega), List.drop_eq_nil_of_le (by omega)]
      rfl
  | succ n ih =>
    intro i r hi hr
    cases r with
    | zero => omega
    | succ r =>
      have h1 : i < ks1.length := by omega
      have ih := ih (i + 1) r (by omega) (by omega)
      rw [show ((i + 1 : Nat) : Int) = (i : Int) + 1 by omega] at ih
      rw [has_1, show decide ((i : Int) < ks1.length) = true from decide_eq_true (by omega), idx_at h1, W_in (n := (i : Int) + 1) (by omega), ih, List.drop_eq_getElem_cons h1]
      simp only [cond_true, Option.bind_some, hasB]
      cases ((ks1[i].at 0).toS.toList == key.toList) <;> rfl
theorem has_sound {ext : CallF} (hext : SoundCall PR ext) : SoundCall PR (addF 42 hasE ext) := by
  refine sound_add (takes := TK) hmixP hext _ (fn := (PR.funcs[42]?).getD default) (by kernel_rfl) (by kernel_rfl) hasE fun xs bs out h => ?_
  unfold hasE at h
  split at h
  · injection h with h
    injection h with h1 h2
    subst h2
    rename_i k1 b1 n1 s1 ks1 l1 key
    have hf := Nat.le_of_ble_eq_true h1
    refine ⟨1000001, (has_0 _ _ _ _ _ _ _ _ _).trans ?_⟩
    have e := has_loop (call := ext) (m := 1000001) (k1 := k1) (n1 := n1) (b1 := b1) (s1 := s1) (key := key) (l1 := l1) hf ks1.length 0 1000001 (by omega) (by omega)
    rw [List.drop_zero] at e
    exact e
  · cases h
theorem chkC_sound : SoundCall PR chkC := sound_both Good_sound (stm_sound sound_none)
theorem chk_loop {m : Nat} {l : List Dat} {root : Int} (hl : l.length ≤ 1000000) (hk : okF l) :
    ∀ (n i r : Nat), i + n = l.length → n < r → chkL chkC m r l root (i : Int) = iR (bif (l.drop i).any rbadB then 50 else 0) := by
  intro n
  induction n with
  | zero =>
    intro i r hi hr
    cases r with
    | zero => omega
    | succ r =>
      rw [chk_1, show decide ((i : Int) < l.length) = false from decide_eq_false (by omega), List.drop_eq_nil_of_le (by omega)]
      rfl
  | succ n ih =>
    intro i r hi hr
    cases r with
    | zero => omega
    | succ r =>
      have h1 : i < l.length := by omega
      have ih := ih (i + 1) r (by omega) (by omega)
      rw [show ((i + 1 : Nat) : Int) = (i : Int) + 1 by omega] at ih
      have hd := hk _ (List.getElem_mem h1)
      rw [chk_1, show decide ((i : Int) < l.length) = true from decide_eq_true (by omega), idx_at h1, W_in (n := (i : Int) + 1) (by omega), ih, List.drop_eq_getElem_cons h1]
      simp only [cond_true, Option.bind_some]
      rw [decP_eq (okO_of hd.1), decP_eq hd]
      simp only [andK_eq, andO_eq, orO_eq, cond_true]
      rw [List.any_cons, ← bad_eq l[i]]
      show (bif _ then iR 50 else _) = iR (bif pbadB l[i] || _ then 50 else 0)
      have e : pbadB l[i] = ((!(ogO 101 (nrm l[i]) 32 65536).1 || (!(l[i].at 6).toB && !((l[i].at 7).toS.toList == (⟨#[]⟩ : ByteArray).toList))) || ((l[i].at 6).toB && !stmB (l[i].at 0).toI (l[i].at 2).toI (l[i].at 1).toB (l[i].at 3).toS (l[i].at 4).toL (l[i].at 5).toL)) := by
        unfold pbadB; rw [Bool.or_assoc]
      rw [← e]
      cases pbadB l[i] <;> rfl
theorem chkF_eq {l : List Dat} {root : Int} (X : Option Out) (h : ((((l.length : Int) == 0 || decide ((l.length : Int) > 4096)) || decide (root < 1)) || decide (root > l.length)) = false → l.length ≤ 4096 → X = iR (bif l.any rbadB then 50 else 0)) :
    (orK ((l.length : Int) == 0) (decide ((l.length : Int) > 4096)) fun t => orK t (decide (root < 1)) fun t => orK t (decide (root > l.length)) fun t => bif t then iR 1 else X) = iR (chkF l root) := by
  simp only [orK_eq]
  unfold chkF
  cases hc : (((l.length : Int) == 0 || decide ((l.length : Int) > 4096)) || decide (root < 1)) || decide (root > l.length)
  · refine h hc ?_
    have : decide ((l.length : Int) > 4096) = false := by
      simp only [Bool.or_eq_false_iff] at hc
      exact hc.1.1.2
    have := of_decide_eq_false this
    omega
  · rfl
theorem check_sound {ext : CallF} (hext : SoundCall PR ext) : SoundCall PR (addF 17 checkE ext) := by
  refine sound_both (sound_add (takes := TK) hmixP chkC_sound _ (fn := (PR.funcs[17]?).getD default) (by kernel_rfl) (by kernel_rfl) checkE fun xs bs out h => ?_) hext
  unfold checkE at h
  split at h
  · rename_i l root
    injection h with h
    injection h with h1 h2
    subst h2
    have hk := decP_of h1
    refine ⟨1000001, (chk_0 _ _ _ _).trans (chkF_eq _ fun _ hl => ?_)⟩
    have e := chk_loop (m := 1000001) (root := root) (by omega) hk l.length 0 1000001 (by omega) (by omega)
    rw [List.drop_zero] at e
    exact e
  · cases h
theorem rchkC_sound : SoundCall PR rchkC := sound_both count_sound (has_sound sound_none)
theorem rchk_loop {m : Nat} {l : List Dat} {root : Int} (hl : l.length ≤ 1000000) (hk : okF l) :
    ∀ (n i r : Nat), i + n = l.length → n < r → rchkL rchkC m r l root (i : Int) = iR (bif (l.drop i).any rbadB then 50 else 0) := by
  intro n
  induction n with
  | zero =>
    intro i r hi hr
    cases r with
    | zero => omega
    | succ r =>
      rw [rchk_1, show decide ((i : Int) < l.length) = false from decide_eq_false (by omega), List.drop_eq_nil_of_le (by omega)]
      rfl
  | succ n ih =>
    intro i r hi hr
    cases r with
    | zero => omega
    | succ r =>
      have h1 : i < l.length := by omega
      have ih := ih (i + 1) r (by omega) (by omega)
      rw [show ((i + 1 : Nat) : Int) = (i : Int) + 1 by omega] at ih
      have hd := hk _ (List.getElem_mem h1)
      have hb := goodO_bd 101 (nrm l[i]) 0 0 (by decide)
      rw [rchk_1, show decide ((i : Int) < l.length) = true from decide_eq_true (by omega), idx_at h1, W_in (n := (i : Int) + 1) (by omega), ih, List.drop_eq_getElem_cons h1]
      simp only [cond_true, Option.bind_some]
      rw [decP_eq (okG_of hd.1), Nat.ble_eq_true_of_le (show (l[i].at 4).toL.length ≤ 1000000 by have := hd.2.1; omega), W_in (n := goodO 101 (nrm l[i]) 0 0 - 1) (by omega)]
      simp only [andK_eq, andO_eq, orO_eq, cond_true]
      rw [List.any_cons]
      have e : rbadB l[i] = ((decide (goodO 101 (nrm l[i]) 0 0 < 0) || (!(l[i].at 6).toB && !((l[i].at 7).toS.toList == (⟨#[]⟩ : ByteArray).toList))) || ((l[i].at 6).toB && ((((l[i].at 0).toI != 7) || hasB lenS (l[i].at 4).toL) || decide (goodO 101 (nrm l[i]) 0 0 - 1 ≥ 65535)))) := by
        unfold rbadB; simp only [Bool.or_assoc]
      rw [← e]
      cases rbadB l[i] <;> rfl
theorem rcheck_sound {ext : CallF} (hext : SoundCall PR ext) : SoundCall PR (addF 18 checkE ext) := by
  refine sound_both (sound_add (takes := TK) hmixP rchkC_sound _ (fn := (PR.funcs[18]?).getD default) (by kernel_rfl) (by kernel_rfl) checkE fun xs bs out h => ?_) hext
  unfold checkE at h
  split at h
  · rename_i l root
    injection h with h
    injection h with h1 h2
    subst h2
    have hk := decP_of h1
    refine ⟨1000001, (rchk_0 _ _ _ _).trans ?_⟩
    have e0 : decide ((l.length : Int) < 1) = ((l.length : Int) == 0) := by
      by_cases h : l.length = 0
      · rw [h]; rfl
      · rw [decide_eq_false (by omega)]
        symm
        simpa using h
    rw [e0]
    refine chkF_eq _ fun _ hl => ?_
    have e := rchk_loop (m := 1000001) (root := root) (by omega) hk l.length 0 1000001 (by omega) (by omega)
    rw [List.drop_zero] at e
    exact e
  · cases h
end Go.Proofs.YtckdgcpomkefpaaGreatDoor.En
end
section
set_option linter.unusedVariables false
set_option linter.unusedSimpArgs false
set_option maxRecDepth 100000
namespace Go.Proofs.YtckdgcpomkefpaaGreatDoor.En
open Go Go.RowKit
def ksO : List CK := [.int .i64, .bool, .int .i64, .str, .row 9, .row 43]
theorem kinds_O : kinds PR 43 = some ksO := by kernel_rfl
theorem kinds_S : kinds PR 9 = some [.str] := by kernel_rfl
theorem bytes_O : PR.bytesOf 43 = 88 := by kernel_rfl
theorem bytes_S : PR.bytesOf 9 = 16 := by kernel_rfl
theorem reach_le : reachBytes ≤ 140737488355328 := of_decide_eq_true (by kernel_rfl)
theorem sz_str {d : Dat} (h : Sz PR .str d) : d.toS.size ≤ 140737488355328 := by
  cases h with
  | str d h => exact Nat.le_trans h reach_le
theorem sz_keys {d : Dat} (h : Sz PR (.row 9) d) : d.toL.length ≤ 140737488355328 ∧ ∀ e ∈ d.toL, (e.at 0).toS.size ≤ 140737488355328 := by
  cases h with
  | row E ks d hk hl hc =>
    rw [bytes_S] at hl
    rw [kinds_S] at hk
    cases hk
    refine ⟨?_, fun e he => sz_str (hc e he 0 .str rfl)⟩
    have := reach_le
    omega
theorem fitZ_of {s : ByteArray} {ks l : List Dat} (hs : s.size ≤ 140737488355328) (hk : ks.length ≤ 140737488355328 ∧ ∀ e ∈ ks, (e.at 0).toS.size ≤ 140737488355328) : ∀ (n : Nat) (d : Dat), l = d.toL → Sz PR (.row 43) d → fitZ n s ks l := by
  intro n
  induction n generalizing s ks l with
  | zero => intro d _ _; trivial
  | succ n ih =>
    intro d e h
    subst e
    cases h with
    | row E ks' d hk' hl hc =>
      rw [bytes_O] at hl
      rw [kinds_O] at hk'
      cases hk'
      have := reach_le
      refine ⟨hs, hk.1, by omega, hk.2, fun e he => ?_⟩
      exact ih (sz_str (hc e he 3 .str rfl)) (sz_keys (hc e he 4 _ rfl)) (e.at 5) rfl (hc e he 5 _ rfl)
end Go.Proofs.YtckdgcpomkefpaaGreatDoor.En
end
section
set_option linter.unusedVariables false
set_option linter.unusedSimpArgs false
set_option maxRecDepth 100000
namespace Go.Proofs.YtckdgcpomkefpaaGreatDoor.En
open Go Go.RowKit
section
variable (m : Nat) (k1 n1 k2 n2 : Int) (b1 b2 : Bool) (s1 s2 : ByteArray) (ks1 l1 ks2 l2 : List Dat)
end
theorem flatB_len {k1 n1 : Int} {b1 : Bool} {s1 : ByteArray} {ks1 l1 l2 : List Dat} (h : l1.length = l2.length) : flatB k1 n1 b1 s1 ks1 l1 = flatB k1 n1 b1 s1 ks1 l2 := by
  unfold flatB bareB kindB
  rw [h]
theorem goodO_copy : ∀ (k : Nat) (d : Dat) (nest ahead : Int), goodO k (copyO k d) nest ahead = goodO k d nest ahead
  | 0, d, nest, ahead => rfl
  | k + 1, d, nest, ahead => by
    have hl : ∀ (nest : Int) (l : List Dat) (n : Int), itemsG (fun e n => goodO k e nest n) (l.map (copyO k)) n = itemsG (fun e n => goodO k e nest n) l n := fun nest l => by
      induction l with
      | nil => intro n; rfl
      | cons d l ih =>
        intro n
        rw [List.map_cons]
        show (bif decide (goodO k (copyO k d) nest n < 0) then -1 else itemsG (fun e n => goodO k e nest n) (l.map (copyO k)) (goodO k (copyO k d) nest n)) = (bif decide (goodO k d nest n < 0) then -1 else itemsG (fun e n => goodO k e nest n) l (goodO k d nest n))
        rw [goodO_copy k d, ih]
    have hf : flatD (copyO (k + 1) d) = flatD d := flatB_len (by show ((d.at 5).toL.map (copyO k)).length = _; rw [List.length_map])
    unfold goodO
    rw [hf]
    show (bif decide (ahead + 1 > 65536) || !flatD d then -1 else bif (d.at 0).toI == 6 || (d.at 0).toI == 7 then (bif decide (nest + 1 > 32) then -1 else itemsG (fun e n => goodO k e (nest + 1) n) ((d.at 5).toL.map (copyO k)) (ahead + 1)) else itemsG (fun e n => goodO k e nest n) ((d.at 5).toL.map (copyO k)) (ahead + 1)) = _
    rw [hl, hl]
theorem keyZ_copy : ∀ (k j : Nat) (ks l : List Dat), keyZ k ks l → keyZ k ks (l.map (copyO j))
  | 0, j, ks, l, h => trivial
  | k + 1, j, ks, l, h => by
    refine ⟨h.1, fun e he => ?_⟩
    obtain ⟨d, hd, rfl⟩ := List.mem_map.1 he
    have := h.2 d hd
    cases j with
    | zero => exact this
    | succ j => exact keyZ_copy k j (d.at 4).toL (d.at 5).toL this
theorem keyZ_of : ∀ (k : Nat) (s : ByteArray) (ks l : List Dat), fitZ k s ks l → keyZ k ks l
  | 0, s, ks, l, _ => trivial
  | k + 1, s, ks, l, h => by
    obtain ⟨h1, h2, h3, h4, h5⟩ := h
    exact ⟨fun d hd => Nat.le_trans (h4 d hd) (by unfold maxLen; decide), fun d hd => keyZ_of k _ _ _ (h5 d hd)⟩
end Go.Proofs.YtckdgcpomkefpaaGreatDoor.En
end
section
set_option linter.unusedVariables false
set_option linter.unusedSimpArgs false
set_option maxRecDepth 100000
namespace Go.Proofs.YtckdgcpomkefpaaGreatDoor.En
open Go Go.RowKit
section
variable (m : Nat) (k1 n1 : Int) (b1 : Bool) (s1 : ByteArray) (ks1 l1 : List Dat)
end
theorem txtO_copy : ∀ (k : Nat) (d : Dat), txtO k (copyO k d) = txtO k d
  | 0, d => rfl
  | k + 1, d => by
    have h1 : ∀ (l : List Dat) (first : Bool), sepT (txtO k) first (l.map (copyO k)) = sepT (txtO k) first l := fun l => by
      induction l with
      | nil => intro _; rfl
      | cons d l ih => intro first; rw [List.map_cons, sepT_cons, sepT_cons, txtO_copy k d, ih]
    have h2 : ∀ (ks l : List Dat) (first : Bool), dicT (txtO k) first ks (l.map (copyO k)) = dicT (txtO k) first ks l := fun ks => by
      induction ks with
      | nil => intro l first; cases l <;> rfl
      | cons key ks ih =>
        intro l first
        cases l with
        | nil => rfl
        | cons d l => rw [List.map_cons, dicT_cons, dicT_cons, txtO_copy k d, ih]
    show txtK (txtO k) (d.at 0).toI (d.at 2).toI (d.at 1).toB (d.at 3).toS (d.at 4).toL ((d.at 5).toL.map (copyO k)) = txtK (txtO k) (d.at 0).toI (d.at 2).toI (d.at 1).toB (d.at 3).toS (d.at 4).toL (d.at 5).toL
    unfold txtK
    rw [h1, h2]
end Go.Proofs.YtckdgcpomkefpaaGreatDoor.En
end
section
set_option linter.unusedVariables false
set_option linter.unusedSimpArgs false
set_option maxRecDepth 100000
namespace Go.Proofs.YtckdgcpomkefpaaGreatDoor.En
open Go
theorem printS_copy (d : Dat) : printS (copyO 101 d) = printS d := by unfold printS; rw [goodO_copy, txtO_copy]
theorem printF_copy (d : Dat) : printF (copyO 101 d) = printF d := by unfold printF; rw [goodO_copy, txtO_copy]
theorem mea_copy (k n : Int) (b : Bool) (s : ByteArray) (ks l : List Dat) (v : Int) : mkO k n b s (meaK ks) (meaL (l.map (copyO 100)) v) = copyO 101 (mkO k n b s (meaK ks) (meaL l v)) := by
  show _ = mkO k n b s (meaK ks) ((meaL l v).map (copyO 100))
  unfold meaL
  rw [List.map_append]
  rfl
theorem okE_copy {ks l : List Dat} (h : okE ks l) : okE ks (l.map (copyO 100)) := by
  obtain ⟨⟨f, z⟩, h1, h2⟩ := h
  exact ⟨⟨fitO_copy 101 (mkO 0 0 false ⟨#[]⟩ ks l) f, keyZ_copy 101 100 ks l z⟩, h1, by rw [List.length_map]; exact h2⟩
theorem rentC_sound : SoundCall PR rentC := sound_both (copy_sound sound_none 101) (sound_both (rprint_sound sound_none) (sound_both dc_sound sound_none))
theorem rent_sound {ext : CallF} (hext : SoundCall PR ext) : SoundCall PR (addF 39 rentE ext) := by
  refine sound_both (sound_add (takes := TK) hmixP rentC_sound _ (fn := (PR.funcs[39]?).getD default) (by kernel_rfl) (by kernel_rfl) rentE fun xs bs out h => ?_) hext
  unfold rentE at h
  split at h
  · rename_i i k1 b1 n1 s1 ks1 l1 st da
    injection h with h
    injection h with h1 h2
    subst h2
    obtain ⟨p1, p2, p3⟩ := decP_of h1
    have hi := (itS_size i).1
    have hz1 : sObj.size = 7 := rfl
    have hz2 : sEnd.size = 8 := rfl
    have hz3 : sStr.size = 8 := rfl
    have hz4 : sEndS.size = 18 := rfl
    refine ⟨1, ?_⟩
    cases st
    · refine (rent_0 _ _ _ _ _ _ _ _ _).trans ?_
      have hp := printS_size (mkO k1 n1 b1 s1 ks1 l1)
      rw [decP_eq p1.1, p3, cond_true, cond_true, glueO_eq _ (by omega), glueO_eq _ (by rw [ByteArray.size_append]; omega), glueO_eq _ (by rw [ByteArray.size_append, ByteArray.size_append]; omega)]
      rfl
    · refine (rent_1 _ _ _ _ _ _ _ _ _).trans ?_
      have hq := okPr_mea (okE_copy p1) da.size
      rw [fitB_eq p1.1.1, fits_ble (by have := p1.2.1; omega), fits_ble (by rw [List.length_map]; have := p1.2.2; omega), cond_true, cond_true, cond_true, glueO_eq _ (by omega), glueO_eq _ (by rw [ByteArray.size_append]; omega), decP_eq hq, p3, cond_true, cond_true, mea_copy, printS_copy, printF_copy]
      have hp := printS_size (mkO k1 n1 b1 s1 (meaK ks1) (meaL l1 da.size))
      rw [glueO_eq _ (by omega), glueO_eq _ (by rw [ByteArray.size_append]; omega), glueO_eq _ (by simp only [ByteArray.size_append]; omega)]
      rfl
  · cases h
theorem tenT_size (n : Int) : (tenT n).size = 10 := by
  unfold tenT X.tenS
  show ((List.range 10).map _).toArray.size = 10
  simp
theorem usedW_len : ∀ (l b : List Dat), (usedW b l).length = b.length + 20 * l.length
  | [], b => by simp [usedW]
  | d :: l, b => by
    show (usedW ((b ++ bytesTo (tenT (d.at 0).toI)) ++ bytesTo sUsed) l).length = _
    rw [usedW_len l, List.length_append, List.length_append, bytesTo_len, bytesTo_len, tenT_size, List.length_cons]
    have : sUsed.size = 10 := rfl
    omega
def tlEnd (root start : Int) (s : ByteArray) (b : List Dat) : ByteArray := ((((((bytesOf b ++ sTrail) ++ s) ++ sRoot) ++ itS root) ++ sStart) ++ itS start) ++ sEof
theorem tlEnd_size {root start : Int} {s : ByteArray} {b : List Dat} (hs : s.size ≤ 21) : (tlEnd root start s b).size ≤ b.length + 200 := by
  unfold tlEnd
  simp only [ByteArray.size_append, bytesOf_size]
  have h1 := (itS_size root).1
  have h2 := (itS_size start).1
  have e1 : sTrail.size = 16 := rfl
  have e2 : sRoot.size = 7 := rfl
  have e3 : sStart.size = 17 := rfl
  have e4 : sEof.size = 7 := rfl
  omega
theorem tl_loop {m : Nat} {at_ : List Dat} {root start : Int} {s : ByteArray} (hl : at_.length ≤ 5000) (ht : ∀ d ∈ at_, tenB (d.at 0).toI = true) (hr : dcB root = true) (hst : dcB start = true) (hs : s.size ≤ 21) :
    ∀ (n i r : Nat) (b : List Dat), i + n = at_.length → n < r → b.length ≤ 100 + 20 * i → tlL tlC m r at_ b root start s (i : Int) = tlR (tlEnd root start s (usedW b (at_.drop i))) := by
  intro n
  induction n with
  | zero =>
    intro i r b hi hr' hb
    cases r with
    | zero => omega
    | succ r =>
      have e1 : sTrail.size = 16 := rfl
      have e2 : sRoot.size = 7 := rfl
      have e3 : sStart.size = 17 := rfl
      have e4 : sEof.size = 7 := rfl
      have h1 := (itS_size root).1
      have h2 := (itS_size start).1
      rw [tl_1, show decide ((i : Int) < at_.length) = false from decide_eq_false (by omega), List.drop_eq_nil_of_le (by omega), cond_false]
      have hbs := bytesOf_size b
      rw [glueO_eq _ (by omega), glueO_eq _ (by simp only [ByteArray.size_append]; omega), glueO_eq _ (by simp only [ByteArray.size_append]; omega), hr, cond_true, glueO_eq _ (by simp only [ByteArray.size_append]; omega), glueO_eq _ (by simp only [ByteArray.size_append]; omega), hst, cond_true, glueO_eq _ (by simp only [ByteArray.size_append]; omega), glueO_eq _ (by simp only [ByteArray.size_append]; omega)]
      rfl
  | succ n ih =>
    intro i r b hi hr' hb
    cases r with
    | zero => omega
    | succ r =>
      have h1 : i < at_.length := by omega
      have ht1 := ht _ (List.getElem_mem h1)
      have hz : sUsed.size = 10 := rfl
      have ih := ih (i + 1) r ((b ++ bytesTo (tenT (at_[i].at 0).toI)) ++ bytesTo sUsed) (by omega) (by omega) (by rw [List.length_append, List.length_append, bytesTo_len, bytesTo_len, tenT_size]; omega)
      rw [show ((i + 1 : Nat) : Int) = (i : Int) + 1 by omega] at ih
      rw [tl_1, show decide ((i : Int) < at_.length) = true from decide_eq_true (by omega), idx_at h1, W_in (n := (i : Int) + 1) (by omega), List.drop_eq_getElem_cons h1]
      simp only [cond_true, Option.bind_some]
      rw [ht1, cond_true, fits_ble (by rw [tenT_size]; omega), cond_true, fits_ble (by rw [List.length_append, bytesTo_len, tenT_size]; omega), cond_true, ih]
      rfl
theorem tailS_eq (at_ : List Dat) (root start : Int) : tailS at_ root start = tlEnd root start (itS ((at_.length : Int) + 1)) (usedW (bytesTo ((sXref ++ itS ((at_.length : Int) + 1)) ++ sFree)) at_) := rfl
theorem tailS_size {at_ : List Dat} {root start : Int} (h : at_.length ≤ 5000) : (tailS at_ root start).size ≤ 200000 := by
  rw [tailS_eq]
  have h1 := tlEnd_size (root := root) (start := start) (s := itS ((at_.length : Int) + 1)) (b := usedW (bytesTo ((sXref ++ itS ((at_.length : Int) + 1)) ++ sFree)) at_) (itS_size _).1
  rw [usedW_len, bytesTo_len, ByteArray.size_append, ByteArray.size_append] at h1
  have h2 := (itS_size ((at_.length : Int) + 1)).1
  have e1 : sXref.size = 7 := rfl
  have e2 : sFree.size = 21 := rfl
  omega
theorem tail_sound {ext : CallF} (hext : SoundCall PR ext) : SoundCall PR (addF 40 tailE ext) := by
  refine sound_both (sound_add (takes := TK) hmixP (show SoundCall PR tlC from ten_sound (sound_both dc_sound sound_none)) _ (fn := (PR.funcs[40]?).getD default) (by kernel_rfl) (by kernel_rfl) tailE fun xs bs out h => ?_) hext
  unfold tailE at h
  split at h
  · rename_i at_ root start
    injection h with h
    injection h with h1 h2
    subst h2
    obtain ⟨p1, p2, p3, p4⟩ := decP_of h1
    have hn := (itS_size ((at_.length : Int) + 1)).1
    have e1 : sXref.size = 7 := rfl
    have e2 : sFree.size = 21 := rfl
    have hd : dcB ((at_.length : Int) + 1) = true := by unfold dcB; rw [decide_eq_true (by omega), decide_eq_true (by omega)]; rfl
    refine ⟨5001, (tl_0 _ _ _ _).trans ?_⟩
    rw [W_in (n := (at_.length : Int) + 1) (by omega), hd, cond_true, glueO_eq _ (by omega), glueO_eq _ (by rw [ByteArray.size_append]; omega), fits_ble (by rw [ByteArray.size_append, ByteArray.size_append]; omega), Bool.and_true, cond_true]
    have e := tl_loop (m := 5001) (s := itS ((at_.length : Int) + 1)) p1 p2 p3 p4 hn at_.length 0 5001 (bytesTo ((sXref ++ itS ((at_.length : Int) + 1)) ++ sFree)) (by omega) (by omega) (by rw [bytesTo_len, ByteArray.size_append, ByteArray.size_append]; omega)
    rw [List.drop_zero] at e
    exact e
  · cases h
end Go.Proofs.YtckdgcpomkefpaaGreatDoor.En
end
section
set_option linter.unusedVariables false
set_option linter.unusedSimpArgs false
set_option maxRecDepth 100000
namespace Go.Proofs.YtckdgcpomkefpaaGreatDoor.En
open Go
noncomputable def entD (i : Nat) (d : Dat) : ByteArray := entS ((i : Int) + 1) (enB d) (d.at 6).toB (d.at 7).toS
noncomputable def laysL : Nat → List Dat → List Dat → List Dat → Option (List Dat × List Dat)
  | _, [], b, a => some (b, a)
  | i, d :: l, b, a => bif (printF (enB d) == 0) && !decide (((b.length : Int) + (entD i d).size) > 16777216) then laysL (i + 1) l (b ++ bytesTo (entD i d)) (a ++ [.int b.length]) else none
theorem laysL_cons (i : Nat) (d : Dat) (l b a : List Dat) : laysL i (d :: l) b a = bif (printF (enB d) == 0) && !decide (((b.length : Int) + (entD i d).size) > 16777216) then laysL (i + 1) l (b ++ bytesTo (entD i d)) (a ++ [.int b.length]) else none := rfl
noncomputable def lastL (root : Int) : Option (List Dat × List Dat) → ByteArray × List Dat × Int
  | none => (⟨#[]⟩, [], 2)
  | some (b, a) => bif decide ((((b ++ bytesTo (tailS a root b.length)).length : Nat) : Int) > 16777216) then (⟨#[]⟩, [], 2) else (bytesOf (b ++ bytesTo (tailS a root b.length)), a ++ [.int b.length], 0)
noncomputable def fileR (l : List Dat) (root : Int) : ByteArray × List Dat × Int := bif chkF l root != 0 then (⟨#[]⟩, [], chkF l root) else lastL root (laysL 0 l headL [])
def okL (l : List Dat) : Prop := okF l ∧ ∀ d ∈ l, (d.at 7).toS.size ≤ 140737488355328
noncomputable def layE : List AV → Bx → Option (Bool × Out)
  | [.agg [.row none 64 l, .v (.int .i64 root)]], [none] => some (decP (okL l), .ret (.tup [S (fileR l root).1, .row (some 3) 3 (fileR l root).2.1, I (fileR l root).2.2]) [none])
  | _, _ => none
def okAt (a : List Dat) : Prop := ∀ d ∈ a, 0 ≤ (d.at 0).toI ∧ (d.at 0).toI ≤ 16777216
theorem okAt_snoc {a b : List Dat} (h : okAt a) (hb : b.length ≤ 16777216) : okAt (a ++ [.int b.length]) := fun d hd => by
  rcases List.mem_append.1 hd with hd | hd
  · exact h d hd
  · rw [List.mem_singleton] at hd
    subst hd
    show (0 : Int) ≤ (b.length : Int) ∧ (b.length : Int) ≤ 16777216
    omega
theorem chkF_0 {l : List Dat} {root : Int} (h : chkF l root = 0) : 0 < l.length ∧ l.length ≤ 4096 ∧ 1 ≤ root ∧ root ≤ l.length := by
  unfold chkF at h
  cases hc : (((l.length : Int) == 0 || decide ((l.length : Int) > 4096)) || decide (root < 1)) || decide (root > l.length)
  · simp only [Bool.or_eq_false_iff] at hc
    obtain ⟨⟨⟨h1, h2⟩, h3⟩, h4⟩ := hc
    have := of_decide_eq_false h2
    have := of_decide_eq_false h3
    have := of_decide_eq_false h4
    have : ¬ (l.length : Int) = 0 := by simpa using h1
    omega
  · rw [hc] at h; cases h
theorem dcB_of {n : Int} (h0 : 0 ≤ n) (h1 : n ≤ 10000000000000000) : dcB n = true := by unfold dcB; rw [decide_eq_true h0, decide_eq_true h1]; rfl
theorem tenB_of {n : Int} (h0 : 0 ≤ n) (h1 : n ≤ 4611686018427387904) : tenB n = true := by unfold tenB; rw [decide_eq_true h0, decide_eq_true h1]; rfl
theorem entS_size (i : Int) (d : Dat) (st : Bool) (da : ByteArray) : (entS i d st da).size ≤ 1048700 + da.size := by
  unfold entS
  have h1 := (itS_size i).1
  have h2 := printS_size d
  have z1 : sObj.size = 7 := rfl
  have z2 : sEnd.size = 8 := rfl
  have z3 : sStr.size = 8 := rfl
  have z4 : sEndS.size = 18 := rfl
  cases st
  · rw [cond_false]; simp only [ByteArray.size_append]; omega
  · rw [cond_true]; simp only [ByteArray.size_append]; omega
theorem lyC_sound : SoundCall PR lyC := rcheck_sound (rent_sound (tail_sound sound_none))
def lyO (x : ByteArray × List Dat × Int) : Option Out := lyR x.1 x.2.1 x.2.2
theorem ly_loop {m : Nat} {l : List Dat} {root : Int} (hl : l.length ≤ 4096) (hk : okL l) (h1 : 1 ≤ root) (h2 : root ≤ l.length) :
    ∀ (n i r : Nat) (b a : List Dat), i + n = l.length → n < r → b.length ≤ 16777216 → a.length = i → okAt a → lyL lyC m r l root b a (i : Int) = lyO (lastL root (laysL i (l.drop i) b a)) := by
  intro n
  induction n with
  | zero =>
    intro i r b a hi hr hb ha hat
    cases r with
    | zero => omega
    | succ r =>
      rw [ly_1, show decide ((i : Int) < l.length) = false from decide_eq_false (by omega), List.drop_eq_nil_of_le (by omega), cond_false]
      have ho : okTl a root b.length := ⟨by omega, fun d hd => tenB_of (hat d hd).1 (by have := (hat d hd).2; omega), dcB_of (by omega) (by omega), dcB_of (by omega) (by omega)⟩
      have hs := tailS_size (root := root) (start := b.length) (at_ := a) (by omega)
      rw [decP_eq ho, cond_true, fits_le (by omega), cond_true, fits_le (by omega)]
      show _ = lyO (bif decide ((((b ++ bytesTo (tailS a root b.length)).length : Nat) : Int) > 16777216) then (⟨#[]⟩, [], 2) else (bytesOf (b ++ bytesTo (tailS a root b.length)), a ++ [.int b.length], 0))
      cases decide ((((b ++ bytesTo (tailS a root b.length)).length : Nat) : Int) > 16777216) <;> rfl
  | succ n ih =>
    intro i r b a hi hr hb ha hat
    cases r with
    | zero => omega
    | succ r =>
      have hlt : i < l.length := by omega
      have hd := hk.1 _ (List.getElem_mem hlt)
      have hda := hk.2 _ (List.getElem_mem hlt)
      have hz := entS_size ((i : Int) + 1) (enB l[i]) (l[i].at 6).toB (l[i].at 7).toS
      rw [ly_1, show decide ((i : Int) < l.length) = true from decide_eq_true (by omega), idx_at hlt, W_in (n := (i : Int) + 1) (by omega), List.drop_eq_getElem_cons hlt]
      simp only [cond_true, Option.bind_some]
      have hcond : okE (l[i].at 4).toL (l[i].at 5).toL ∧ (l[i].at 7).toS.size ≤ 140737488355328 ∧ dcB ((i : Int) + 1) = true := ⟨hd, hda, dcB_of (by omega) (by omega)⟩
      rw [decP_eq hcond, cond_true, orK_eq]
      have hz' : (entD i l[i]).size ≤ 1048700 + (l[i].at 7).toS.size := hz
      have hw : W ((b.length : Int) + ((entD i l[i]).size : Int)) = (b.length : Int) + ((entD i l[i]).size : Int) := W_in (by omega)
      have e2 : entS ((i : Int) + 1) (enB l[i]) (l[i].at 6).toB (l[i].at 7).toS = entD i l[i] := rfl
      rw [laysL_cons, e2]
      rw [hw]
      clear hcond hw hz
      cases hF : printF (enB l[i]) == 0
      · rfl
      · by_cases hc : ((b.length : Int) + (entD i l[i]).size) > 16777216
        · rw [decide_eq_true hc]; rfl
        · rw [decide_eq_false hc, Bool.not_true, Bool.false_or, cond_false, Bool.not_false, Bool.and_self, cond_true, fits_le (by omega), cond_true, fits_le (by omega), cond_true]
          have := ih (i + 1) r (b ++ bytesTo (entD i l[i])) (a ++ [.int b.length]) (by omega) (by omega) (by rw [List.length_append, bytesTo_len]; omega) (by rw [List.length_append, List.length_singleton]; omega) (okAt_snoc hat hb)
          rw [show ((i + 1 : Nat) : Int) = (i : Int) + 1 by omega] at this
          exact this
theorem headL_len : headL.length = 15 := rfl
theorem lay_sound {ext : CallF} (hext : SoundCall PR ext) : SoundCall PR (addF 16 layE ext) := by
  refine sound_both (sound_add (takes := TK) hmixP lyC_sound _ (fn := (PR.funcs[16]?).getD default) (by kernel_rfl) (by kernel_rfl) layE fun xs bs out h => ?_) hext
  unfold layE at h
  split at h
  · rename_i l root
    injection h with h
    injection h with h1 h2
    subst h2
    have hk := decP_of h1
    refine ⟨5000, (ly_0 _ _ _).trans ?_⟩
    rw [decP_eq hk.1, cond_true]
    unfold fileR
    cases hc : chkF l root != 0
    · have h0 : chkF l root = 0 := by simpa using hc
      obtain ⟨c1, c2, c3, c4⟩ := chkF_0 h0
      have e := ly_loop (m := 5000) c2 hk c3 c4 l.length 0 5000 headL [] (by omega) (by omega) (by rw [headL_len]; omega) rfl (fun d hd => by cases hd)
      rw [List.drop_zero] at e
      exact e
    · rfl
  · cases h
end Go.Proofs.YtckdgcpomkefpaaGreatDoor.En
end
section
set_option linter.unusedVariables false
set_option linter.unusedSimpArgs false
set_option maxRecDepth 100000
namespace Go.Proofs.YtckdgcpomkefpaaGreatDoor.En
open Go
theorem digits_one : ∀ (k p : Nat), p < 10 ^ k → natDigits (10 ^ k + p) = 1 :: (List.range k).map fun j => p / 10 ^ (k - 1 - j) % 10
  | 0, p, h => by
    have : p = 0 := by simpa using h
    subst this
    exact natDigits_small (by decide)
  | k + 1, p, h => by
    have h0 : 0 < 10 ^ k := Nat.pow_pos (by decide)
    have e : 10 ^ (k + 1) = 10 * 10 ^ k := by rw [Nat.pow_succ]; omega
    have h1 : ¬ 10 ^ (k + 1) + p < 10 := by omega
    have e1 : (10 ^ (k + 1) + p) / 10 = 10 ^ k + p / 10 := by omega
    have e2 : (10 ^ (k + 1) + p) % 10 = p % 10 := by omega
    rw [natDigits_big h1, e1, e2, digits_one k (p / 10) (by omega), List.range_succ, List.map_append, List.cons_append]
    congr 1
    congr 1
    · refine List.map_congr_left fun j hj => ?_
      rw [List.mem_range] at hj
      rw [Nat.div_div_eq_div_mul]
      congr 2
      rw [show k + 1 - 1 - j = (k - 1 - j) + 1 by omega, Nat.pow_succ, Nat.mul_comm]
    · simp
theorem cut_ten {p : Int} (h0 : 0 ≤ p) (h1 : p < 10000000000) : cut1 (itS (10000000000 + p)) = tenT p ∧ (itS (10000000000 + p)).size = 11 := by
  obtain ⟨u, rfl⟩ : ∃ u : Nat, p = (u : Int) := ⟨p.toNat, by omega⟩
  have e0 : (10000000000 : Int) + (u : Int) = ((10 ^ 10 + u : Nat) : Int) := by omega
  have hlen : (asU (natDigits (10 ^ 10 + u))).length = 11 := by
    rw [asU_length, digits_one 10 u (by omega)]; simp
  rw [e0, itS_nat (10 ^ 10 + u) (by omega)]
  have hsz : (bs (asU (natDigits (10 ^ 10 + u)))).size = 11 := by rw [bs_size, hlen]
  refine ⟨?_, hsz⟩
  unfold cut1
  rw [hsz]
  refine ba_inj ?_
  show ((bs (asU (natDigits (10 ^ 10 + u)))).extract 1 11).data.toList = (tenT (u : Int)).data.toList
  rw [digits_one 10 u (by omega)]
  simp only [ByteArray.data_extract, Array.toList_extract]
  rfl
theorem good_ref {r : Int} (h1 : 1 ≤ r) (h2 : r ≤ 4096) (nest c : Int) : goodO 100 (mkO 8 r false ⟨#[]⟩ [] []) nest c = bif decide (c + 1 > 65536) then -1 else c + 1 := by
  have hf : flatD (mkO 8 r false ⟨#[]⟩ [] []) = true := by
    show (!bareB 8 r false ⟨#[]⟩ [] [] && kindB 8 r ⟨#[]⟩ [] []) = true
    have e1 : bareB 8 r false ⟨#[]⟩ [] [] = false := by simp [bareB]
    have e2 : kindB 8 r ⟨#[]⟩ [] [] = (decide (r ≥ 1) && decide (r ≤ 4096)) := rfl
    rw [e1, e2, decide_eq_true (show r ≥ 1 from h1), decide_eq_true h2]; rfl
  show (bif decide (c + 1 > 65536) || !flatD (mkO 8 r false ⟨#[]⟩ [] []) then -1 else _) = _
  rw [hf, Bool.not_true, Bool.or_false]
  rfl
theorem good_dict (n : Int) (b : Bool) (s : ByteArray) (ks l : List Dat) : goodO 101 (mkO 7 n b s ks l) 0 0 = bif !flatD (mkO 7 n b s ks l) then -1 else itemsG (fun e n => goodO 100 e 1 n) l 1 := by
  show (bif decide ((0 : Int) + 1 > 65536) || !flatD (mkO 7 n b s ks l) then -1 else (bif (7 : Int) == 6 || (7 : Int) == 7 then (bif decide ((0 : Int) + 1 > 32) then -1 else itemsG (fun e n => goodO 100 e (0 + 1) n) l (0 + 1)) else _)) = _
  rfl
theorem itemsG_two (f : Dat → Int → Int) (x y : Dat) (n : Int) : itemsG f [x, y] n = bif decide (f x n < 0) then -1 else (bif decide (f y (f x n) < 0) then -1 else f y (f x n)) := rfl
theorem good_trl {n r : Int} (hn : inB n = true) (h1 : 1 ≤ r) (h2 : r ≤ 4096) : goodO 101 (trlD n r) 0 0 = 3 := by
  have hf : flatD (trlD n r) = true := by
    show (!bareB 7 0 false ⟨#[]⟩ trlK (trlL n r) && kindB 7 0 ⟨#[]⟩ trlK (trlL n r)) = true
    have e1 : bareB 7 0 false ⟨#[]⟩ trlK (trlL n r) = false := by simp [bareB]
    have e2 : kindB 7 0 ⟨#[]⟩ trlK (trlL n r) = keysR [] trlK := rfl
    have e3 : keysR [] trlK = true := by kernel_rfl
    rw [e1, e2, e3]; rfl
  unfold trlD at hf ⊢
  rw [good_dict, hf, Bool.not_true, cond_false]
  unfold trlL
  rw [itemsG_two]
  simp only [good_num hn, good_ref h1 h2]
  rfl
def tA : ByteArray := ⟨#[60, 60, 47, 83, 105, 122, 101, 32]⟩
def tB : ByteArray := ⟨#[32, 47, 82, 111, 111, 116, 32]⟩
def tC3 : ByteArray := ⟨#[32, 48, 32, 82, 62, 62]⟩
theorem txt_trl (n r : Int) : txtO 101 (trlD n r) = bytesTo tA ++ (bytesTo (itS n) ++ (bytesTo tB ++ (bytesTo (itS r) ++ bytesTo tC3))) := by
  have e : txtO 101 (trlD n r) = ((bytesTo ⟨#[60, 60]⟩) ++ (((([] ++ nameT kSize) ++ [Dat.int 32]) ++ bytesTo (itS n)) ++ (((([Dat.int 32] ++ nameT kRoot) ++ [Dat.int 32]) ++ bytesTo (itS r ++ refT)) ++ []))) ++ bytesTo ⟨#[62, 62]⟩ := rfl
  have e1 : bytesTo tA = bytesTo ⟨#[60, 60]⟩ ++ (nameT kSize ++ [Dat.int 32]) := by kernel_rfl
  have e2 : bytesTo tB = [Dat.int 32] ++ (nameT kRoot ++ [Dat.int 32]) := by kernel_rfl
  have e3 : bytesTo tC3 = bytesTo refT ++ bytesTo ⟨#[62, 62]⟩ := by kernel_rfl
  rw [e, e1, e2, e3, bytesTo_append]
  simp only [List.append_assoc, List.nil_append, List.append_nil]
theorem trl_print {n r : Int} (hn : inB n = true) (h1 : 1 ≤ r) (h2 : r ≤ 4096) : printF (trlD n r) = 0 ∧ bytesTo (printS (trlD n r)) = bytesTo tA ++ (bytesTo (itS n) ++ (bytesTo tB ++ (bytesTo (itS r) ++ bytesTo tC3))) := by
  have hl : (txtO 101 (trlD n r)).length ≤ 100 := by
    rw [txt_trl]
    simp only [List.length_append, bytesTo_len]
    have := (itS_size n).1
    have := (itS_size r).1
    have e1 : tA.size = 8 := rfl
    have e2 : tB.size = 7 := rfl
    have e3 : tC3.size = 6 := rfl
    omega
  have hg : decide (goodO 101 (trlD n r) 0 0 > 0) = true := by rw [good_trl hn h1 h2]; rfl
  have hs : decide (((txtO 101 (trlD n r)).length : Int) > 1048576) = false := decide_eq_false (by omega)
  unfold printF printS
  rw [hg, hs]
  exact ⟨rfl, (to_of (isBy_txtO 101 _)).trans (txt_trl n r)⟩
end Go.Proofs.YtckdgcpomkefpaaGreatDoor.En
end
