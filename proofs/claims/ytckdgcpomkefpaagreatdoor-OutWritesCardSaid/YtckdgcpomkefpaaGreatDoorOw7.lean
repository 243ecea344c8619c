/- Part 7 of a proof: what it needs of the program's functions as plain Lean functions, with the proof that the machine's calls come to them, and of plain laws; put together out of smaller texts. No conditions besides those that each statement names. -/
import Derived.Test.YtckdgcpomkefpaaGreatDoorOw4
import Derived.Test.YtckdgcpomkefpaaGreatDoorOw6
section
set_option linter.unusedVariables false
set_option linter.unusedSimpArgs false
set_option maxRecDepth 100000
namespace Go.Proofs.YtckdgcpomkefpaaGreatDoor.En
open Go
theorem okPr_mea {ks l : List Dat} (h : okE ks l) (n : Int) : okPr (meaK ks) (meaL l n) := by
  obtain ⟨⟨⟨f1, f2, f3⟩, z1, z2⟩, h1, h2⟩ := h
  have e4 : ((mkO 2 n false ⟨#[]⟩ [] []).at 4).toL = [] := rfl
  have e5 : ((mkO 2 n false ⟨#[]⟩ [] []).at 5).toL = [] := rfl
  refine ⟨⟨?_, ?_, fun d hd => ?_⟩, fun d hd => ?_, fun d hd => ?_⟩
  · show (ks ++ [Dat.str lenS]).length ≤ _
    rw [List.length_append, List.length_singleton]; omega
  · show (l ++ [mkO 2 n false ⟨#[]⟩ [] []]).length ≤ _
    rw [List.length_append, List.length_singleton]; omega
  · rcases List.mem_append.1 hd with hd | hd
    · exact f3 d hd
    · rw [List.mem_singleton] at hd
      subst hd
      rw [e4, e5]
      exact ⟨Nat.zero_le _, Nat.zero_le _, fun d hd => (by cases hd)⟩
  · rcases List.mem_append.1 hd with hd | hd
    · exact z1 d hd
    · rw [List.mem_singleton] at hd
      subst hd
      show lenS.size ≤ maxLen
      have : lenS.size = 6 := rfl
      unfold maxLen; omega
  · rcases List.mem_append.1 hd with hd | hd
    · exact z2 d hd
    · rw [List.mem_singleton] at hd
      subst hd
      rw [e4, e5]
      exact ⟨fun d hd => (by cases hd), fun d hd => (by cases hd)⟩
theorem findK_has (key : ByteArray) : ∀ (ks : List Dat) (j : Nat), (∀ i, findK key ks j = some i → j ≤ i ∧ i < j + ks.length) ∧ (findK key ks j).isSome = hasB key ks
  | [], j => ⟨fun i h => (by cases h), rfl⟩
  | d :: ks, j => by
    obtain ⟨h1, h2⟩ := findK_has key ks (j + 1)
    unfold findK hasB
    cases (d.at 0).toS.toList == key.toList
    · refine ⟨fun i h => ?_, h2⟩
      have := h1 i h
      rw [List.length_cons]; omega
    · refine ⟨fun i h => ?_, rfl⟩
      injection h with h
      subst h
      rw [List.length_cons]; omega
theorem getO_has {key : ByteArray} {ks l : List Dat} (h : ks.length ≤ l.length) : (getO ks l key).isSome = hasB key ks := by
  obtain ⟨h1, h2⟩ := findK_has key ks 0
  unfold getO
  rw [← h2]
  cases hf : findK key ks 0 with
  | none => rfl
  | some i =>
    have := (h1 i hf).2
    rw [Option.bind_some, List.getElem?_eq_getElem (by omega)]; rfl
theorem hasB_any (key : ByteArray) : ∀ ks : List Dat, hasB key ks = ks.any fun e => (e.at 0).toS.toList == key.toList
  | [] => rfl
  | d :: ks => by
    show (bif (d.at 0).toS.toList == key.toList then true else hasB key ks) = _
    rw [List.any_cons, hasB_any key ks]
    cases (d.at 0).toS.toList == key.toList <;> rfl
theorem keysR_snoc (x : Dat) : ∀ (r pre : List Dat), keysR pre (r ++ [x]) = (keysR pre r && (namedB (x.at 0).toS && !((pre ++ r).any fun e => eqK e x)))
  | [], pre => by
    show (namedB (x.at 0).toS && (!(pre.any fun e => eqK e x) && true)) = (true && _)
    rw [List.append_nil, Bool.and_true, Bool.true_and]
  | d :: r, pre => by
    show (namedB (d.at 0).toS && (!(pre.any fun e => eqK e d) && keysR (pre ++ [d]) (r ++ [x]))) = ((namedB (d.at 0).toS && (!(pre.any fun e => eqK e d) && keysR (pre ++ [d]) r)) && _)
    rw [keysR_snoc x r (pre ++ [d]), List.append_assoc, List.singleton_append]
    simp only [Bool.and_assoc]
theorem itemsG_snoc {f : Dat → Int → Int} (x : Dat) : ∀ (l : List Dat) (n : Int), 0 ≤ n → itemsG f (l ++ [x]) n = bif decide (itemsG f l n < 0) then -1 else (bif decide (f x (itemsG f l n) < 0) then -1 else f x (itemsG f l n))
  | [], n, h => by
    show (bif decide (f x n < 0) then -1 else f x n) = bif decide (n < 0) then -1 else _
    rw [decide_eq_false (show ¬ n < 0 by omega)]; rfl
  | d :: l, n, h => by
    show (bif decide (f d n < 0) then -1 else itemsG f (l ++ [x]) (f d n)) = bif decide ((bif decide (f d n < 0) then -1 else itemsG f l (f d n)) < 0) then -1 else _
    by_cases hd : f d n < 0
    · rw [decide_eq_true hd]; rfl
    · have e : itemsG f (d :: l) n = itemsG f l (f d n) := by
        show (bif decide (f d n < 0) then -1 else itemsG f l (f d n)) = _
        rw [decide_eq_false hd]; rfl
      rw [e, decide_eq_false hd, cond_false, cond_false, itemsG_snoc x l (f d n) (by omega)]
theorem good_num {v : Int} (hv : inB v = true) (nest c : Int) : goodO 100 (mkO 2 v false ⟨#[]⟩ [] []) nest c = bif decide (c + 1 > 65536) then -1 else c + 1 := by
  have hf : flatD (mkO 2 v false ⟨#[]⟩ [] []) = true := by
    show (!bareB 2 v false ⟨#[]⟩ [] [] && kindB 2 v ⟨#[]⟩ [] []) = true
    have h1 : bareB 2 v false ⟨#[]⟩ [] [] = false := by simp [bareB]
    have h2 : kindB 2 v ⟨#[]⟩ [] [] = true := hv
    rw [h1, h2]; rfl
  show (bif decide (c + 1 > 65536) || !flatD (mkO 2 v false ⟨#[]⟩ [] []) then -1 else _) = _
  rw [hf, Bool.not_true, Bool.or_false]
  rfl
theorem good_mea {n v : Int} {b : Bool} {s : ByteArray} {ks l : List Dat} (hg : goodO 101 (mkO 7 n b s ks l) 0 0 > 0) (hk : hasB lenS ks = false) (hv : inB v = true) :
    ks.length = l.length ∧ decide (goodO 101 (mkO 7 n b s (meaK ks) (meaL l v)) 0 0 > 0) = decide (goodO 101 (mkO 7 n b s ks l) 0 0 < 65536) := by
  have hsz : ∀ ks l, goodO 101 (mkO 7 n b s ks l) 0 0 = bif !flatD (mkO 7 n b s ks l) then -1 else itemsG (fun e n => goodO 100 e 1 n) l 1 := fun ks l => by
    show (bif decide ((0 : Int) + 1 > 65536) || !flatD (mkO 7 n b s ks l) then -1 else (bif (7 : Int) == 6 || (7 : Int) == 7 then (bif decide ((0 : Int) + 1 > 32) then -1 else itemsG (fun e n => goodO 100 e (0 + 1) n) l (0 + 1)) else _)) = _
    rfl
  have hfl : flatD (mkO 7 n b s ks l) = true := by
    rw [hsz] at hg
    cases hf : flatD (mkO 7 n b s ks l)
    · rw [hf] at hg
      simp at hg
    · rfl
  have hbare : ∀ ks l ks' l', bareB 7 n b s ks l = bareB 7 n b s ks' l' := fun ks l ks' l' => by simp [bareB]
  have hfd : ∀ ks l, flatD (mkO 7 n b s ks l) = (!bareB 7 n b s ks l && (bif ((ks.length : Int) != l.length) then false else keysR [] ks)) := fun ks l => rfl
  have hfl0 := hfl
  rw [hfd, Bool.and_eq_true] at hfl
  obtain ⟨hb, hkk⟩ := hfl
  have hlen : ks.length = l.length := by
    cases hq : ((ks.length : Int) != l.length)
    · have : (ks.length : Int) = l.length := by simpa using hq
      omega
    · rw [hq] at hkk; cases hkk
  have hkeys : keysR [] ks = true := by
    rw [show ((ks.length : Int) != l.length) = false by simp [hlen]] at hkk
    exact hkk
  have hfl' : flatD (mkO 7 n b s (meaK ks) (meaL l v)) = true := by
    rw [hfd, hbare (meaK ks) (meaL l v) ks l, hb]
    have e1 : (((meaK ks).length : Int) != (meaL l v).length) = false := by
      have : (meaK ks).length = (meaL l v).length := by unfold meaK meaL; rw [List.length_append, List.length_append, hlen]; rfl
      rw [this]; simp
    rw [e1]
    show (true && keysR [] (ks ++ [Dat.str lenS])) = true
    rw [keysR_snoc, hkeys, List.nil_append]
    have e2 : (ks.any fun e => eqK e (.str lenS)) = hasB lenS ks := (hasB_any lenS ks).symm
    rw [e2, hk]
    have e3 : namedB ((Dat.str lenS).at 0).toS = true := by decide
    rw [e3]; rfl
  refine ⟨hlen, ?_⟩
  rw [hsz (meaK ks) (meaL l v), hsz ks l, hfl', hfl0]
  rw [hsz, hfl0] at hg
  simp only [Bool.not_true, cond_false] at hg ⊢
  show decide (itemsG _ (l ++ [mkO 2 v false ⟨#[]⟩ [] []]) 1 > 0) = _
  rw [itemsG_snoc _ _ _ (by decide)]
  generalize itemsG (fun e n => goodO 100 e 1 n) l 1 = c at hg ⊢
  rw [decide_eq_false (show ¬ c < 0 by omega), cond_false, good_num hv]
  by_cases h : c + 1 > 65536
  · rw [decide_eq_true h]
    simp
    omega
  · rw [decide_eq_false h, cond_false, decide_eq_false (show ¬ c + 1 < 0 by omega), cond_false, decide_eq_true (show c + 1 > 0 by omega), decide_eq_true (show c < 65536 by omega)]
def pbadB (d : Dat) : Bool := !(ogO 101 (nrm d) 32 65536).1 || ((!(d.at 6).toB && !((d.at 7).toS.toList == (⟨#[]⟩ : ByteArray).toList)) || ((d.at 6).toB && !stmB (d.at 0).toI (d.at 2).toI (d.at 1).toB (d.at 3).toS (d.at 4).toL (d.at 5).toL))
theorem bad_eq (d : Dat) : pbadB d = rbadB d := by
  have hge : (ogO 101 (nrm d) 32 65536).1 = decide (goodO 101 (nrm d) 0 0 > 0) := Good_eq
  unfold pbadB rbadB
  rw [hge]
  have hne := goodO_ne 101 (nrm d) 0 0 (by decide)
  by_cases hg : goodO 101 (nrm d) 0 0 > 0
  · rw [decide_eq_true hg, decide_eq_false (show ¬ goodO 101 (nrm d) 0 0 < 0 by omega), Bool.not_true, Bool.false_or, Bool.false_or]
    congr 1
    congr 1
    unfold stmB
    by_cases h7 : (d.at 0).toI = 7
    · rw [h7]
      have e0 : nrm d = mkO 7 (d.at 2).toI (d.at 1).toB (d.at 3).toS (d.at 4).toL (d.at 5).toL := by unfold nrm; rw [h7]
      rw [e0] at hg ⊢
      cases hh : hasB lenS (d.at 4).toL
      · obtain ⟨hl, hm⟩ := good_mea (v := 0) hg hh (by decide)
        rw [hm]
        show (!((true && !(getO (d.at 4).toL (d.at 5).toL lenS).isSome) && _)) = (false || (false || _))
        rw [getO_has (by omega), hh]
        generalize goodO 101 (mkO 7 (d.at 2).toI (d.at 1).toB (d.at 3).toS (d.at 4).toL (d.at 5).toL) 0 0 = c
        by_cases hc : c < 65536
        · rw [decide_eq_true hc, decide_eq_false (show ¬ c - 1 ≥ 65535 by omega)]; rfl
        · rw [decide_eq_false hc, decide_eq_true (show c - 1 ≥ 65535 by omega)]; rfl
      · have hl : (d.at 4).toL.length = (d.at 5).toL.length := by
          have hf : flatD (mkO 7 (d.at 2).toI (d.at 1).toB (d.at 3).toS (d.at 4).toL (d.at 5).toL) = true := by
            cases hf : flatD (mkO 7 (d.at 2).toI (d.at 1).toB (d.at 3).toS (d.at 4).toL (d.at 5).toL)
            · have : goodO 101 (mkO 7 (d.at 2).toI (d.at 1).toB (d.at 3).toS (d.at 4).toL (d.at 5).toL) 0 0 = -1 := by
                show (bif decide ((0 : Int) + 1 > 65536) || !flatD (mkO 7 (d.at 2).toI (d.at 1).toB (d.at 3).toS (d.at 4).toL (d.at 5).toL) then (-1 : Int) else _) = -1
                rw [hf]; rfl
              omega
            · rfl
          have hfd : flatD (mkO 7 (d.at 2).toI (d.at 1).toB (d.at 3).toS (d.at 4).toL (d.at 5).toL) = (!bareB 7 (d.at 2).toI (d.at 1).toB (d.at 3).toS (d.at 4).toL (d.at 5).toL && (bif (((d.at 4).toL.length : Int) != (d.at 5).toL.length) then false else keysR [] (d.at 4).toL)) := rfl
          rw [hfd, Bool.and_eq_true] at hf
          have h2 := hf.2
          cases hq : (((d.at 4).toL.length : Int) != (d.at 5).toL.length)
          · have : ((d.at 4).toL.length : Int) = (d.at 5).toL.length := by simpa using hq
            omega
          · rw [hq] at h2; cases h2
        show (!((true && !(getO (d.at 4).toL (d.at 5).toL lenS).isSome) && _)) = (false || (true || _))
        rw [getO_has (by omega), hh]; rfl
    · have e7 : ((d.at 0).toI == 7) = false := by simpa using h7
      have e7' : ((d.at 0).toI != 7) = true := by simpa using h7
      rw [e7, e7']; rfl
  · rw [decide_eq_false hg, decide_eq_true (show goodO 101 (nrm d) 0 0 < 0 by omega)]; rfl
end Go.Proofs.YtckdgcpomkefpaaGreatDoor.En
end
section
set_option linter.unusedVariables false
set_option linter.unusedSimpArgs false
set_option maxRecDepth 100000
namespace Go.Proofs.YtckdgcpomkefpaaGreatDoor.En
open Go
theorem sound_addX {ext : CallF} {takes : FuncId → Option Nat} (hext : SoundCall PR ext) (f : FuncId) {fn : Func} (hf : PR.funcs[f]? = some fn) (hok : okFn PR fn = true) (ent : List AV → Bx → Option (Bool × Out))
    (h : ∀ xs bs out, ent xs bs = some (true, out) → ∃ call, SoundCall PR call ∧ ∃ n, evFn PR takes call n f xs bs = some out) : SoundCall PR (addF f ent ext) := fun g xs bs out ho => by
  unfold addF at ho
  cases hg : Nat.beq g f <;> rw [hg] at ho <;> simp only [cond_true, cond_false] at ho
  · exact hext g xs bs out ho
  · have e : g = f := Nat.eq_of_beq_eq_true hg
    subst e
    obtain ⟨call, hc, n, hn⟩ := h xs bs out ho
    obtain ⟨h1, h2⟩ := sound_fn hmixP hc hf hok hn
    refine ⟨h1, fun gh w vs a1 aL a2 a3 a4 => ?_⟩
    have := h2 gh w vs a1 aL a2 a3 a4
    cases out <;> exact this
theorem okO_of {ks l : List Dat} (h : okPr ks l) : okO' 101 ks l 32 65536 := ⟨h.1, h.2, by decide, by decide, by decide, by decide⟩
theorem okG_of {ks l : List Dat} (h : okPr ks l) : okG 101 ks l 0 0 := ⟨h.1, by decide, by decide, by decide, by decide⟩
theorem stm_sound {ext : CallF} (hext : SoundCall PR ext) : SoundCall PR (addF 41 stmE ext) := by
  refine sound_both (sound_add (takes := TK) hmixP stC_sound _ (fn := (PR.funcs[41]?).getD default) (by kernel_rfl) (by kernel_rfl) stmE fun xs bs out h => ?_) hext
  unfold stmE at h
  split at h
  · rename_i k1 b1 n1 s1 ks1 l1
    injection h with h
    injection h with h1 h2
    subst h2
    have h1 := decP_of h1
    have h3 := okPr_mea h1 0
    refine ⟨1, (stm_0 _ _ _ _ _ _ _).trans ?_⟩
    rw [Nat.ble_eq_true_of_le (show ks1.length ≤ 1000000 by have := h1.2.1; omega), Nat.ble_eq_true_of_le (show l1.length ≤ 1000000 by have := h1.2.2; omega), decP_eq (okO_of h3), Good_eq, andK_eq]
    unfold stmB
    cases ((k1 == 7) && !(bif k1 == 7 then getO ks1 l1 lenS else none).isSome) <;> rfl
  · cases h
theorem has_loop {call : CallF} {m : Nat} {k1 n1 : Int} {b1 : Bool} {s1 key : ByteArray} {ks1 l1 : List Dat} (hf : ks1.length ≤ 1000000) :
    ∀ (n i r : Nat), i + n = ks1.length → n < r → hasL call m r k1 n1 b1 s1 key ks1 l1 (i : Int) = bR (hasB key (ks1.drop i)) := by
  intro n
  induction n with
  | zero =>
    intro i r hi hr
    cases r with
    | zero => omega
    | succ r =>
      rw [has_1, show decide ((i : Int) < ks1.length) = false from decide_eq_false (by omega), List.drop_eq_nil_of_le (by omega)]
      rfl
  | succ n ih =>
    intro i r hi hr
    cases r with
    | zero => omega
    | succ r =>
      have h1 : i < ks1.length := by omega
      have ih := ih (i + 1) r (by omega) (by omega)
      rw [show ((i + 1 : Nat) : Int) = (i : Int) + 1 by omega] at ih
      rw [has_1, show decide ((i : Int) < ks1.length) = true from decide_eq_true (by omega), idx_at h1, W_in (n := (i : Int) + 1) (by omega), ih, List.drop_eq_getElem_cons h1]
      simp only [cond_true, Option.bind_some, hasB]
      cases ((ks1[i].at 0).toS.toList == key.toList) <;> rfl
theorem has_sound {ext : CallF} (hext : SoundCall PR ext) : SoundCall PR (addF 42 hasE ext) := by
  refine sound_add (takes := TK) hmixP hext _ (fn := (PR.funcs[42]?).getD default) (by kernel_rfl) (by kernel_rfl) hasE fun xs bs out h => ?_
  unfold hasE at h
  split at h
  · injection h with h
    injection h with h1 h2
    subst h2
    rename_i k1 b1 n1 s1 ks1 l1 key
    have hf := Nat.le_of_ble_eq_true h1
    refine ⟨1000001, (has_0 _ _ _ _ _ _ _ _ _).trans ?_⟩
    have e := has_loop (call := ext) (m := 1000001) (k1 := k1) (n1 := n1) (b1 := b1) (s1 := s1) (key := key) (l1 := l1) hf ks1.length 0 1000001 (by omega) (by omega)
    rw [List.drop_zero] at e
    exact e
  · cases h
theorem chkC_sound : SoundCall PR chkC := sound_both Good_sound (stm_sound sound_none)
theorem chk_loop {m : Nat} {l : List Dat} {root : Int} (hl : l.length ≤ 1000000) (hk : okF l) :
    ∀ (n i r : Nat), i + n = l.length → n < r → chkL chkC m r l root (i : Int) = iR (bif (l.drop i).any rbadB then 50 else 0) := by
  intro n
  induction n with
  | zero =>
    intro i r hi hr
    cases r with
    | zero => omega
    | succ r =>
      rw [chk_1, show decide ((i : Int) < l.length) = false from decide_eq_false (by omega), List.drop_eq_nil_of_le (by omega)]
      rfl
  | succ n ih =>
    intro i r hi hr
    cases r with
    | zero => omega
    | succ r =>
      have h1 : i < l.length := by omega
      have ih := ih (i + 1) r (by omega) (by omega)
      rw [show ((i + 1 : Nat) : Int) = (i : Int) + 1 by omega] at ih
      have hd := hk _ (List.getElem_mem h1)
      rw [chk_1, show decide ((i : Int) < l.length) = true from decide_eq_true (by omega), idx_at h1, W_in (n := (i : Int) + 1) (by omega), ih, List.drop_eq_getElem_cons h1]
      simp only [cond_true, Option.bind_some]
      rw [decP_eq (okO_of hd.1), decP_eq hd]
      simp only [andK_eq, andO_eq, orO_eq, cond_true]
      rw [List.any_cons, ← bad_eq l[i]]
      show (bif _ then iR 50 else _) = iR (bif pbadB l[i] || _ then 50 else 0)
      have e : pbadB l[i] = ((!(ogO 101 (nrm l[i]) 32 65536).1 || (!(l[i].at 6).toB && !((l[i].at 7).toS.toList == (⟨#[]⟩ : ByteArray).toList))) || ((l[i].at 6).toB && !stmB (l[i].at 0).toI (l[i].at 2).toI (l[i].at 1).toB (l[i].at 3).toS (l[i].at 4).toL (l[i].at 5).toL)) := by
        unfold pbadB; rw [Bool.or_assoc]
      rw [← e]
      cases pbadB l[i] <;> rfl
theorem chkF_eq {l : List Dat} {root : Int} (X : Option Out) (h : ((((l.length : Int) == 0 || decide ((l.length : Int) > 4096)) || decide (root < 1)) || decide (root > l.length)) = false → l.length ≤ 4096 → X = iR (bif l.any rbadB then 50 else 0)) :
    (orK ((l.length : Int) == 0) (decide ((l.length : Int) > 4096)) fun t => orK t (decide (root < 1)) fun t => orK t (decide (root > l.length)) fun t => bif t then iR 1 else X) = iR (chkF l root) := by
  simp only [orK_eq]
  unfold chkF
  cases hc : (((l.length : Int) == 0 || decide ((l.length : Int) > 4096)) || decide (root < 1)) || decide (root > l.length)
  · refine h hc ?_
    have : decide ((l.length : Int) > 4096) = false := by
      simp only [Bool.or_eq_false_iff] at hc
      exact hc.1.1.2
    have := of_decide_eq_false this
    omega
  · rfl
theorem check_sound {ext : CallF} (hext : SoundCall PR ext) : SoundCall PR (addF 17 checkE ext) := by
  refine sound_both (sound_add (takes := TK) hmixP chkC_sound _ (fn := (PR.funcs[17]?).getD default) (by kernel_rfl) (by kernel_rfl) checkE fun xs bs out h => ?_) hext
  unfold checkE at h
  split at h
  · rename_i l root
    injection h with h
    injection h with h1 h2
    subst h2
    have hk := decP_of h1
    refine ⟨1000001, (chk_0 _ _ _ _).trans (chkF_eq _ fun _ hl => ?_)⟩
    have e := chk_loop (m := 1000001) (root := root) (by omega) hk l.length 0 1000001 (by omega) (by omega)
    rw [List.drop_zero] at e
    exact e
  · cases h
theorem rchkC_sound : SoundCall PR rchkC := sound_both count_sound (has_sound sound_none)
theorem rchk_loop {m : Nat} {l : List Dat} {root : Int} (hl : l.length ≤ 1000000) (hk : okF l) :
    ∀ (n i r : Nat), i + n = l.length → n < r → rchkL rchkC m r l root (i : Int) = iR (bif (l.drop i).any rbadB then 50 else 0) := by
  intro n
  induction n with
  | zero =>
    intro i r hi hr
    cases r with
    | zero => omega
    | succ r =>
      rw [rchk_1, show decide ((i : Int) < l.length) = false from decide_eq_false (by omega), List.drop_eq_nil_of_le (by omega)]
      rfl
  | succ n ih =>
    intro i r hi hr
    cases r with
    | zero => omega
    | succ r =>
      have h1 : i < l.length := by omega
      have ih := ih (i + 1) r (by omega) (by omega)
      rw [show ((i + 1 : Nat) : Int) = (i : Int) + 1 by omega] at ih
      have hd := hk _ (List.getElem_mem h1)
      have hb := goodO_bd 101 (nrm l[i]) 0 0 (by decide)
      rw [rchk_1, show decide ((i : Int) < l.length) = true from decide_eq_true (by omega), idx_at h1, W_in (n := (i : Int) + 1) (by omega), ih, List.drop_eq_getElem_cons h1]
      simp only [cond_true, Option.bind_some]
      rw [decP_eq (okG_of hd.1), Nat.ble_eq_true_of_le (show (l[i].at 4).toL.length ≤ 1000000 by have := hd.2.1; omega), W_in (n := goodO 101 (nrm l[i]) 0 0 - 1) (by omega)]
      simp only [andK_eq, andO_eq, orO_eq, cond_true]
      rw [List.any_cons]
      have e : rbadB l[i] = ((decide (goodO 101 (nrm l[i]) 0 0 < 0) || (!(l[i].at 6).toB && !((l[i].at 7).toS.toList == (⟨#[]⟩ : ByteArray).toList))) || ((l[i].at 6).toB && ((((l[i].at 0).toI != 7) || hasB lenS (l[i].at 4).toL) || decide (goodO 101 (nrm l[i]) 0 0 - 1 ≥ 65535)))) := by
        unfold rbadB; simp only [Bool.or_assoc]
      rw [← e]
      cases rbadB l[i] <;> rfl
theorem rcheck_sound {ext : CallF} (hext : SoundCall PR ext) : SoundCall PR (addF 18 checkE ext) := by
  refine sound_both (sound_add (takes := TK) hmixP rchkC_sound _ (fn := (PR.funcs[18]?).getD default) (by kernel_rfl) (by kernel_rfl) checkE fun xs bs out h => ?_) hext
  unfold checkE at h
  split at h
  · rename_i l root
    injection h with h
    injection h with h1 h2
    subst h2
    have hk := decP_of h1
    refine ⟨1000001, (rchk_0 _ _ _ _).trans ?_⟩
    have e0 : decide ((l.length : Int) < 1) = ((l.length : Int) == 0) := by
      by_cases h : l.length = 0
      · rw [h]; rfl
      · rw [decide_eq_false (by omega)]
        symm
        simpa using h
    rw [e0]
    refine chkF_eq _ fun _ hl => ?_
    have e := rchk_loop (m := 1000001) (root := root) (by omega) hk l.length 0 1000001 (by omega) (by omega)
    rw [List.drop_zero] at e
    exact e
  · cases h
end Go.Proofs.YtckdgcpomkefpaaGreatDoor.En
end
section
set_option linter.unusedVariables false
set_option linter.unusedSimpArgs false
set_option maxRecDepth 100000
namespace Go.Proofs.YtckdgcpomkefpaaGreatDoor.En
open Go Go.RowKit
def ksO : List CK := [.int .i64, .bool, .int .i64, .str, .row 9, .row 43]
theorem kinds_O : kinds PR 43 = some ksO := by kernel_rfl
theorem kinds_S : kinds PR 9 = some [.str] := by kernel_rfl
theorem bytes_O : PR.bytesOf 43 = 88 := by kernel_rfl
theorem bytes_S : PR.bytesOf 9 = 16 := by kernel_rfl
theorem reach_le : reachBytes ≤ 140737488355328 := of_decide_eq_true (by kernel_rfl)
theorem sz_str {d : Dat} (h : Sz PR .str d) : d.toS.size ≤ 140737488355328 := by
  cases h with
  | str d h => exact Nat.le_trans h reach_le
theorem sz_keys {d : Dat} (h : Sz PR (.row 9) d) : d.toL.length ≤ 140737488355328 ∧ ∀ e ∈ d.toL, (e.at 0).toS.size ≤ 140737488355328 := by
  cases h with
  | row E ks d hk hl hc =>
    rw [bytes_S] at hl
    rw [kinds_S] at hk
    cases hk
    refine ⟨?_, fun e he => sz_str (hc e he 0 .str rfl)⟩
    have := reach_le
    omega
theorem fitZ_of {s : ByteArray} {ks l : List Dat} (hs : s.size ≤ 140737488355328) (hk : ks.length ≤ 140737488355328 ∧ ∀ e ∈ ks, (e.at 0).toS.size ≤ 140737488355328) : ∀ (n : Nat) (d : Dat), l = d.toL → Sz PR (.row 43) d → fitZ n s ks l := by
  intro n
  induction n generalizing s ks l with
  | zero => intro d _ _; trivial
  | succ n ih =>
    intro d e h
    subst e
    cases h with
    | row E ks' d hk' hl hc =>
      rw [bytes_O] at hl
      rw [kinds_O] at hk'
      cases hk'
      have := reach_le
      refine ⟨hs, hk.1, by omega, hk.2, fun e he => ?_⟩
      exact ih (sz_str (hc e he 3 .str rfl)) (sz_keys (hc e he 4 _ rfl)) (e.at 5) rfl (hc e he 5 _ rfl)
end Go.Proofs.YtckdgcpomkefpaaGreatDoor.En
end
section
set_option linter.unusedVariables false
set_option linter.unusedSimpArgs false
set_option maxRecDepth 100000
namespace Go.Proofs.YtckdgcpomkefpaaGreatDoor.En
open Go Go.RowKit
section
variable (m : Nat) (k1 n1 k2 n2 : Int) (b1 b2 : Bool) (s1 s2 : ByteArray) (ks1 l1 ks2 l2 : List Dat)
end
theorem flatB_len {k1 n1 : Int} {b1 : Bool} {s1 : ByteArray} {ks1 l1 l2 : List Dat} (h : l1.length = l2.length) : flatB k1 n1 b1 s1 ks1 l1 = flatB k1 n1 b1 s1 ks1 l2 := by
  unfold flatB bareB kindB
  rw [h]
theorem goodO_copy : ∀ (k : Nat) (d : Dat) (nest ahead : Int), goodO k (copyO k d) nest ahead = goodO k d nest ahead
  | 0, d, nest, ahead => rfl
  | k + 1, d, nest, ahead => by
    have hl : ∀ (nest : Int) (l : List Dat) (n : Int), itemsG (fun e n => goodO k e nest n) (l.map (copyO k)) n = itemsG (fun e n => goodO k e nest n) l n := fun nest l => by
      induction l with
      | nil => intro n; rfl
      | cons d l ih =>
        intro n
        rw [List.map_cons]
        show (bif decide (goodO k (copyO k d) nest n < 0) then -1 else itemsG (fun e n => goodO k e nest n) (l.map (copyO k)) (goodO k (copyO k d) nest n)) = (bif decide (goodO k d nest n < 0) then -1 else itemsG (fun e n => goodO k e nest n) l (goodO k d nest n))
        rw [goodO_copy k d, ih]
    have hf : flatD (copyO (k + 1) d) = flatD d := flatB_len (by show ((d.at 5).toL.map (copyO k)).length = _; rw [List.length_map])
    unfold goodO
    rw [hf]
    show (bif decide (ahead + 1 > 65536) || !flatD d then -1 else bif (d.at 0).toI == 6 || (d.at 0).toI == 7 then (bif decide (nest + 1 > 32) then -1 else itemsG (fun e n => goodO k e (nest + 1) n) ((d.at 5).toL.map (copyO k)) (ahead + 1)) else itemsG (fun e n => goodO k e nest n) ((d.at 5).toL.map (copyO k)) (ahead + 1)) = _
    rw [hl, hl]
theorem keyZ_copy : ∀ (k j : Nat) (ks l : List Dat), keyZ k ks l → keyZ k ks (l.map (copyO j))
  | 0, j, ks, l, h => trivial
  | k + 1, j, ks, l, h => by
    refine ⟨h.1, fun e he => ?_⟩
    obtain ⟨d, hd, rfl⟩ := List.mem_map.1 he
    have := h.2 d hd
    cases j with
    | zero => exact this
    | succ j => exact keyZ_copy k j (d.at 4).toL (d.at 5).toL this
theorem keyZ_of : ∀ (k : Nat) (s : ByteArray) (ks l : List Dat), fitZ k s ks l → keyZ k ks l
  | 0, s, ks, l, _ => trivial
  | k + 1, s, ks, l, h => by
    obtain ⟨h1, h2, h3, h4, h5⟩ := h
    exact ⟨fun d hd => Nat.le_trans (h4 d hd) (by unfold maxLen; decide), fun d hd => keyZ_of k _ _ _ (h5 d hd)⟩
end Go.Proofs.YtckdgcpomkefpaaGreatDoor.En
end
section
set_option linter.unusedVariables false
set_option linter.unusedSimpArgs false
set_option maxRecDepth 100000
namespace Go.Proofs.YtckdgcpomkefpaaGreatDoor.En
open Go Go.RowKit
section
variable (m : Nat) (k1 n1 : Int) (b1 : Bool) (s1 : ByteArray) (ks1 l1 : List Dat)
end
theorem txtO_copy : ∀ (k : Nat) (d : Dat), txtO k (copyO k d) = txtO k d
  | 0, d => rfl
  | k + 1, d => by
    have h1 : ∀ (l : List Dat) (first : Bool), sepT (txtO k) first (l.map (copyO k)) = sepT (txtO k) first l := fun l => by
      induction l with
      | nil => intro _; rfl
      | cons d l ih => intro first; rw [List.map_cons, sepT_cons, sepT_cons, txtO_copy k d, ih]
    have h2 : ∀ (ks l : List Dat) (first : Bool), dicT (txtO k) first ks (l.map (copyO k)) = dicT (txtO k) first ks l := fun ks => by
      induction ks with
      | nil => intro l first; cases l <;> rfl
      | cons key ks ih =>
        intro l first
        cases l with
        | nil => rfl
        | cons d l => rw [List.map_cons, dicT_cons, dicT_cons, txtO_copy k d, ih]
    show txtK (txtO k) (d.at 0).toI (d.at 2).toI (d.at 1).toB (d.at 3).toS (d.at 4).toL ((d.at 5).toL.map (copyO k)) = txtK (txtO k) (d.at 0).toI (d.at 2).toI (d.at 1).toB (d.at 3).toS (d.at 4).toL (d.at 5).toL
    unfold txtK
    rw [h1, h2]
end Go.Proofs.YtckdgcpomkefpaaGreatDoor.En
end
section
set_option linter.unusedVariables false
set_option linter.unusedSimpArgs false
set_option maxRecDepth 100000
namespace Go.Proofs.YtckdgcpomkefpaaGreatDoor.En
open Go
theorem printS_copy (d : Dat) : printS (copyO 101 d) = printS d := by unfold printS; rw [goodO_copy, txtO_copy]
theorem printF_copy (d : Dat) : printF (copyO 101 d) = printF d := by unfold printF; rw [goodO_copy, txtO_copy]
theorem mea_copy (k n : Int) (b : Bool) (s : ByteArray) (ks l : List Dat) (v : Int) : mkO k n b s (meaK ks) (meaL (l.map (copyO 100)) v) = copyO 101 (mkO k n b s (meaK ks) (meaL l v)) := by
  show _ = mkO k n b s (meaK ks) ((meaL l v).map (copyO 100))
  unfold meaL
  rw [List.map_append]
  rfl
theorem okE_copy {ks l : List Dat} (h : okE ks l) : okE ks (l.map (copyO 100)) := by
  obtain ⟨⟨f, z⟩, h1, h2⟩ := h
  exact ⟨⟨fitO_copy 101 (mkO 0 0 false ⟨#[]⟩ ks l) f, keyZ_copy 101 100 ks l z⟩, h1, by rw [List.length_map]; exact h2⟩
theorem rentC_sound : SoundCall PR rentC := sound_both (copy_sound sound_none 101) (sound_both (rprint_sound sound_none) (sound_both dc_sound sound_none))
theorem rent_sound {ext : CallF} (hext : SoundCall PR ext) : SoundCall PR (addF 39 rentE ext) := by
  refine sound_both (sound_add (takes := TK) hmixP rentC_sound _ (fn := (PR.funcs[39]?).getD default) (by kernel_rfl) (by kernel_rfl) rentE fun xs bs out h => ?_) hext
  unfold rentE at h
  split at h
  · rename_i i k1 b1 n1 s1 ks1 l1 st da
    injection h with h
    injection h with h1 h2
    subst h2
    obtain ⟨p1, p2, p3⟩ := decP_of h1
    have hi := (itS_size i).1
    have hz1 : sObj.size = 7 := rfl
    have hz2 : sEnd.size = 8 := rfl
    have hz3 : sStr.size = 8 := rfl
    have hz4 : sEndS.size = 18 := rfl
    refine ⟨1, ?_⟩
    cases st
    · refine (rent_0 _ _ _ _ _ _ _ _ _).trans ?_
      have hp := printS_size (mkO k1 n1 b1 s1 ks1 l1)
      rw [decP_eq p1.1, p3, cond_true, cond_true, glueO_eq _ (by omega), glueO_eq _ (by rw [ByteArray.size_append]; omega), glueO_eq _ (by rw [ByteArray.size_append, ByteArray.size_append]; omega)]
      rfl
    · refine (rent_1 _ _ _ _ _ _ _ _ _).trans ?_
      have hq := okPr_mea (okE_copy p1) da.size
      rw [fitB_eq p1.1.1, fits_ble (by have := p1.2.1; omega), fits_ble (by rw [List.length_map]; have := p1.2.2; omega), cond_true, cond_true, cond_true, glueO_eq _ (by omega), glueO_eq _ (by rw [ByteArray.size_append]; omega), decP_eq hq, p3, cond_true, cond_true, mea_copy, printS_copy, printF_copy]
      have hp := printS_size (mkO k1 n1 b1 s1 (meaK ks1) (meaL l1 da.size))
      rw [glueO_eq _ (by omega), glueO_eq _ (by rw [ByteArray.size_append]; omega), glueO_eq _ (by simp only [ByteArray.size_append]; omega)]
      rfl
  · cases h
theorem tenT_size (n : Int) : (tenT n).size = 10 := by
  unfold tenT X.tenS
  show ((List.range 10).map _).toArray.size = 10
  simp
theorem usedW_len : ∀ (l b : List Dat), (usedW b l).length = b.length + 20 * l.length
  | [], b => by simp [usedW]
  | d :: l, b => by
    show (usedW ((b ++ bytesTo (tenT (d.at 0).toI)) ++ bytesTo sUsed) l).length = _
    rw [usedW_len l, List.length_append, List.length_append, bytesTo_len, bytesTo_len, tenT_size, List.length_cons]
    have : sUsed.size = 10 := rfl
    omega
def tlEnd (root start : Int) (s : ByteArray) (b : List Dat) : ByteArray := ((((((bytesOf b ++ sTrail) ++ s) ++ sRoot) ++ itS root) ++ sStart) ++ itS start) ++ sEof
theorem tlEnd_size {root start : Int} {s : ByteArray} {b : List Dat} (hs : s.size ≤ 21) : (tlEnd root start s b).size ≤ b.length + 200 := by
  unfold tlEnd
  simp only [ByteArray.size_append, bytesOf_size]
  have h1 := (itS_size root).1
  have h2 := (itS_size start).1
  have e1 : sTrail.size = 16 := rfl
  have e2 : sRoot.size = 7 := rfl
  have e3 : sStart.size = 17 := rfl
  have e4 : sEof.size = 7 := rfl
  omega
theorem tl_loop {m : Nat} {at_ : List Dat} {root start : Int} {s : ByteArray} (hl : at_.length ≤ 5000) (ht : ∀ d ∈ at_, tenB (d.at 0).toI = true) (hr : dcB root = true) (hst : dcB start = true) (hs : s.size ≤ 21) :
    ∀ (n i r : Nat) (b : List Dat), i + n = at_.length → n < r → b.length ≤ 100 + 20 * i → tlL tlC m r at_ b root start s (i : Int) = tlR (tlEnd root start s (usedW b (at_.drop i))) := by
  intro n
  induction n with
  | zero =>
    intro i r b hi hr' hb
    cases r with
    | zero => omega
    | succ r =>
      have e1 : sTrail.size = 16 := rfl
      have e2 : sRoot.size = 7 := rfl
      have e3 : sStart.size = 17 := rfl
      have e4 : sEof.size = 7 := rfl
      have h1 := (itS_size root).1
      have h2 := (itS_size start).1
      rw [tl_1, show decide ((i : Int) < at_.length) = false from decide_eq_false (by omega), List.drop_eq_nil_of_le (by omega), cond_false]
      have hbs := bytesOf_size b
      rw [glueO_eq _ (by omega), glueO_eq _ (by simp only [ByteArray.size_append]; omega), glueO_eq _ (by simp only [ByteArray.size_append]; omega), hr, cond_true, glueO_eq _ (by simp only [ByteArray.size_append]; omega), glueO_eq _ (by simp only [ByteArray.size_append]; omega), hst, cond_true, glueO_eq _ (by simp only [ByteArray.size_append]; omega), glueO_eq _ (by simp only [ByteArray.size_append]; omega)]
      rfl
  | succ n ih =>
    intro i r b hi hr' hb
    cases r with
    | zero => omega
    | succ r =>
      have h1 : i < at_.length := by omega
      have ht1 := ht _ (List.getElem_mem h1)
      have hz : sUsed.size = 10 := rfl
      have ih := ih (i + 1) r ((b ++ bytesTo (tenT (at_[i].at 0).toI)) ++ bytesTo sUsed) (by omega) (by omega) (by rw [List.length_append, List.length_append, bytesTo_len, bytesTo_len, tenT_size]; omega)
      rw [show ((i + 1 : Nat) : Int) = (i : Int) + 1 by omega] at ih
      rw [tl_1, show decide ((i : Int) < at_.length) = true from decide_eq_true (by omega), idx_at h1, W_in (n := (i : Int) + 1) (by omega), List.drop_eq_getElem_cons h1]
      simp only [cond_true, Option.bind_some]
      rw [ht1, cond_true, fits_ble (by rw [tenT_size]; omega), cond_true, fits_ble (by rw [List.length_append, bytesTo_len, tenT_size]; omega), cond_true, ih]
      rfl
theorem tailS_eq (at_ : List Dat) (root start : Int) : tailS at_ root start = tlEnd root start (itS ((at_.length : Int) + 1)) (usedW (bytesTo ((sXref ++ itS ((at_.length : Int) + 1)) ++ sFree)) at_) := rfl
theorem tailS_size {at_ : List Dat} {root start : Int} (h : at_.length ≤ 5000) : (tailS at_ root start).size ≤ 200000 := by
  rw [tailS_eq]
  have h1 := tlEnd_size (root := root) (start := start) (s := itS ((at_.length : Int) + 1)) (b := usedW (bytesTo ((sXref ++ itS ((at_.length : Int) + 1)) ++ sFree)) at_) (itS_size _).1
  rw [usedW_len, bytesTo_len, ByteArray.size_append, ByteArray.size_append] at h1
  have h2 := (itS_size ((at_.length : Int) + 1)).1
  have e1 : sXref.size = 7 := rfl
  have e2 : sFree.size = 21 := rfl
  omega
theorem tail_sound {ext : CallF} (hext : SoundCall PR ext) : SoundCall PR (addF 40 tailE ext) := by
  refine sound_both (sound_add (takes := TK) hmixP (show SoundCall PR tlC from ten_sound (sound_both dc_sound sound_none)) _ (fn := (PR.funcs[40]?).getD default) (by kernel_rfl) (by kernel_rfl) tailE fun xs bs out h => ?_) hext
  unfold tailE at h
  split at h
  · rename_i at_ root start
    injection h with h
    injection h with h1 h2
    subst h2
    obtain ⟨p1, p2, p3, p4⟩ := decP_of h1
    have hn := (itS_size ((at_.length : Int) + 1)).1
    have e1 : sXref.size = 7 := rfl
    have e2 : sFree.size = 21 := rfl
    have hd : dcB ((at_.length : Int) + 1) = true := by unfold dcB; rw [decide_eq_true (by omega), decide_eq_true (by omega)]; rfl
    refine ⟨5001, (tl_0 _ _ _ _).trans ?_⟩
    rw [W_in (n := (at_.length : Int) + 1) (by omega), hd, cond_true, glueO_eq _ (by omega), glueO_eq _ (by rw [ByteArray.size_append]; omega), fits_ble (by rw [ByteArray.size_append, ByteArray.size_append]; omega), Bool.and_true, cond_true]
    have e := tl_loop (m := 5001) (s := itS ((at_.length : Int) + 1)) p1 p2 p3 p4 hn at_.length 0 5001 (bytesTo ((sXref ++ itS ((at_.length : Int) + 1)) ++ sFree)) (by omega) (by omega) (by rw [bytesTo_len, ByteArray.size_append, ByteArray.size_append]; omega)
    rw [List.drop_zero] at e
    exact e
  · cases h
end Go.Proofs.YtckdgcpomkefpaaGreatDoor.En
end
section
set_option linter.unusedVariables false
set_option linter.unusedSimpArgs false
set_option maxRecDepth 100000
namespace Go.Proofs.YtckdgcpomkefpaaGreatDoor.En
open Go
noncomputable def entD (i : Nat) (d : Dat) : ByteArray := entS ((i : Int) + 1) (enB d) (d.at 6).toB (d.at 7).toS
noncomputable def laysL : Nat → List Dat → List Dat → List Dat → Option (List Dat × List Dat)
  | _, [], b, a => some (b, a)
  | i, d :: l, b, a => bif (printF (enB d) == 0) && !decide (((b.length : Int) + (entD i d).size) > 16777216) then laysL (i + 1) l (b ++ bytesTo (entD i d)) (a ++ [.int b.length]) else none
theorem laysL_cons (i : Nat) (d : Dat) (l b a : List Dat) : laysL i (d :: l) b a = bif (printF (enB d) == 0) && !decide (((b.length : Int) + (entD i d).size) > 16777216) then laysL (i + 1) l (b ++ bytesTo (entD i d)) (a ++ [.int b.length]) else none := rfl
noncomputable def lastL (root : Int) : Option (List Dat × List Dat) → ByteArray × List Dat × Int
  | none => (⟨#[]⟩, [], 2)
  | some (b, a) => bif decide ((((b ++ bytesTo (tailS a root b.length)).length : Nat) : Int) > 16777216) then (⟨#[]⟩, [], 2) else (bytesOf (b ++ bytesTo (tailS a root b.length)), a ++ [.int b.length], 0)
noncomputable def fileR (l : List Dat) (root : Int) : ByteArray × List Dat × Int := bif chkF l root != 0 then (⟨#[]⟩, [], chkF l root) else lastL root (laysL 0 l headL [])
def okL (l : List Dat) : Prop := okF l ∧ ∀ d ∈ l, (d.at 7).toS.size ≤ 140737488355328
noncomputable def layE : List AV → Bx → Option (Bool × Out)
  | [.agg [.row none 64 l, .v (.int .i64 root)]], [none] => some (decP (okL l), .ret (.tup [S (fileR l root).1, .row (some 3) 3 (fileR l root).2.1, I (fileR l root).2.2]) [none])
  | _, _ => none
def okAt (a : List Dat) : Prop := ∀ d ∈ a, 0 ≤ (d.at 0).toI ∧ (d.at 0).toI ≤ 16777216
theorem okAt_snoc {a b : List Dat} (h : okAt a) (hb : b.length ≤ 16777216) : okAt (a ++ [.int b.length]) := fun d hd => by
  rcases List.mem_append.1 hd with hd | hd
  · exact h d hd
  · rw [List.mem_singleton] at hd
    subst hd
    show (0 : Int) ≤ (b.length : Int) ∧ (b.length : Int) ≤ 16777216
    omega
theorem chkF_0 {l : List Dat} {root : Int} (h : chkF l root = 0) : 0 < l.length ∧ l.length ≤ 4096 ∧ 1 ≤ root ∧ root ≤ l.length := by
  unfold chkF at h
  cases hc : (((l.length : Int) == 0 || decide ((l.length : Int) > 4096)) || decide (root < 1)) || decide (root > l.length)
  · simp only [Bool.or_eq_false_iff] at hc
    obtain ⟨⟨⟨h1, h2⟩, h3⟩, h4⟩ := hc
    have := of_decide_eq_false h2
    have := of_decide_eq_false h3
    have := of_decide_eq_false h4
    have : ¬ (l.length : Int) = 0 := by simpa using h1
    omega
  · rw [hc] at h; cases h
theorem dcB_of {n : Int} (h0 : 0 ≤ n) (h1 : n ≤ 10000000000000000) : dcB n = true := by unfold dcB; rw [decide_eq_true h0, decide_eq_true h1]; rfl
theorem tenB_of {n : Int} (h0 : 0 ≤ n) (h1 : n ≤ 4611686018427387904) : tenB n = true := by unfold tenB; rw [decide_eq_true h0, decide_eq_true h1]; rfl
theorem entS_size (i : Int) (d : Dat) (st : Bool) (da : ByteArray) : (entS i d st da).size ≤ 1048700 + da.size := by
  unfold entS
  have h1 := (itS_size i).1
  have h2 := printS_size d
  have z1 : sObj.size = 7 := rfl
  have z2 : sEnd.size = 8 := rfl
  have z3 : sStr.size = 8 := rfl
  have z4 : sEndS.size = 18 := rfl
  cases st
  · rw [cond_false]; simp only [ByteArray.size_append]; omega
  · rw [cond_true]; simp only [ByteArray.size_append]; omega
theorem lyC_sound : SoundCall PR lyC := rcheck_sound (rent_sound (tail_sound sound_none))
def lyO (x : ByteArray × List Dat × Int) : Option Out := lyR x.1 x.2.1 x.2.2
theorem ly_loop {m : Nat} {l : List Dat} {root : Int} (hl : l.length ≤ 4096) (hk : okL l) (h1 : 1 ≤ root) (h2 : root ≤ l.length) :
    ∀ (n i r : Nat) (b a : List Dat), i + n = l.length → n < r → b.length ≤ 16777216 → a.length = i → okAt a → lyL lyC m r l root b a (i : Int) = lyO (lastL root (laysL i (l.drop i) b a)) := by
  intro n
  induction n with
  | zero =>
    intro i r b a hi hr hb ha hat
    cases r with
    | zero => omega
    | succ r =>
      rw [ly_1, show decide ((i : Int) < l.length) = false from decide_eq_false (by omega), List.drop_eq_nil_of_le (by omega), cond_false]
      have ho : okTl a root b.length := ⟨by omega, fun d hd => tenB_of (hat d hd).1 (by have := (hat d hd).2; omega), dcB_of (by omega) (by omega), dcB_of (by omega) (by omega)⟩
      have hs := tailS_size (root := root) (start := b.length) (at_ := a) (by omega)
      rw [decP_eq ho, cond_true, fits_le (by omega), cond_true, fits_le (by omega)]
      show _ = lyO (bif decide ((((b ++ bytesTo (tailS a root b.length)).length : Nat) : Int) > 16777216) then (⟨#[]⟩, [], 2) else (bytesOf (b ++ bytesTo (tailS a root b.length)), a ++ [.int b.length], 0))
      cases decide ((((b ++ bytesTo (tailS a root b.length)).length : Nat) : Int) > 16777216) <;> rfl
  | succ n ih =>
    intro i r b a hi hr hb ha hat
    cases r with
    | zero => omega
    | succ r =>
      have hlt : i < l.length := by omega
      have hd := hk.1 _ (List.getElem_mem hlt)
      have hda := hk.2 _ (List.getElem_mem hlt)
      have hz := entS_size ((i : Int) + 1) (enB l[i]) (l[i].at 6).toB (l[i].at 7).toS
      rw [ly_1, show decide ((i : Int) < l.length) = true from decide_eq_true (by omega), idx_at hlt, W_in (n := (i : Int) + 1) (by omega), List.drop_eq_getElem_cons hlt]
      simp only [cond_true, Option.bind_some]
      have hcond : okE (l[i].at 4).toL (l[i].at 5).toL ∧ (l[i].at 7).toS.size ≤ 140737488355328 ∧ dcB ((i : Int) + 1) = true := ⟨hd, hda, dcB_of (by omega) (by omega)⟩
      rw [decP_eq hcond, cond_true, orK_eq]
      have hz' : (entD i l[i]).size ≤ 1048700 + (l[i].at 7).toS.size := hz
      have hw : W ((b.length : Int) + ((entD i l[i]).size : Int)) = (b.length : Int) + ((entD i l[i]).size : Int) := W_in (by omega)
      have e2 : entS ((i : Int) + 1) (enB l[i]) (l[i].at 6).toB (l[i].at 7).toS = entD i l[i] := rfl
      rw [laysL_cons, e2]
      rw [hw]
      clear hcond hw hz
      cases hF : printF (enB l[i]) == 0
      · rfl
      · by_cases hc : ((b.length : Int) + (entD i l[i]).size) > 16777216
        · rw [decide_eq_true hc]; rfl
        · rw [decide_eq_false hc, Bool.not_true, Bool.false_or, cond_false, Bool.not_false, Bool.and_self, cond_true, fits_le (by omega), cond_true, fits_le (by omega), cond_true]
          have := ih (i + 1) r (b ++ bytesTo (entD i l[i])) (a ++ [.int b.length]) (by omega) (by omega) (by rw [List.length_append, bytesTo_len]; omega) (by rw [List.length_append, List.length_singleton]; omega) (okAt_snoc hat hb)
          rw [show ((i + 1 : Nat) : Int) = (i : Int) + 1 by omega] at this
          exact this
theorem headL_len : headL.length = 15 := rfl
theorem lay_sound {ext : CallF} (hext : SoundCall PR ext) : SoundCall PR (addF 16 layE ext) := by
  refine sound_both (sound_add (takes := TK) hmixP lyC_sound _ (fn := (PR.funcs[16]?).getD default) (by kernel_rfl) (by kernel_rfl) layE fun xs bs out h => ?_) hext
  unfold layE at h
  split at h
  · rename_i l root
    injection h with h
    injection h with h1 h2
    subst h2
    have hk := decP_of h1
    refine ⟨5000, (ly_0 _ _ _).trans ?_⟩
    rw [decP_eq hk.1, cond_true]
    unfold fileR
    cases hc : chkF l root != 0
    · have h0 : chkF l root = 0 := by simpa using hc
      obtain ⟨c1, c2, c3, c4⟩ := chkF_0 h0
      have e := ly_loop (m := 5000) c2 hk c3 c4 l.length 0 5000 headL [] (by omega) (by omega) (by rw [headL_len]; omega) rfl (fun d hd => by cases hd)
      rw [List.drop_zero] at e
      exact e
    · rfl
  · cases h
end Go.Proofs.YtckdgcpomkefpaaGreatDoor.En
end
section
set_option linter.unusedVariables false
set_option linter.unusedSimpArgs false
set_option maxRecDepth 100000
namespace Go.Proofs.YtckdgcpomkefpaaGreatDoor.En
open Go
theorem digits_one : ∀ (k p : Nat), p < 10 ^ k → natDigits (10 ^ k + p) = 1 :: (List.range k).map fun j => p / 10 ^ (k - 1 - j) % 10
  | 0, p, h => by
    have : p = 0 := by simpa using h
    subst this
    exact natDigits_small (by decide)
  | k + 1, p, h => by
    have h0 : 0 < 10 ^ k := Nat.pow_pos (by decide)
    have e : 10 ^ (k + 1) = 10 * 10 ^ k := by rw [Nat.pow_succ]; omega
    have h1 : ¬ 10 ^ (k + 1) + p < 10 := by omega
    have e1 : (10 ^ (k + 1) + p) / 10 = 10 ^ k + p / 10 := by omega
    have e2 : (10 ^ (k + 1) + p) % 10 = p % 10 := by omega
    rw [natDigits_big h1, e1, e2, digits_one k (p / 10) (by omega), List.range_succ, List.map_append, List.cons_append]
    congr 1
    congr 1
    · refine List.map_congr_left fun j hj => ?_
      rw [List.mem_range] at hj
      rw [Nat.div_div_eq_div_mul]
      congr 2
      rw [show k + 1 - 1 - j = (k - 1 - j) + 1 by omega, Nat.pow_succ, Nat.mul_comm]
    · simp
theorem cut_ten {p : Int} (h0 : 0 ≤ p) (h1 : p < 10000000000) : cut1 (itS (10000000000 + p)) = tenT p ∧ (itS (10000000000 + p)).size = 11 := by
  obtain ⟨u, rfl⟩ : ∃ u : Nat, p = (u : Int) := ⟨p.toNat, by omega⟩
  have e0 : (10000000000 : Int) + (u : Int) = ((10 ^ 10 + u : Nat) : Int) := by omega
  have hlen : (asU (natDigits (10 ^ 10 + u))).length = 11 := by
    rw [asU_length, digits_one 10 u (by omega)]; simp
  rw [e0, itS_nat (10 ^ 10 + u) (by omega)]
  have hsz : (bs (asU (natDigits (10 ^ 10 + u)))).size = 11 := by rw [bs_size, hlen]
  refine ⟨?_, hsz⟩
  unfold cut1
  rw [hsz]
  refine ba_inj ?_
  show ((bs (asU (natDigits (10 ^ 10 + u)))).extract 1 11).data.toList = (tenT (u : Int)).data.toList
  rw [digits_one 10 u (by omega)]
  simp only [ByteArray.data_extract, Array.toList_extract]
  rfl
theorem good_ref {r : Int} (h1 : 1 ≤ r) (h2 : r ≤ 4096) (nest c : Int) : goodO 100 (mkO 8 r false ⟨#[]⟩ [] []) nest c = bif decide (c + 1 > 65536) then -1 else c + 1 := by
  have hf : flatD (mkO 8 r false ⟨#[]⟩ [] []) = true := by
    show (!bareB 8 r false ⟨#[]⟩ [] [] && kindB 8 r ⟨#[]⟩ [] []) = true
    have e1 : bareB 8 r false ⟨#[]⟩ [] [] = false := by simp [bareB]
    have e2 : kindB 8 r ⟨#[]⟩ [] [] = (decide (r ≥ 1) && decide (r ≤ 4096)) := rfl
    rw [e1, e2, decide_eq_true (show r ≥ 1 from h1), decide_eq_true h2]; rfl
  show (bif decide (c + 1 > 65536) || !flatD (mkO 8 r false ⟨#[]⟩ [] []) then -1 else _) = _
  rw [hf, Bool.not_true, Bool.or_false]
  rfl
theorem good_dict (n : Int) (b : Bool) (s : ByteArray) (ks l : List Dat) : goodO 101 (mkO 7 n b s ks l) 0 0 = bif !flatD (mkO 7 n b s ks l) then -1 else itemsG (fun e n => goodO 100 e 1 n) l 1 := by
  show (bif decide ((0 : Int) + 1 > 65536) || !flatD (mkO 7 n b s ks l) then -1 else (bif (7 : Int) == 6 || (7 : Int) == 7 then (bif decide ((0 : Int) + 1 > 32) then -1 else itemsG (fun e n => goodO 100 e (0 + 1) n) l (0 + 1)) else _)) = _
  rfl
theorem itemsG_two (f : Dat → Int → Int) (x y : Dat) (n : Int) : itemsG f [x, y] n = bif decide (f x n < 0) then -1 else (bif decide (f y (f x n) < 0) then -1 else f y (f x n)) := rfl
theorem good_trl {n r : Int} (hn : inB n = true) (h1 : 1 ≤ r) (h2 : r ≤ 4096) : goodO 101 (trlD n r) 0 0 = 3 := by
  have hf : flatD (trlD n r) = true := by
    show (!bareB 7 0 false ⟨#[]⟩ trlK (trlL n r) && kindB 7 0 ⟨#[]⟩ trlK (trlL n r)) = true
    have e1 : bareB 7 0 false ⟨#[]⟩ trlK (trlL n r) = false := by simp [bareB]
    have e2 : kindB 7 0 ⟨#[]⟩ trlK (trlL n r) = keysR [] trlK := rfl
    have e3 : keysR [] trlK = true := by kernel_rfl
    rw [e1, e2, e3]; rfl
  unfold trlD at hf ⊢
  rw [good_dict, hf, Bool.not_true, cond_false]
  unfold trlL
  rw [itemsG_two]
  simp only [good_num hn, good_ref h1 h2]
  rfl
def tA : ByteArray := ⟨#[60, 60, 47, 83, 105, 122, 101, 32]⟩
def tB : ByteArray := ⟨#[32, 47, 82, 111, 111, 116, 32]⟩
def tC3 : ByteArray := ⟨#[32, 48, 32, 82, 62, 62]⟩
theorem txt_trl (n r : Int) : txtO 101 (trlD n r) = bytesTo tA ++ (bytesTo (itS n) ++ (bytesTo tB ++ (bytesTo (itS r) ++ bytesTo tC3))) := by
  have e : txtO 101 (trlD n r) = ((bytesTo ⟨#[60, 60]⟩) ++ (((([] ++ nameT kSize) ++ [Dat.int 32]) ++ bytesTo (itS n)) ++ (((([Dat.int 32] ++ nameT kRoot) ++ [Dat.int 32]) ++ bytesTo (itS r ++ refT)) ++ []))) ++ bytesTo ⟨#[62, 62]⟩ := rfl
  have e1 : bytesTo tA = bytesTo ⟨#[60, 60]⟩ ++ (nameT kSize ++ [Dat.int 32]) := by kernel_rfl
  have e2 : bytesTo tB = [Dat.int 32] ++ (nameT kRoot ++ [Dat.int 32]) := by kernel_rfl
  have e3 : bytesTo tC3 = bytesTo refT ++ bytesTo ⟨#[62, 62]⟩ := by kernel_rfl
  rw [e, e1, e2, e3, bytesTo_append]
  simp only [List.append_assoc, List.nil_append, List.append_nil]
theorem trl_print {n r : Int} (hn : inB n = true) (h1 : 1 ≤ r) (h2 : r ≤ 4096) : printF (trlD n r) = 0 ∧ bytesTo (printS (trlD n r)) = bytesTo tA ++ (bytesTo (itS n) ++ (bytesTo tB ++ (bytesTo (itS r) ++ bytesTo tC3))) := by
  have hl : (txtO 101 (trlD n r)).length ≤ 100 := by
    rw [txt_trl]
    simp only [List.length_append, bytesTo_len]
    have := (itS_size n).1
    have := (itS_size r).1
    have e1 : tA.size = 8 := rfl
    have e2 : tB.size = 7 := rfl
    have e3 : tC3.size = 6 := rfl
    omega
  have hg : decide (goodO 101 (trlD n r) 0 0 > 0) = true := by rw [good_trl hn h1 h2]; rfl
  have hs : decide (((txtO 101 (trlD n r)).length : Int) > 1048576) = false := decide_eq_false (by omega)
  unfold printF printS
  rw [hg, hs]
  exact ⟨rfl, (to_of (isBy_txtO 101 _)).trans (txt_trl n r)⟩
end Go.Proofs.YtckdgcpomkefpaaGreatDoor.En
end
section
set_option linter.unusedVariables false
set_option linter.unusedSimpArgs false
set_option maxRecDepth 100000
namespace Go.Proofs.YtckdgcpomkefpaaGreatDoor.En
open Go
noncomputable def entsW : Nat → List Dat → List Dat × Int → List Dat → (List Dat × Int) × List Dat
  | _, [], x, a => (x, a)
  | i, d :: l, x, a => entsW (i + 1) l (entW x ((i : Int) + 1) (enB d) (d.at 6).toB (d.at 7).toS) (a ++ [.int x.1.length])
theorem entsW_cons (i : Nat) (d : Dat) (l : List Dat) (x : List Dat × Int) (a : List Dat) : entsW i (d :: l) x a = entsW (i + 1) l (entW x ((i : Int) + 1) (enB d) (d.at 6).toB (d.at 7).toS) (a ++ [.int x.1.length]) := rfl
theorem ents_len : ∀ (l : List Dat) (i : Nat) (x : List Dat × Int) (a : List Dat), x.1.length ≤ 16777216 → okAt a → (entsW i l x a).1.1.length ≤ 16777216 ∧ (entsW i l x a).2.length = a.length + l.length ∧ okAt (entsW i l x a).2
  | [], i, x, a, h, ha => ⟨h, rfl, ha⟩
  | d :: l, i, x, a, h, ha => by
    rw [entsW_cons]
    obtain ⟨h1, h2, h3⟩ := ents_len l (i + 1) (entW x ((i : Int) + 1) (enB d) (d.at 6).toB (d.at 7).toS) (a ++ [.int x.1.length]) (entW_len h) (okAt_snoc ha h)
    refine ⟨h1, ?_, h3⟩
    rw [h2, List.length_append, List.length_singleton, List.length_cons]; omega
theorem stuck_ents : ∀ (l : List Dat) (i : Nat) (x : List Dat × Int) (a : List Dat), stuck x → stuck (entsW i l x a).1
  | [], i, x, a, h => h
  | d :: l, i, x, a, h => stuck_ents l (i + 1) _ _ (stuck_ent h _ _ _ _)
def printed (d : Dat) : Prop := printF (enB d) = 0 ∨ printF (enB d) = 2
theorem ents_lays : ∀ (l : List Dat) (i : Nat) (b a : List Dat), (∀ d ∈ l, printed d) → b.length ≤ 16777216 →
    (∀ b' a', laysL i l b a = some (b', a') → entsW i l (b, 0) a = ((b', 0), a')) ∧ (laysL i l b a = none → stuck (entsW i l (b, 0) a).1)
  | [], i, b, a, _, hb => ⟨fun b' a' h => (by cases h; rfl), fun h => (by cases h)⟩
  | d :: l, i, b, a, hp, hb => by
    rw [laysL_cons, entsW_cons]
    have he : bytesTo (entD i d) = bytesTo (entS ((i : Int) + 1) (enB d) (d.at 6).toB (d.at 7).toS) := rfl
    rcases hp d (by simp) with h0 | h2
    · have e0 : (printF (enB d) == 0) = true := by rw [h0]; rfl
      rw [e0, Bool.true_and]
      rcases ent_wrote hb ((i : Int) + 1) h0 (d.at 6).toB (d.at 7).toS with ⟨h3, h4⟩ | ⟨h3, h4⟩
      · rw [← he, bytesTo_len] at h3
        rw [decide_eq_false (by omega), Bool.not_false, cond_true, h4, ← he]
        exact ents_lays l (i + 1) _ _ (fun e he => hp e (by simp [he])) (by rw [List.length_append, bytesTo_len]; exact h3)
      · rw [← he, bytesTo_len] at h3
        rw [decide_eq_true (by omega), Bool.not_true, cond_false]
        exact ⟨fun b' a' h => (by cases h), fun _ => stuck_ents l _ _ _ h4⟩
    · have e0 : (printF (enB d) == 0) = false := by rw [h2]; rfl
      rw [e0, Bool.false_and, cond_false]
      exact ⟨fun b' a' h => (by cases h), fun _ => stuck_ents l _ _ _ (ent_stuck hb _ h2 _ _)⟩
theorem lays_by : ∀ (l : List Dat) (i : Nat) (b a b' a' : List Dat), isBy b → laysL i l b a = some (b', a') → isBy b'
  | [], i, b, a, b', a', hb, h => by cases h; exact hb
  | d :: l, i, b, a, b', a', hb, h => by
    rw [laysL_cons] at h
    obtain ⟨_, h⟩ := bif_some h
    exact lays_by l (i + 1) _ _ b' a' (hb.app (isBy_to _)) h
theorem printed_of {d : Dat} (h : rbadB d = false) (hd : (d.at 7).toS.size ≤ 1000000000) : printed d := by
  unfold rbadB at h
  simp only [Bool.or_eq_false_iff] at h
  obtain ⟨h1, h2, h3⟩ := h
  have hg : goodO 101 (nrm d) 0 0 > 0 := by
    have := of_decide_eq_false h1
    have := goodO_ne 101 (nrm d) 0 0 (by decide)
    omega
  have key : decide (goodO 101 (enB d) 0 0 > 0) = true := by
    unfold enB bodyD
    cases hs : (d.at 6).toB
    · exact decide_eq_true hg
    · rw [hs, Bool.true_and] at h3
      simp only [Bool.or_eq_false_iff] at h3
      obtain ⟨h4, h5, h6⟩ := h3
      have h7 : (d.at 0).toI = 7 := by simpa using h4
      have e0 : nrm d = mkO 7 (d.at 2).toI (d.at 1).toB (d.at 3).toS (d.at 4).toL (d.at 5).toL := by unfold nrm; rw [h7]
      have h6 := of_decide_eq_false h6
      rw [e0] at hg h6
      rw [h7, cond_true]
      have hv : inB ((d.at 7).toS.size : Int) = true := by unfold inB; rw [decide_eq_true (by omega), decide_eq_true (by omega)]; rfl
      rw [(good_mea hg h5 hv).2]
      exact decide_eq_true (by omega)
  unfold printed printF
  rw [key, cond_true]
  cases decide (((txtO 101 (enB d)).length : Int) > 1048576)
  · exact .inl rfl
  · exact .inr rfl
def putP : List Dat × Int → List Dat → List Dat × Int
  | x, [] => x
  | x, d :: l => putP (putW x [.str (tenT (d.at 0).toI), .str sUsed]) l
def catP (a : List Dat) : List Dat := a.flatMap fun d => bytesTo (tenT (d.at 0).toI) ++ bytesTo sUsed
theorem stuck_putP : ∀ (a : List Dat) (x : List Dat × Int), stuck x → stuck (putP x a)
  | [], x, h => h
  | d :: a, x, h => stuck_putP a _ (stuck_put h _)
theorem wrote_putP : ∀ (a : List Dat) (x : List Dat × Int) (b t : List Dat), wrote x b t → wrote (putP x a) b (t ++ catP a)
  | [], x, b, t, h => by rw [show catP [] = [] from rfl, List.append_nil]; exact h
  | d :: a, x, b, t, h => by
    have h1 := wrote_putP a _ b _ (wrote_put h [.str (tenT (d.at 0).toI), .str sUsed])
    have e : catW [.str (tenT (d.at 0).toI), .str sUsed] = bytesTo (tenT (d.at 0).toI) ++ bytesTo sUsed := by show bytesTo (tenT (d.at 0).toI) ++ (bytesTo sUsed ++ []) = _; rw [List.append_nil]
    rw [e, List.append_assoc] at h1
    exact h1
theorem usedW_eq : ∀ (a b : List Dat), usedW b a = b ++ catP a
  | [], b => by rw [show catP [] = [] from rfl, List.append_nil]; rfl
  | d :: a, b => by
    show usedW ((b ++ bytesTo (tenT (d.at 0).toI)) ++ bytesTo sUsed) a = b ++ ((bytesTo (tenT (d.at 0).toI) ++ bytesTo sUsed) ++ catP a)
    rw [usedW_eq a]
    simp only [List.append_assoc]
theorem isBy_catP : ∀ a : List Dat, isBy (catP a)
  | [] => isBy.nil
  | d :: a => ((isBy_to _).app (isBy_to _)).app (isBy_catP a)
noncomputable def lastW (n root s : Int) (x : List Dat × Int) : List Dat × Int := putW (objW (putW x [.str sTrl]) (trlD n root)) [.str sStx, .str (itS s), .str sEof]
theorem stuck_last {x : List Dat × Int} (h : stuck x) (n root s : Int) : stuck (lastW n root s x) := stuck_put (stuck_obj (stuck_put h _) _) _
theorem tail_cat (a : List Dat) (root s : Int) : bytesTo (tailS a root s) = (((((catW [.str sXref, .str (itS ((a.length : Int) + 1)), .str sFree] ++ catP a) ++ catW [.str sTrl]) ++ (bytesTo tA ++ (bytesTo (itS ((a.length : Int) + 1)) ++ (bytesTo tB ++ (bytesTo (itS root) ++ bytesTo tC3))))) ++ catW [.str sStx, .str (itS s), .str sEof])) := by
  unfold tailS
  rw [usedW_eq]
  have hb : isBy (bytesTo ((sXref ++ itS ((a.length : Int) + 1)) ++ sFree) ++ catP a) := (isBy_to _).app (isBy_catP a)
  generalize hL : bytesOf (bytesTo ((sXref ++ itS ((a.length : Int) + 1)) ++ sFree) ++ catP a) = L
  have hL2 : bytesTo L = bytesTo ((sXref ++ itS ((a.length : Int) + 1)) ++ sFree) ++ catP a := by rw [← hL]; exact to_of hb
  simp only [bytesTo_append] at hL2 ⊢
  rw [hL2]
  have e1 : bytesTo sTrail = bytesTo sTrl ++ bytesTo tA := by kernel_rfl
  have e2 : bytesTo sRoot = bytesTo tB := rfl
  have e3 : bytesTo sStart = bytesTo tC3 ++ bytesTo sStx := by kernel_rfl
  have c1 : catW [.str sXref, .str (itS ((a.length : Int) + 1)), .str sFree] = bytesTo sXref ++ (bytesTo (itS ((a.length : Int) + 1)) ++ bytesTo sFree) := by
    show bytesTo sXref ++ (bytesTo (itS ((a.length : Int) + 1)) ++ (bytesTo sFree ++ [])) = _
    rw [List.append_nil]
  have c2 : catW [.str sTrl] = bytesTo sTrl := by show bytesTo sTrl ++ [] = _; rw [List.append_nil]
  have c3 : catW [.str sStx, .str (itS s), .str sEof] = bytesTo sStx ++ (bytesTo (itS s) ++ bytesTo sEof) := by
    show bytesTo sStx ++ (bytesTo (itS s) ++ (bytesTo sEof ++ [])) = _
    rw [List.append_nil]
  rw [e1, e2, e3, c1, c2, c3]
  simp only [List.append_assoc]
theorem last_wrote {b : List Dat} (hb : b.length ≤ 16777216) {a : List Dat} {root : Int} (ha : a.length ≤ 5000) (h1 : 1 ≤ root) (h2 : root ≤ 4096) (s : Int) :
    wrote (lastW ((a.length : Int) + 1) root s (putP (putW (b, 0) [.str sXref, .str (itS ((a.length : Int) + 1)), .str sFree]) a)) b (bytesTo (tailS a root s)) := by
  have hn : inB ((a.length : Int) + 1) = true := by unfold inB; rw [decide_eq_true (by omega), decide_eq_true (by omega)]; rfl
  obtain ⟨p1, p2⟩ := trl_print hn h1 h2
  have w1 := wrote_putP a _ b _ (put_wrote [.str sXref, .str (itS ((a.length : Int) + 1)), .str sFree] b hb)
  have w2 := wrote_obj (wrote_put w1 [.str sTrl]) p1
  have w3 := wrote_put w2 [.str sStx, .str (itS s), .str sEof]
  rw [p2] at w3
  rw [tail_cat]
  exact w3
end Go.Proofs.YtckdgcpomkefpaaGreatDoor.En
end
section
set_option linter.unusedVariables false
set_option linter.unusedSimpArgs false
set_option maxRecDepth 100000
namespace Go.Proofs.YtckdgcpomkefpaaGreatDoor.En
open Go
def okL2 (l : List Dat) : Prop := okL l ∧ ∀ d ∈ l, (d.at 7).toS.size ≤ 1000000000
theorem wnC_sound : SoundCall PR wnC := check_sound (put_sound (object_sound (entry_sound (itoa_sound sound_none))))
theorem itB_of {n : Int} (h0 : -9223372036854775808 ≤ n) (h1 : n ≤ 9223372036854775807) : itB n = true := by unfold itB; rw [decide_eq_true h0, decide_eq_true h1]; rfl
theorem okPut3 {s1 s2 s3 : ByteArray} {b : List Dat} (h1 : s1.size ≤ 140737488355328) (h2 : s2.size ≤ 140737488355328) (h3 : s3.size ≤ 140737488355328) (hb : b.length ≤ 16777216) : okPut [.str s1, .str s2, .str s3] b := ⟨by simp, fun d hd => by
  rcases List.mem_cons.1 hd with rfl | hd
  · exact h1
  · rcases List.mem_cons.1 hd with rfl | hd
    · exact h2
    · rw [List.mem_singleton] at hd
      subst hd
      exact h3, hb⟩
theorem okPut2 {s1 s2 : ByteArray} {b : List Dat} (h1 : s1.size ≤ 140737488355328) (h2 : s2.size ≤ 140737488355328) (hb : b.length ≤ 16777216) : okPut [.str s1, .str s2] b := ⟨by simp, fun d hd => by
  rcases List.mem_cons.1 hd with rfl | hd
  · exact h1
  · rw [List.mem_singleton] at hd
    subst hd
    exact h2, hb⟩
noncomputable def wnO (a : List Dat) (y : List Dat × Int) : Option Out := bif y.2 != 0 then wnF y.2 else some (.ret (.tup [.ro [.row none 5 y.1, I y.2], .row (some 3) 3 a, I 0]) [none])
theorem okPr_trl (n root : Int) : okPr trlK (trlL n root) := by
  have e : ∀ k v, ((mkO k v false ⟨#[]⟩ [] []).at 4).toL = [] ∧ ((mkO k v false ⟨#[]⟩ [] []).at 5).toL = [] := fun _ _ => ⟨rfl, rfl⟩
  refine ⟨⟨by decide, (by show 2 ≤ 1000000; decide), fun d hd => ?_⟩, fun d hd => ?_, fun d hd => ?_⟩
  · rcases List.mem_cons.1 hd with rfl | hd
    · rw [(e _ _).1, (e _ _).2]; exact ⟨Nat.zero_le _, Nat.zero_le _, fun d hd => (by cases hd)⟩
    · rw [List.mem_singleton] at hd
      subst hd
      rw [(e _ _).1, (e _ _).2]; exact ⟨Nat.zero_le _, Nat.zero_le _, fun d hd => (by cases hd)⟩
  · rcases List.mem_cons.1 hd with rfl | hd
    · show kSize.size ≤ maxLen
      have : kSize.size = 4 := rfl
      unfold maxLen; omega
    · rw [List.mem_singleton] at hd
      subst hd
      show kRoot.size ≤ maxLen
      have : kRoot.size = 4 := rfl
      unfold maxLen; omega
  · rcases List.mem_cons.1 hd with rfl | hd
    · rw [(e _ _).1, (e _ _).2]; exact ⟨fun d hd => (by cases hd), fun d hd => (by cases hd)⟩
    · rw [List.mem_singleton] at hd
      subst hd
      rw [(e _ _).1, (e _ _).2]; exact ⟨fun d hd => (by cases hd), fun d hd => (by cases hd)⟩
theorem wn_end {a : List Dat} {s : Int} (ha : a.length ≤ 5000) (hs0 : 0 ≤ s) (hs1 : s ≤ 16777216) {root : Int} (x : List Dat × Int) (hx : x.1.length ≤ 16777216) :
    wnEnd (a ++ [.int s]) ((a.length : Int) + 1) root x = wnO (a ++ [.int s]) (lastW ((a.length : Int) + 1) root s x) := by
  have h1 := putW_len [.str sTrl] x hx
  have h2 := objW_len (d := trlD ((a.length : Int) + 1) root) h1
  have hlt : a.length < (a ++ [Dat.int s]).length := by rw [List.length_append, List.length_singleton]; omega
  have hz := (itS_size s).1
  have hi : idx (a ++ [.int s]) (W ((a.length : Int) + 1 - 1)) = some (.int s) := by
    rw [W_in (by omega), show (a.length : Int) + 1 - 1 = (a.length : Int) by omega, idx_at hlt, List.getElem_append_right (Nat.le_refl _)]
    simp
  have hb : itB ((Dat.int s).at 0).toI = true := itB_of (show -9223372036854775808 ≤ s by omega) (show s ≤ 9223372036854775807 by omega)
  have o1 : okPut [.str sTrl] x.1 := okPut1 (by decide) hx
  have o2 : okPr trlK (trlL ((a.length : Int) + 1) root) ∧ (putW x [.str sTrl]).1.length ≤ 16777216 := ⟨okPr_trl _ _, h1⟩
  have o3 : okPut [.str sStx, .str (itS ((Dat.int s).at 0).toI), .str sEof] (objW (putW x [.str sTrl]) (trlD ((a.length : Int) + 1) root)).1 := okPut3 (by decide) (show (itS s).size ≤ _ by omega) (by decide) h2
  unfold wnEnd
  rw [decP_eq o1, decP_eq o2, hi, Option.bind_some, hb, decP_eq o3]
  rfl
theorem wn_loop2 {m : Nat} {l a : List Dat} {root s : Int} (ha : a.length ≤ 5000) (hat : okAt a) (hs0 : 0 ≤ s) (hs1 : s ≤ 16777216) :
    ∀ (n i r : Nat) (b : List Dat) (e : Int), i + n = a.length → n < r → b.length ≤ 16777216 → wnL2 wnC m r l root b e (a ++ [.int s]) a ((a.length : Int) + 1) (i : Int) = wnO (a ++ [.int s]) (lastW ((a.length : Int) + 1) root s (putP (b, e) (a.drop i))) := by
  intro n
  induction n with
  | zero =>
    intro i r b e hi hr hb
    cases r with
    | zero => omega
    | succ r =>
      rw [wn_2, show decide ((i : Int) < a.length) = false from decide_eq_false (by omega), List.drop_eq_nil_of_le (by omega), cond_false]
      exact wn_end ha hs0 hs1 (b, e) hb
  | succ n ih =>
    intro i r b e hi hr hb
    cases r with
    | zero => omega
    | succ r =>
      have h1 : i < a.length := by omega
      have hp := hat _ (List.getElem_mem h1)
      obtain ⟨c1, c2⟩ := cut_ten hp.1 (show (a[i].at 0).toI < 10000000000 by omega)
      have ih := ih (i + 1) r (putW (b, e) [.str (tenT (a[i].at 0).toI), .str sUsed]).1 (putW (b, e) [.str (tenT (a[i].at 0).toI), .str sUsed]).2 (by omega) (by omega) (putW_len _ (b, e) hb)
      rw [show ((i + 1 : Nat) : Int) = (i : Int) + 1 by omega] at ih
      have o1 : okPut [.str (tenT (a[i].at 0).toI), .str sUsed] b := okPut2 (by rw [tenT_size]; omega) (by decide) hb
      rw [wn_2, show decide ((i : Int) < a.length) = true from decide_eq_true (by omega), idx_at h1, W_in (n := (i : Int) + 1) (by omega), List.drop_eq_getElem_cons h1]
      simp only [cond_true, Option.bind_some]
      rw [W_in (n := 10000000000 + (a[i].at 0).toI) (by omega), itB_of (by omega) (by omega), c1, c2, decP_eq o1, ih]
      rfl
noncomputable def wnMid (l : List Dat) (root : Int) (y : (List Dat × Int) × List Dat) : Option Out :=
  wnO (y.2 ++ [.int y.1.1.length]) (lastW ((l.length : Int) + 1) root y.1.1.length (putP (putW y.1 [.str sXref, .str (itS ((l.length : Int) + 1)), .str sFree]) y.2))
theorem wn_loop1 {l : List Dat} {root : Int} (hl : l.length ≤ 4096) (hk : okL2 l) :
    ∀ (n i r : Nat) (b : List Dat) (e : Int) (a : List Dat), i + n = l.length → n < r → b.length ≤ 16777216 → a.length = i → okAt a → wnL1 wnC 6000 r l root b e a (i : Int) = wnMid l root (entsW i (l.drop i) (b, e) a) := by
  intro n
  induction n with
  | zero =>
    intro i r b e a hi hr hb ha hat
    cases r with
    | zero => omega
    | succ r =>
      have hal : a.length = l.length := by omega
      have hz := (itS_size ((l.length : Int) + 1)).1
      have o1 : okPut [.str sXref, .str (itS ((l.length : Int) + 1)), .str sFree] b := okPut3 (by decide) (by omega) (by decide) hb
      rw [wn_1, show decide ((i : Int) < l.length) = false from decide_eq_false (by omega), show l.drop i = [] from List.drop_eq_nil_of_le (by omega), cond_false, fits_le (by omega), cond_true, W_in (n := (l.length : Int) + 1) (by omega), itB_of (by omega) (by omega), cond_true, decP_eq o1, cond_true, W_in (n := (l.length : Int) + 1 - 1) (by omega)]
      rw [show (l.length : Int) + 1 - 1 = (l.length : Int) by omega, decide_eq_true (show (0 : Int) ≤ (l.length : Int) by omega), decide_eq_true (show (l.length : Int) ≤ ((a ++ [Dat.int b.length]).length : Int) by rw [List.length_append, List.length_singleton]; omega)]
      have e2 : ((a ++ [Dat.int b.length]).take (l.length : Int).toNat).drop (0 : Int).toNat = a := by
        rw [Int.toNat_natCast, ← hal, List.take_left]; rfl
      rw [e2, ← hal]
      have h2 := wn_loop2 (m := 6000) (l := l) (root := root) (s := (b.length : Int)) (a := a) (by omega) hat (by omega) (by omega) a.length 0 6000 (putW (b, e) [.str sXref, .str (itS ((a.length : Int) + 1)), .str sFree]).1 (putW (b, e) [.str sXref, .str (itS ((a.length : Int) + 1)), .str sFree]).2 (by omega) (by omega) (putW_len _ (b, e) hb)
      rw [List.drop_zero] at h2
      refine Eq.trans h2 ?_
      unfold wnMid entsW
      rw [← hal]
  | succ n ih =>
    intro i r b e a hi hr hb ha hat
    cases r with
    | zero => omega
    | succ r =>
      have h1 : i < l.length := by omega
      have hd := hk.1.1 _ (List.getElem_mem h1)
      have hda := hk.2 _ (List.getElem_mem h1)
      have ih := ih (i + 1) r (entW (b, e) ((i : Int) + 1) (enB l[i]) (l[i].at 6).toB (l[i].at 7).toS).1 (entW (b, e) ((i : Int) + 1) (enB l[i]) (l[i].at 6).toB (l[i].at 7).toS).2 (a ++ [.int b.length]) (by omega) (by omega) (entW_len hb) (by rw [List.length_append, List.length_singleton]; omega) (okAt_snoc hat hb)
      rw [show ((i + 1 : Nat) : Int) = (i : Int) + 1 by omega] at ih
      have o1 : okEn (l[i].at 4).toL (l[i].at 5).toL (l[i].at 6).toB (l[i].at 7).toS ((i : Int) + 1) b := ⟨hd.1, fun _ => okPr_mea hd _, by omega, by omega, by omega, hb⟩
      rw [wn_1, show decide ((i : Int) < l.length) = true from decide_eq_true (by omega), idx_at h1, W_in (n := (i : Int) + 1) (by omega), List.drop_eq_getElem_cons h1, entsW_cons]
      simp only [cond_true, Option.bind_some]
      rw [fits_le (by omega), cond_true, decP_eq o1, cond_true, ih]
theorem wn_run {l : List Dat} {root : Int} (hk : okL2 l) : evFn PR TK wnC 6000 38 [.agg (enF l root)] [none] =
    bif (fileR l root).2.2 != 0 then wnF (fileR l root).2.2 else some (.ret (.tup [.ro [.row none 5 (bytesTo (fileR l root).1), I 0], .row (some 3) 3 (fileR l root).2.1, I 0]) [none]) := by
  rw [wn_0, decP_eq hk.1.1, cond_true]
  unfold fileR
  cases hc : chkF l root != 0
  · have h0 : chkF l root = 0 := by simpa using hc
    obtain ⟨c1, c2, c3, c4⟩ := chkF_0 h0
    have hbad : ∀ d ∈ l, rbadB d = false := fun d hd => by
      have : l.any rbadB = false := by
        cases ha : l.any rbadB
        · rfl
        · unfold chkF at h0
          rw [ha] at h0
          cases hq : (((l.length : Int) == 0 || decide ((l.length : Int) > 4096)) || decide (root < 1)) || decide (root > l.length) <;> rw [hq] at h0 <;> cases h0
      rw [List.any_eq_false] at this
      simpa using this d hd
    have hpr : ∀ d ∈ l, printed d := fun d hd => printed_of (hbad d hd) (hk.2 d hd)
    have hh : putW ([], 0) [.str ⟨#[37, 80, 68, 70, 45, 49, 46, 55, 10, 37, 226, 227, 207, 211, 10]⟩] = (headL, 0) := by kernel_rfl
    have o1 : okPut [.str ⟨#[37, 80, 68, 70, 45, 49, 46, 55, 10, 37, 226, 227, 207, 211, 10]⟩] [] := okPut1 (by decide) (by decide)
    rw [cond_false, cond_false, decP_eq o1, cond_true, hh]
    have e := wn_loop1 (root := root) c2 hk l.length 0 6000 headL 0 [] (by omega) (by omega) (by rw [headL_len]; omega) rfl (fun d hd => by cases hd)
    rw [List.drop_zero, show ((0 : Nat) : Int) = 0 from rfl] at e
    rw [e]
    obtain ⟨q1, q2⟩ := ents_lays l 0 headL [] hpr (by rw [headL_len]; omega)
    obtain ⟨z1, z2, z3⟩ := ents_len l 0 (headL, 0) [] (by show headL.length ≤ _; rw [headL_len]; omega) (fun d hd => by cases hd)
    cases hL : laysL 0 l headL [] with
    | none =>
      have hst := q2 hL
      generalize entsW 0 l (headL, 0) [] = y at hst z1 z2 z3 ⊢
      have h2 := (stuck_last (stuck_putP y.2 _ (stuck_put hst [.str sXref, .str (itS ((l.length : Int) + 1)), .str sFree])) ((l.length : Int) + 1) root y.1.1.length).2
      unfold wnMid wnO
      rw [h2]
      rfl
    | some p =>
      obtain ⟨b, a⟩ := p
      rw [q1 b a hL] at z1 z2 z3 ⊢
      have hal : a.length = l.length := by rw [z2]; simp
      have hb : b.length ≤ 16777216 := z1
      have hby : isBy b := lays_by l 0 headL [] b a (show isBy headL from isBy_to ⟨#[37, 80, 68, 70, 45, 49, 46, 55, 10, 37, 226, 227, 207, 211, 10]⟩) hL
      have hw := last_wrote hb (a := a) (root := root) (by omega) c3 (by omega) b.length
      unfold wnMid
      rw [← hal]
      generalize lastW ((a.length : Int) + 1) root (b.length : Int) (putP (putW (b, 0) [.str sXref, .str (itS ((a.length : Int) + 1)), .str sFree]) a) = y at hw
      show wnO (a ++ [.int b.length]) y = _
      have hlast : lastL root (some (b, a)) = bif decide ((((b ++ bytesTo (tailS a root b.length)).length : Nat) : Int) > 16777216) then (⟨#[]⟩, [], 2) else (bytesOf (b ++ bytesTo (tailS a root b.length)), a ++ [.int b.length], 0) := rfl
      rw [hlast]
      rcases hw with ⟨h1, rfl⟩ | ⟨h1, h2⟩
      · rw [decide_eq_false (show ¬ ((((b ++ bytesTo (tailS a root b.length)).length : Nat) : Int) > 16777216) by rw [List.length_append]; omega), cond_false]
        show _ = (bif (0 : Int) != 0 then wnF 0 else some (.ret (.tup [.ro [.row none 5 (bytesTo (bytesOf (b ++ bytesTo (tailS a root b.length)))), I 0], .row (some 3) 3 (a ++ [.int b.length]), I 0]) [none]))
        rw [to_of (hby.app (isBy_to _))]
        rfl
      · rw [decide_eq_true (show ((((b ++ bytesTo (tailS a root b.length)).length : Nat) : Int) > 16777216) by rw [List.length_append]; omega), cond_true]
        unfold wnO
        rw [h2.2]
        rfl
  · rw [cond_true, cond_true]
    show wnF (chkF l root) = bif chkF l root != 0 then wnF (chkF l root) else _
    rw [hc]; rfl
end Go.Proofs.YtckdgcpomkefpaaGreatDoor.En
end
section
set_option linter.unusedVariables false
set_option linter.unusedSimpArgs false
set_option maxRecDepth 100000
namespace Go.Proofs.YtckdgcpomkefpaaGreatDoor.En
open Go
noncomputable def wnbE : List AV → Bx → Option (Bool × Out)
  | [.agg [.row none 64 l, .v (.int .i64 root)]], [none] => some (decP (okL2 l ∧ (fileR l root).2.2 ≠ 0), .ret (.tup [.v (.pointer none), .row (some 3) 3 [], I (fileR l root).2.2]) [none])
  | _, _ => none
noncomputable def wnoE : List AV → Bx → Option (Bool × Out)
  | [.agg [.row none 64 l, .v (.int .i64 root)]], [none] => some (decP (okL2 l ∧ (fileR l root).2.2 = 0), .ret (.tup [.ro [.row none 5 (bytesTo (fileR l root).1), I 0], .row (some 3) 3 (fileR l root).2.1, I 0]) [none])
  | _, _ => none
noncomputable def wnbC : CallF := addF 38 wnbE fun _ _ _ => none
noncomputable def wnoC : CallF := addF 38 wnoE fun _ _ _ => none
theorem wnb_sound : SoundCall PR wnbC := by
  refine sound_both (sound_add (takes := TK) hmixP wnC_sound _ (fn := (PR.funcs[38]?).getD default) (by kernel_rfl) (by kernel_rfl) wnbE fun xs bs out h => ?_) sound_none
  unfold wnbE at h
  split at h
  · rename_i l root
    injection h with h
    injection h with h1 h2
    subst h2
    obtain ⟨p1, p2⟩ := decP_of h1
    refine ⟨6000, (wn_run p1).trans ?_⟩
    have : ((fileR l root).2.2 != 0) = true := by simpa using p2
    rw [this]; rfl
  · cases h
theorem wno_sound : SoundCall PR wnoC := by
  refine sound_both (sound_add (takes := TK) hmixP wnC_sound _ (fn := (PR.funcs[38]?).getD default) (by kernel_rfl) (by kernel_rfl) wnoE fun xs bs out h => ?_) sound_none
  unfold wnoE at h
  split at h
  · rename_i l root
    injection h with h
    injection h with h1 h2
    subst h2
    obtain ⟨p1, p2⟩ := decP_of h1
    refine ⟨6000, (wn_run p1).trans ?_⟩
    rw [p2]; rfl
  · cases h
def wrR (s : ByteArray) (e : Int) : Option Out := some (.ret (.tup [S s, I e]) [none])
section
variable (m r : Nat) (l acc : List Dat) (root i n : Int)
theorem of_0 : evFn PR TK wnbC m 20 [.agg (enF l root)] [none] = bif decP (okL2 l ∧ (fileR l root).2.2 ≠ 0) then ofR [] (fileR l root).2.2 else none := by kernel_rfl
theorem of_1 : evFn PR TK wnoC m 20 [.agg (enF l root)] [none] = bif decP (okL2 l ∧ (fileR l root).2.2 = 0) then ofR (fileR l root).2.1 0 else none := by kernel_rfl
theorem wr_0 : evFn PR TK wnbC m 15 [.agg (enF l root)] [none] = bif decP (okL2 l ∧ (fileR l root).2.2 ≠ 0) then (bif (fileR l root).2.2 != 0 then wrR ⟨#[]⟩ (fileR l root).2.2 else none) else none := by kernel_rfl
theorem wr_1 : evFn PR TK wnoC m 15 [.agg (enF l root)] [none] = bif decP (okL2 l ∧ (fileR l root).2.2 = 0) then wrR (bytesOf (bytesTo (fileR l root).1)) 0 else none := by kernel_rfl
end
def cpD (d : Dat) : Dat := .agg [.int (d.at 0).toI, .bool (d.at 1).toB, .int (d.at 2).toI, .str (d.at 3).toS, .rows (d.at 4).toL, .rows ((d.at 5).toL.map (copyO 100)), .bool (d.at 6).toB, .str (d.at 7).toS]
def enFT (l : List Dat) (root : Int) : List AV := [.row (some (sub 2 0)) 64 l, I root]
noncomputable def cpC : CallF := addF 25 (copyE 101) fun _ _ _ => none
noncomputable def cpL (call : CallF) (m r : Nat) (l acc : List Dat) (root i : Int) := loopF PR TK call m 14 [none] [true, true, false, true] r
  (sp 30 [(1, .box 1 0), (2, .box 2 0), (3, .row (some 3) 64 acc), (4, I i)] [(1, enF l root), (2, [.row (some (sub 2 0)) 64 [], I 0])])
section
variable (m r : Nat) (l acc : List Dat) (root i n : Int)
theorem cp_0 (call : CallF) : evFn PR TK call m 14 [.agg (enF l root)] [none] = cpL call m m l [] root 0 := by kernel_rfl
theorem cp_1 : cpL cpC m (r + 1) l acc root i = bif decide (i < l.length) then (idx l i).bind fun d => bif fitB 101 (d.at 4).toL (d.at 5).toL then
      (bif Nat.ble (acc.length + 1) fitsN then cpL cpC m r l (acc ++ [cpD d]) root (W (i + 1)) else none) else none
    else some (.ret (.agg (enFT acc root)) [none]) := by kernel_rfl
end
noncomputable def lgC : CallF := addF 22 LargeE fun _ _ _ => none
noncomputable def lgL (call : CallF) (m r : Nat) (l : List Dat) (root n i : Int) := loopF PR TK call m 12 [none] [true, true, true, false, true] r (sp 46 [(1, .box 1 0), (3, I n), (4, I i)] [(1, enF l root)])
section
variable (m r : Nat) (l acc : List Dat) (root i n : Int)
theorem lg_0 (call : CallF) : evFn PR TK call m 12 [.agg (enF l root)] [none] = bif decide ((l.length : Int) > 5000) then bR1 true else lgL call m m l root 0 0 := by kernel_rfl
theorem lg_1 : lgL lgC m (r + 1) l root n i = bif decide (i < l.length) then (idx l i).bind fun d =>
      orO (decide (W (n + ((d.at 7).toS.size : Int)) > 200000)) ((idx l i).bind fun d => bif zB 102 (d.at 3).toS (d.at 4).toL (d.at 5).toL 0 0 then some (decide (largeO 102 (nrm d) 0 0 < 0)) else none) fun t =>
      bif t then bR1 true else lgL lgC m r l root (W (n + ((d.at 7).toS.size : Int))) (W (i + 1))
    else andK (decide ((l.length : Int) > 100)) (decide ((l.length : Int) ≤ 4096)) bR1 := by kernel_rfl
end
end Go.Proofs.YtckdgcpomkefpaaGreatDoor.En
end
section
set_option linter.unusedVariables false
set_option linter.unusedSimpArgs false
set_option maxRecDepth 100000
namespace Go.Proofs.YtckdgcpomkefpaaGreatDoor.En
open Go
theorem of_to (s : ByteArray) : bytesOf (bytesTo s) = s := by
  have h : bytesTo (bytesOf (bytesTo s)) = bytesTo s := to_of (isBy_to s)
  refine ba_inj ?_
  have hb : ∀ s : ByteArray, (bytesTo s).map (fun d => UInt8.ofNat (d.at 0).toI.toNat) = s.data.toList := fun s => by
    unfold bytesTo
    rw [List.map_map]
    refine (List.map_congr_left fun b _ => ?_).trans (List.map_id _)
    show UInt8.ofNat ((b.toNat : Int).toNat) = b
    simp
  rw [← hb, h, hb]
theorem lastL_bad (root : Int) (o : Option (List Dat × List Dat)) (h : (lastL root o).2.2 ≠ 0) : (lastL root o).1 = ⟨#[]⟩ ∧ (lastL root o).2.1 = [] := by
  cases o with
  | none => exact ⟨rfl, rfl⟩
  | some p =>
    obtain ⟨b, a⟩ := p
    have e : lastL root (some (b, a)) = bif decide ((((b ++ bytesTo (tailS a root b.length)).length : Nat) : Int) > 16777216) then (⟨#[]⟩, [], 2) else (bytesOf (b ++ bytesTo (tailS a root b.length)), a ++ [.int b.length], 0) := rfl
    rw [e] at h ⊢
    generalize decide ((((b ++ bytesTo (tailS a root b.length)).length : Nat) : Int) > 16777216) = c at h ⊢
    cases c
    · exact absurd rfl h
    · exact ⟨rfl, rfl⟩
theorem fileR_bad {l : List Dat} {root : Int} (h : (fileR l root).2.2 ≠ 0) : (fileR l root).1 = ⟨#[]⟩ ∧ (fileR l root).2.1 = [] := by
  unfold fileR at h ⊢
  cases hc : chkF l root != 0
  · rw [hc] at h
    exact lastL_bad root _ h
  · exact ⟨rfl, rfl⟩
noncomputable def ofsE : List AV → Bx → Option (Bool × Out)
  | [.agg [.row none 64 l, .v (.int .i64 root)]], [none] => some (decP (okL2 l), .ret (.tup [.row (some 2) 3 (fileR l root).2.1, I (fileR l root).2.2]) [none])
  | _, _ => none
noncomputable def wriE : List AV → Bx → Option (Bool × Out)
  | [.agg [.row none 64 l, .v (.int .i64 root)]], [none] => some (decP (okL2 l), .ret (.tup [S (fileR l root).1, I (fileR l root).2.2]) [none])
  | _, _ => none
theorem ofs_sound {ext : CallF} (hext : SoundCall PR ext) : SoundCall PR (addF 20 ofsE ext) := by
  refine sound_addX (takes := TK) hext _ (fn := (PR.funcs[20]?).getD default) (by kernel_rfl) (by kernel_rfl) ofsE fun xs bs out h => ?_
  unfold ofsE at h
  split at h
  · rename_i l root
    injection h with h
    injection h with h1 h2
    subst h2
    have p1 := decP_of h1
    by_cases he : (fileR l root).2.2 = 0
    · refine ⟨_, wno_sound, 1, (of_1 _ _ _).trans ?_⟩
      rw [decP_eq (show okL2 l ∧ (fileR l root).2.2 = 0 from ⟨p1, he⟩), he]; rfl
    · refine ⟨_, wnb_sound, 1, (of_0 _ _ _).trans ?_⟩
      rw [decP_eq (show okL2 l ∧ (fileR l root).2.2 ≠ 0 from ⟨p1, he⟩), (fileR_bad he).2]; rfl
  · cases h
theorem wri_sound {ext : CallF} (hext : SoundCall PR ext) : SoundCall PR (addF 15 wriE ext) := by
  refine sound_addX (takes := TK) hext _ (fn := (PR.funcs[15]?).getD default) (by kernel_rfl) (by kernel_rfl) wriE fun xs bs out h => ?_
  unfold wriE at h
  split at h
  · rename_i l root
    injection h with h
    injection h with h1 h2
    subst h2
    have p1 := decP_of h1
    by_cases he : (fileR l root).2.2 = 0
    · refine ⟨_, wno_sound, 1, (wr_1 _ _ _).trans ?_⟩
      rw [decP_eq (show okL2 l ∧ (fileR l root).2.2 = 0 from ⟨p1, he⟩), of_to, he]; rfl
    · refine ⟨_, wnb_sound, 1, (wr_0 _ _ _).trans ?_⟩
      have : ((fileR l root).2.2 != 0) = true := by simpa using he
      rw [decP_eq (show okL2 l ∧ (fileR l root).2.2 ≠ 0 from ⟨p1, he⟩), this, (fileR_bad he).1]; rfl
  · cases h
def okC (l : List Dat) : Prop := l.length ≤ 1000000 ∧ ∀ d ∈ l, fitO 101 (d.at 4).toL (d.at 5).toL
noncomputable def cpyE : List AV → Bx → Option (Bool × Out)
  | [.agg [.row none 64 l, .v (.int .i64 root)]], [none] => some (decP (okC l), .ret (.agg (enFT (l.map cpD) root)) [none])
  | _, _ => none
theorem cpC_sound : SoundCall PR cpC := sound_both (copy_sound sound_none 101) sound_none
theorem cp_loop {m : Nat} {l : List Dat} {root : Int} (hk : okC l) :
    ∀ (n i r : Nat) (acc : List Dat), i + n = l.length → n < r → acc.length = i → cpL cpC m r l acc root (i : Int) = some (.ret (.agg (enFT (acc ++ (l.drop i).map cpD) root)) [none]) := by
  intro n
  induction n with
  | zero =>
    intro i r acc hi hr ha
    cases r with
    | zero => omega
    | succ r =>
      rw [cp_1, show decide ((i : Int) < l.length) = false from decide_eq_false (by omega), List.drop_eq_nil_of_le (by omega), List.map_nil, List.append_nil]
      rfl
  | succ n ih =>
    intro i r acc hi hr ha
    cases r with
    | zero => omega
    | succ r =>
      have h1 : i < l.length := by omega
      have h0 := hk.1
      have ih := ih (i + 1) r (acc ++ [cpD l[i]]) (by omega) (by omega) (by rw [List.length_append, List.length_singleton]; omega)
      rw [show ((i + 1 : Nat) : Int) = (i : Int) + 1 by omega] at ih
      rw [cp_1, show decide ((i : Int) < l.length) = true from decide_eq_true (by omega), idx_at h1, W_in (n := (i : Int) + 1) (by omega), List.drop_eq_getElem_cons h1]
      simp only [cond_true, Option.bind_some]
      rw [fitB_eq (hk.2 _ (List.getElem_mem h1)), cond_true, fits_le (by omega), cond_true, ih, List.map_cons, List.append_assoc]
      rfl
theorem cpy_sound {ext : CallF} (hext : SoundCall PR ext) : SoundCall PR (addF 14 cpyE ext) := by
  refine sound_both (sound_add (takes := TK) hmixP cpC_sound _ (fn := (PR.funcs[14]?).getD default) (by kernel_rfl) (by kernel_rfl) cpyE fun xs bs out h => ?_) hext
  unfold cpyE at h
  split at h
  · rename_i l root
    injection h with h
    injection h with h1 h2
    subst h2
    have p1 := decP_of h1
    have h0 := p1.1
    refine ⟨1000001, (cp_0 _ _ _ _).trans ?_⟩
    have e := cp_loop (m := 1000001) (root := root) p1 l.length 0 1000001 [] (by omega) (by omega) rfl
    rw [List.drop_zero, List.nil_append] at e
    exact e
  · cases h
def lgI (L : Int) : List Dat → Int → Bool
  | [], n => decide (L > 100) && decide (L ≤ 4096)
  | d :: l, n => bif decide (n + ((d.at 7).toS.size : Int) > 200000) || decide (largeO 102 (nrm d) 0 0 < 0) then true else lgI L l (n + ((d.at 7).toS.size : Int))
def lgB (l : List Dat) : Bool := bif decide ((l.length : Int) > 5000) then true else lgI l.length l 0
def zF (l : List Dat) : Prop := ∀ d ∈ l, (∀ k, fitZ k (d.at 3).toS (d.at 4).toL (d.at 5).toL) ∧ (d.at 7).toS.size ≤ 140737488355328
noncomputable def LgE : List AV → Bx → Option (Bool × Out)
  | [.agg [.row none 64 l, .v (.int .i64 root)]], [none] => some (decP (zF l), .ret (B (lgB l)) [none])
  | _, _ => none
theorem lgC_sound : SoundCall PR lgC := sound_both Large_sound sound_none
theorem lg_loop {m : Nat} {l : List Dat} {root : Int} (hl : l.length ≤ 5000) (hz : zF l) :
    ∀ (k i r : Nat) (n : Int), i + k = l.length → k < r → 0 ≤ n → n ≤ 200000 → lgL lgC m r l root n (i : Int) = bR1 (lgI l.length (l.drop i) n) := by
  intro k
  induction k with
  | zero =>
    intro i r n hi hr h0 h1
    cases r with
    | zero => omega
    | succ r =>
      rw [lg_1, show decide ((i : Int) < l.length) = false from decide_eq_false (by omega), List.drop_eq_nil_of_le (by omega), cond_false, andK_eq]
      rfl
  | succ k ih =>
    intro i r n hi hr h0 h1
    cases r with
    | zero => omega
    | succ r =>
      have hlt : i < l.length := by omega
      have hd := hz _ (List.getElem_mem hlt)
      have hs := hd.2
      have z1 : zB 102 (l[i].at 3).toS (l[i].at 4).toL (l[i].at 5).toL 0 0 = true := decP_eq ⟨by decide, by decide, by decide, by decide, by decide, hd.1 102⟩
      rw [lg_1, show decide ((i : Int) < l.length) = true from decide_eq_true (by omega), idx_at hlt, W_in (n := (i : Int) + 1) (by omega), List.drop_eq_getElem_cons hlt]
      simp only [cond_true, Option.bind_some]
      rw [z1, cond_true, orO_eq, W_in (n := n + ((l[i].at 7).toS.size : Int)) (by omega)]
      show _ = bR1 (bif decide (n + ((l[i].at 7).toS.size : Int) > 200000) || decide (largeO 102 (nrm l[i]) 0 0 < 0) then true else lgI l.length (l.drop (i + 1)) (n + ((l[i].at 7).toS.size : Int)))
      by_cases hc : n + ((l[i].at 7).toS.size : Int) > 200000
      · rw [decide_eq_true hc]; rfl
      · rw [decide_eq_false hc, Bool.false_or]
        have := ih (i + 1) r (n + ((l[i].at 7).toS.size : Int)) (by omega) (by omega) (by omega) (by omega)
        rw [show ((i + 1 : Nat) : Int) = (i : Int) + 1 by omega] at this
        rw [this]
        cases decide (largeO 102 (nrm l[i]) 0 0 < 0) <;> rfl
theorem Lg_sound {ext : CallF} (hext : SoundCall PR ext) : SoundCall PR (addF 12 LgE ext) := by
  refine sound_both (sound_add (takes := TK) hmixP lgC_sound _ (fn := (PR.funcs[12]?).getD default) (by kernel_rfl) (by kernel_rfl) LgE fun xs bs out h => ?_) hext
  unfold LgE at h
  split at h
  · rename_i l root
    injection h with h
    injection h with h1 h2
    subst h2
    have p1 := decP_of h1
    refine ⟨5001, (lg_0 _ _ _ _).trans ?_⟩
    unfold lgB
    by_cases hc : (l.length : Int) > 5000
    · rw [decide_eq_true hc]; rfl
    · rw [decide_eq_false hc, cond_false, cond_false]
      have e := lg_loop (m := 5001) (root := root) (by omega) p1 l.length 0 5001 0 (by omega) (by omega) (by decide) (by decide)
      rw [List.drop_zero] at e
      exact e
  · cases h
theorem lgI_false : ∀ (l : List Dat) (L n : Int), 0 ≤ n → n ≤ 200000 → lgI L l n = false → ∀ d ∈ l, (d.at 7).toS.size ≤ 200000 ∧ 0 ≤ largeO 102 (nrm d) 0 0
  | [], L, n, _, _, _, d, hd => by cases hd
  | e :: l, L, n, h0, h1, h, d, hd => by
    have h' : (bif decide (n + ((e.at 7).toS.size : Int) > 200000) || decide (largeO 102 (nrm e) 0 0 < 0) then true else lgI L l (n + ((e.at 7).toS.size : Int))) = false := h
    cases hc : decide (n + ((e.at 7).toS.size : Int) > 200000) || decide (largeO 102 (nrm e) 0 0 < 0)
    · rw [hc, cond_false] at h'
      rw [Bool.or_eq_false_iff] at hc
      have q1 := of_decide_eq_false hc.1
      have q2 := of_decide_eq_false hc.2
      rcases List.mem_cons.1 hd with rfl | hd
      · exact ⟨by omega, by omega⟩
      · exact lgI_false l L _ (by omega) (by omega) h' d hd
    · rw [hc] at h'; cases h'
theorem okE_large {d : Dat} (hz : ∀ k, fitZ k (d.at 3).toS (d.at 4).toL (d.at 5).toL) (h : 0 ≤ largeO 102 (nrm d) 0 0) : okE (d.at 4).toL (d.at 5).toL := by
  have h1 := (large_fit 101 102 (nrm d) 0 0 (by decide) (by decide) (by decide) h).2
  have h2 : headN (d.at 3).toS (d.at 4).toL (d.at 5).toL 0 ≤ 2000 := by
    have e : largeO 102 (nrm d) 0 0 = bif decide (headN (d.at 3).toS (d.at 4).toL (d.at 5).toL 0 > 2000) || decide ((0 : Int) > 100) then -1 else itemsN (fun e n => largeO 101 e (0 + 1) n) (d.at 5).toL (keysN (d.at 4).toL (headN (d.at 3).toS (d.at 4).toL (d.at 5).toL 0)) := rfl
    by_cases hc : headN (d.at 3).toS (d.at 4).toL (d.at 5).toL 0 > 2000
    · rw [e, decide_eq_true hc, Bool.true_or, cond_true] at h
      omega
    · omega
  unfold headN at h2
  rw [div_nat] at h2
  exact ⟨⟨h1, keyZ_of 101 _ _ _ (hz 101)⟩, by omega, by omega⟩
theorem okL2_large {l : List Dat} (hz : zF l) (h : lgB l = false) : okL2 l ∧ l.length ≤ 5000 := by
  unfold lgB at h
  by_cases hc : (l.length : Int) > 5000
  · rw [decide_eq_true hc] at h; cases h
  · rw [decide_eq_false hc, cond_false] at h
    have hf := lgI_false l l.length 0 (by decide) (by decide) h
    refine ⟨⟨⟨fun d hd => okE_large (hz d hd).1 (hf d hd).2, fun d hd => ?_⟩, fun d hd => ?_⟩, by omega⟩
    · have := (hf d hd).1; omega
    · have := (hf d hd).1; omega
end Go.Proofs.YtckdgcpomkefpaaGreatDoor.En
end
section
set_option linter.unusedVariables false
set_option linter.unusedSimpArgs false
set_option maxRecDepth 100000
namespace Go.Proofs.YtckdgcpomkefpaaGreatDoor.En
open Go
def zE : Dat := .agg [.int 0, .bool false, .int 0, .str ⟨#[]⟩, .rows [], .rows [], .bool false, .str ⟨#[]⟩]
def oneE : List AV → Bx → Option (Bool × Out)
  | [], [] => some (true, .ret (.agg [.row (some (sub 0 0)) 64 [zE], I 1]) [])
  | _, _ => none
theorem one_0 (call : CallF) (m : Nat) : evFn PR TK call m 37 [] [] = some (.ret (.agg [.row (some (sub 0 0)) 64 [zE], I 1]) []) := by kernel_rfl
theorem one_sound {ext : CallF} (hext : SoundCall PR ext) : SoundCall PR (addF 37 oneE ext) := by
  refine sound_add (takes := TK) hmixP hext _ (fn := (PR.funcs[37]?).getD default) (by kernel_rfl) (by kernel_rfl) oneE fun xs bs out h => ?_
  unfold oneE at h
  split at h
  · cases h; exact ⟨1, one_0 _ _⟩
  · cases h
noncomputable def wk6C : CallF := addF 37 oneE (addF 15 wriE (addF 20 ofsE (addF 21 keepE fun _ _ _ => none)))
theorem wk6C_sound : SoundCall PR wk6C := one_sound (wri_sound (ofs_sound (keep_sound hmixP sound_none)))
def bW (t : Bool) : Option Out := some (.ret (B t) [])
def sOne : ByteArray := ⟨#[49, 32, 48, 32, 111, 98, 106]⟩
noncomputable def F1 : ByteArray × List Dat × Int := fileR [zE] 1
theorem wk6_0 (m : Nat) : evFn PR TK wk6C m 13 [] [] = bif decP (okL2 [zE]) then (bif decP (okL2 [zE]) then
    andK (F1.2.2 == 0) (F1.2.2 == 0) fun t => andK t (decide ((F1.1.size : Int) > 60)) fun t =>
    andO t (bif ((((true && true) && decide ((22 : Int) ≤ F1.1.size)) && true) && true) then some ((F1.1.extract (15 : Int).toNat (22 : Int).toNat).toList == sOne.toList) else none) fun t =>
    bif t == true then ((bif Nat.blt F1.2.1.length 4611686018427387904 then some (Nat.beq F1.2.1.length 2 && keepB F1.2.1 [.int 15, .int 35]) else none).bind bW) else bW false else none) else none := by kernel_rfl
theorem file_one : F1 = (⟨#[37, 80, 68, 70, 45, 49, 46, 55, 10, 37, 226, 227, 207, 211, 10, 49, 32, 48, 32, 111, 98, 106, 10, 110, 117, 108, 108, 10, 101, 110, 100, 111, 98, 106, 10,
  120, 114, 101, 102, 10, 48, 32, 50, 10, 48, 48, 48, 48, 48, 48, 48, 48, 48, 48, 32, 54, 53, 53, 51, 53, 32, 102, 32, 10, 48, 48, 48, 48, 48, 48, 48, 48, 49, 53, 32, 48, 48, 48, 48, 48, 32, 110, 32, 10,
  116, 114, 97, 105, 108, 101, 114, 10, 60, 60, 47, 83, 105, 122, 101, 32, 50, 32, 47, 82, 111, 111, 116, 32, 49, 32, 48, 32, 82, 62, 62, 10, 115, 116, 97, 114, 116, 120, 114, 101, 102, 10, 51, 53, 10, 37, 37, 69, 79, 70, 10]⟩, [.int 15, .int 35], 0) := by kernel_rfl
theorem okL2_one : okL2 [zE] := by
  have e : ∀ d ∈ [zE], d = zE := fun d hd => List.mem_singleton.1 hd
  refine ⟨⟨fun d hd => ?_, fun d hd => ?_⟩, fun d hd => ?_⟩
  · rw [e d hd]
    show okE [] []
    exact ⟨⟨⟨Nat.zero_le _, Nat.zero_le _, fun d hd => (by cases hd)⟩, fun d hd => (by cases hd), fun d hd => (by cases hd)⟩, Nat.zero_le _, Nat.zero_le _⟩
  · rw [e d hd]; exact Nat.zero_le _
  · rw [e d hd]; exact Nat.zero_le _
theorem wk6_run (m : Nat) : evFn PR TK wk6C m 13 [] [] = some (.ret (B true) []) := by
  rw [wk6_0, decP_eq okL2_one, file_one]
  kernel_rfl
def wakes6E : List AV → Bx → Option (Bool × Out)
  | [], [] => some (true, .ret (B true) [])
  | _, _ => none
theorem wakes6_sound {ext : CallF} (hext : SoundCall PR ext) : SoundCall PR (addF 13 wakes6E ext) := by
  refine sound_both (sound_add (takes := TK) hmixP wk6C_sound _ (fn := (PR.funcs[13]?).getD default) (by kernel_rfl) (by kernel_rfl) wakes6E fun xs bs out h => ?_) hext
  unfold wakes6E at h
  split at h
  · cases h; exact ⟨1, wk6_run _⟩
  · cases h
end Go.Proofs.YtckdgcpomkefpaaGreatDoor.En
end
section
set_option linter.unusedVariables false
set_option linter.unusedSimpArgs false
set_option maxRecDepth 100000
namespace Go.Proofs.YtckdgcpomkefpaaGreatDoor.En
open Go Go.RowKit
theorem nrm_cp (d : Dat) : nrm (cpD d) = copyO 101 (nrm d) := rfl
theorem enB_cp (d : Dat) : enB (cpD d) = copyO 101 (enB d) := by
  have h1 : enB (cpD d) = bodyD (d.at 0).toI (d.at 2).toI (d.at 1).toB (d.at 3).toS (d.at 4).toL ((d.at 5).toL.map (copyO 100)) (d.at 6).toB (d.at 7).toS := rfl
  rw [h1]
  unfold enB bodyD
  cases (d.at 6).toB
  · rfl
  · exact mea_copy _ _ _ _ _ _ _
theorem entD_cp (i : Nat) (d : Dat) : entD i (cpD d) = entD i d := by
  unfold entD
  rw [enB_cp]
  unfold entS
  rw [printS_copy]
  rfl
theorem rbad_cp (d : Dat) : rbadB (cpD d) = rbadB d := by
  have h1 : rbadB (cpD d) = (decide (goodO 101 (nrm (cpD d)) 0 0 < 0) || ((!(d.at 6).toB && !((d.at 7).toS.toList == (⟨#[]⟩ : ByteArray).toList)) || ((d.at 6).toB && (((d.at 0).toI != 7) || (hasB lenS (d.at 4).toL || decide (goodO 101 (nrm (cpD d)) 0 0 - 1 ≥ 65535)))))) := rfl
  rw [h1, nrm_cp, goodO_copy]
  rfl
theorem lays_cp : ∀ (l : List Dat) (i : Nat) (b a : List Dat), laysL i (l.map cpD) b a = laysL i l b a
  | [], i, b, a => rfl
  | d :: l, i, b, a => by
    rw [List.map_cons, laysL_cons, laysL_cons, entD_cp, enB_cp, printF_copy, lays_cp l]
theorem chkF_cp (l : List Dat) (root : Int) : chkF (l.map cpD) root = chkF l root := by
  have h : (l.map cpD).any rbadB = l.any rbadB := by
    rw [List.any_map]
    congr 1
    funext d
    exact rbad_cp d
  unfold chkF
  rw [h, List.length_map]
theorem fileR_cp (l : List Dat) (root : Int) : fileR (l.map cpD) root = fileR l root := by
  unfold fileR
  rw [chkF_cp, lays_cp]
theorem okL2_cp {l : List Dat} (h : okL2 l) : okL2 (l.map cpD) := by
  obtain ⟨⟨h1, h2⟩, h3⟩ := h
  refine ⟨⟨fun d hd => ?_, fun d hd => ?_⟩, fun d hd => ?_⟩ <;> obtain ⟨e, he, rfl⟩ := List.mem_map.1 hd
  · exact okE_copy (h1 e he)
  · exact h2 e he
  · exact h3 e he
theorem okC_of {l : List Dat} (h : okL2 l) (hl : l.length ≤ 5000) : okC l := ⟨by omega, fun d hd => (h.1.1 d hd).1.1⟩
section
variable (m : Nat) (l : List Dat) (root : Int)
end
def ksF : List CK := [.row 64, .int .i64]
def ksE : List CK := [.int .i64, .bool, .int .i64, .str, .row 9, .row 43, .bool, .str]
theorem kinds_F : kinds PR 24 = some ksF := by kernel_rfl
theorem kinds_E : kinds PR 64 = some ksE := by kernel_rfl
theorem sz_entries {d : Dat} (h : Sz PR (.row 64) d) : zF d.toL := by
  cases h with
  | row E ks d hk hl hc =>
    rw [kinds_E] at hk
    cases hk
    intro e he
    refine ⟨fun j => ?_, sz_str (hc e he 7 .str rfl)⟩
    exact fitZ_of (sz_str (hc e he 3 .str rfl)) (sz_keys (hc e he 4 _ rfl)) j (e.at 5) rfl (hc e he 5 _ rfl)
theorem file_opn {W : World} {ds : List Dat} {cs : Array Value} (h : Opn PR W ksF ds cs.toList) : ∃ (l : List Dat) (root : Int), RepS PR (g0 W) W (.agg (enF l root)) (.agg cs) ∧ zF l := by
  obtain ⟨e0, e1, rfl⟩ : ∃ e0 e1, ds = [e0, e1] := by
    have := h.ld
    match ds, this with
    | [e0, e1], _ => exact ⟨_, _, rfl⟩
  refine ⟨e0.toL, e1.toI, agg_rep h, ?_⟩
  exact sz_entries ((h.each 0 _ e0 _ rfl rfl (List.getElem?_eq_getElem (l := cs.toList) (i := 0) (by rw [h.lc]; decide))).sz)
end Go.Proofs.YtckdgcpomkefpaaGreatDoor.En
end
section
set_option linter.unusedVariables false
set_option linter.unusedSimpArgs false
set_option maxRecDepth 100000
namespace Go.Proofs.YtckdgcpomkefpaaGreatDoor.En
open Go Go.RowKit
def sameEn (d e : Dat) : Bool := ((d.at 6).toB == (e.at 6).toB) && (((d.at 7).toS.toList == (e.at 7).toS.toList) && sameO 101 (nrm d) (nrm e))
def sf6B (la : List Dat) (ra : Int) (lb : List Dat) (rb : Int) : Bool := ((la.length : Int) == lb.length) && ((ra == rb) && allEq sameEn la lb)
noncomputable def sf6E : List AV → Bx → Option (Bool × Out)
  | [.agg [.row none 64 la, .v (.int .i64 ra)], .agg [.row none 64 lb, .v (.int .i64 rb)]], [none, none] => some (decP (okC la), .ret (B (sf6B la ra lb rb)) [none, none])
  | _, _ => none
noncomputable def sf6L (call : CallF) (m r : Nat) (la lb : List Dat) (ra rb i : Int) := loopF PR TK call m 19 [none, none] [true, true, false, true] r
  (sp 59 [(2, .box 2 0), (3, .box 3 0), (5, I i)] [(2, enF la ra), (3, enF lb rb)])
section
variable (call ext : CallF) (m r : Nat) (la lb : List Dat) (ra rb i : Int)
theorem sf6_0 : evFn PR TK call m 19 [.agg (enF la ra), .agg (enF lb rb)] [none, none] =
  orK ((la.length : Int) != lb.length) (ra != rb) fun t => bif t then bR false else sf6L call m m la lb ra rb 0 := by kernel_rfl
theorem sf6_1 : sf6L (sameC 101 ext) m (r + 1) la lb ra rb i = bif decide (i < la.length) then (idx la i).bind fun d => (idx lb i).bind fun e =>
      orK (!((d.at 6).toB == (e.at 6).toB)) (!((d.at 7).toS.toList == (e.at 7).toS.toList)) fun t => orO t (bif fitB 101 (d.at 4).toL (d.at 5).toL then some (!(sameO 101 (nrm d) (nrm e))) else none) fun t =>
      bif t then bR false else sf6L (sameC 101 ext) m r la lb ra rb (W (i + 1))
    else bR true := by kernel_rfl
end
theorem sf6_loop {ext : CallF} {m : Nat} {la lb : List Dat} {ra rb : Int} (hl : la.length = lb.length) (hC : okC la) :
    ∀ (n i r : Nat), i + n = la.length → n < r → sf6L (sameC 101 ext) m r la lb ra rb (i : Int) = bR (allEq sameEn (la.drop i) (lb.drop i))
  | n, i, 0, _, h => by omega
  | 0, i, r + 1, hi, _ => by
    rw [sf6_1, show decide ((i : Int) < la.length) = false from decide_eq_false (by omega), List.drop_eq_nil_of_le (by omega), List.drop_eq_nil_of_le (by omega)]
    rfl
  | n + 1, i, r + 1, hi, hm => by
    have h1 : i < la.length := by omega
    have h2 : i < lb.length := by omega
    have hle := hC.1
    have ih := sf6_loop (ext := ext) (m := m) (ra := ra) (rb := rb) hl hC n (i + 1) r (by omega) (by omega)
    rw [show ((i + 1 : Nat) : Int) = (i : Int) + 1 by omega] at ih
    rw [sf6_1, show decide ((i : Int) < la.length) = true from decide_eq_true (by omega), cond_true, idx_at h1, idx_at h2, Option.bind_some, Option.bind_some, W_in (n := (i : Int) + 1) (by omega), ih, fitB_eq (hC.2 _ (List.getElem_mem h1)), cond_true, orK_eq, orO_eq,
      List.drop_eq_getElem_cons h1, List.drop_eq_getElem_cons h2]
    show _ = bR (sameEn la[i] lb[i] && allEq sameEn (la.drop (i + 1)) (lb.drop (i + 1)))
    unfold sameEn
    cases ((la[i].at 6).toB == (lb[i].at 6).toB) <;> cases ((la[i].at 7).toS.toList == (lb[i].at 7).toS.toList) <;> cases sameO 101 (nrm la[i]) (nrm lb[i]) <;> rfl
theorem sf6_run {ext : CallF} {m : Nat} {la lb : List Dat} {ra rb : Int} (hC : okC la) (hm : 1000000 < m) : evFn PR TK (sameC 101 ext) m 19 [.agg (enF la ra), .agg (enF lb rb)] [none, none] = bR (sf6B la ra lb rb) := by
  rw [sf6_0, orK_eq]
  unfold sf6B
  have hle := hC.1
  by_cases hl : la.length = lb.length
  · have e := sf6_loop (ext := ext) (m := m) (ra := ra) (rb := rb) hl hC la.length 0 m (by omega) (by omega)
    rw [show ((0 : Nat) : Int) = 0 from rfl, List.drop_zero, List.drop_zero] at e
    rw [e, hl]
    cases hr : ra == rb
    · have : (ra != rb) = true := by unfold bne; rw [hr]; rfl
      rw [this]; simp
    · have : (ra != rb) = false := by unfold bne; rw [hr]; rfl
      rw [this]; simp
  · have e1 : ((la.length : Int) != lb.length) = true := by simp; omega
    have e2 : ((la.length : Int) == lb.length) = false := by simp; omega
    rw [e1, e2]; rfl
theorem sf6_sound {ext : CallF} (hext : SoundCall PR ext) : SoundCall PR (addF 19 sf6E ext) := by
  refine sound_both (sound_add (takes := TK) hmixP (same_sound sound_none 101) _ (fn := (PR.funcs[19]?).getD default) (by kernel_rfl) (by kernel_rfl) sf6E fun xs bs out h => ?_) hext
  unfold sf6E at h
  split at h
  · injection h with h
    injection h with h1 h2
    subst h2
    exact ⟨1000001, sf6_run (decP_of h1) (by omega)⟩
  · cases h
end Go.Proofs.YtckdgcpomkefpaaGreatDoor.En
end
section
set_option linter.unusedVariables false
set_option linter.unusedSimpArgs false
set_option maxRecDepth 100000
namespace Go.Proofs.YtckdgcpomkefpaaGreatDoor.En
open Go Go.RowKit
theorem okC_cp {l : List Dat} (h : okC l) : okC (l.map cpD) := by
  refine ⟨by rw [List.length_map]; exact h.1, fun d hd => ?_⟩
  obtain ⟨e, he, rfl⟩ := List.mem_map.1 hd
  exact fitO_copy 101 (nrm e) (h.2 e he)
theorem same_cp : ∀ {l : List Dat}, (∀ d ∈ l, fitO 101 (d.at 4).toL (d.at 5).toL) → allEq sameEn (l.map cpD) l = true
  | [], _ => rfl
  | d :: l, h => by
    rw [List.map_cons]
    show (sameEn (cpD d) d && allEq sameEn (l.map cpD) l) = true
    rw [same_cp fun e he => h e (by simp [he])]
    have h1 : sameEn (cpD d) d = (((d.at 6).toB == (d.at 6).toB) && (((d.at 7).toS.toList == (d.at 7).toS.toList) && sameO 101 (nrm (cpD d)) (nrm d))) := rfl
    rw [h1, nrm_cp, sameO_copy 101 (nrm d) (h d (by simp))]
    simp
theorem sf6_cp {l : List Dat} {root : Int} (h : okC l) : sf6B (l.map cpD) root l root = true := by
  unfold sf6B
  rw [same_cp h.2, List.length_map]
  simp
noncomputable def owC : CallF := addF 12 LgE (addF 13 wakes6E (addF 14 cpyE (addF 15 wriE (addF 16 layE (addF 17 checkE (addF 18 checkE (addF 19 sf6E fun _ _ _ => none)))))))
theorem owC_sound : SoundCall PR owC := Lg_sound (wakes6_sound (cpy_sound (wri_sound (lay_sound (check_sound (rcheck_sound (sf6_sound sound_none)))))))
theorem ow_0 (m : Nat) (l : List Dat) (root : Int) : evFn PR TK owC m 3 [.agg (enF l root)] [none] =
  bif decP (zF l) then (bif lgB l then bR1 true else (bif decP (okC l) then (bif decP (okL2 (l.map cpD)) then (bif decP (okL l) then
    andK ((fileR (l.map cpD) root).1.toList == (fileR l root).1.toList) ((fileR (l.map cpD) root).2.2 == (fileR l root).2.2) fun t =>
    andO t (bif decP (okF (l.map cpD)) then bif decP (okF l) then some (chkF (l.map cpD) root == chkF l root) else none else none) fun t =>
    andO t (bif decP (okC (l.map cpD)) then some (sf6B (l.map cpD) root l root) else none) fun t => andK t true bR1
    else none) else none) else none)) else none := by kernel_rfl
theorem ow_run {m : Nat} {l : List Dat} {root : Int} (hz : zF l) : evFn PR TK owC m 3 [.agg (enF l root)] [none] = bR1 true := by
  rw [ow_0, decP_eq hz, cond_true]
  cases hL : lgB l
  · obtain ⟨h1, h2⟩ := okL2_large hz hL
    have hC := okC_of h1 h2
    rw [cond_false, decP_eq hC, decP_eq (okL2_cp h1), decP_eq h1.1, decP_eq h1.1.1, decP_eq (okL2_cp h1).1.1, decP_eq (okC_cp hC), sf6_cp hC, fileR_cp, chkF_cp]
    simp only [cond_true, andK_eq, andO_eq, beq_self_eq_true, Bool.and_self]
  · rfl
noncomputable def writesE : List AV → Bx → Option (Bool × Out)
  | [.agg [.row none 64 l, .v (.int .i64 root)]], [none] => some (decP (zF l), .ret (B true) [none])
  | _, _ => none
theorem writes_sound : SoundCall PR (addF 3 writesE owC) := by
  refine sound_add (takes := TK) hmixP owC_sound _ (fn := (PR.funcs[3]?).getD default) (by kernel_rfl) (by kernel_rfl) writesE fun xs bs out h => ?_
  unfold writesE at h
  split at h
  · injection h with h
    injection h with h1 h2
    subst h2
    exact ⟨1, ow_run (decP_of h1)⟩
  · cases h
theorem writes_ent (l : List Dat) (root : Int) : addF 3 writesE owC 3 [.agg (enF l root)] [none] = some (decP (zF l), .ret (B true) [none]) := by kernel_rfl
theorem writes_calls {W : World} (hW : GW W) {ds : List Dat} {cs : Array Value} (h : Opn PR W ksF ds cs.toList) :
    Calls PR 3 #[.agg cs] W fun e w' => e = .returned (.bool true) ∧ Below W.heap.size W w' := by
  obtain ⟨l, root, hr, hz⟩ := file_opn h
  refine calls_v writes_sound (f := 3) (xs := [.agg (enF l root)]) (bs := [none]) (bs' := [none]) ?_ (by simp) rfl hW rfl (fun i x hi => ?_)
  · rw [writes_ent, decP_eq hz]; rfl
  · match i, hi with
    | 0, hi => cases hi; exact ⟨_, rfl, hr⟩
end Go.Proofs.YtckdgcpomkefpaaGreatDoor.En
end
