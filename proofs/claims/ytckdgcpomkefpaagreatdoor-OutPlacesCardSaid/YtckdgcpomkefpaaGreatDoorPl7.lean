/- Part 7 of a proof: what it needs of the program's functions as plain Lean functions, with the proof that the machine's calls come to them, and of plain laws; put together out of smaller texts. No conditions besides those that each statement names. -/
import Derived.Test.YtckdgcpomkefpaaGreatDoorPl6
section
set_option linter.unusedVariables false
set_option linter.unusedSimpArgs false
set_option maxRecDepth 100000
namespace Go.Proofs.YtckdgcpomkefpaaGreatDoor.En
open Go
noncomputable def entsW : Nat → List Dat → List Dat × Int → List Dat → (List Dat × Int) × List Dat
  | _, [], x, a => (x, a)
  | i, d :: l, x, a => entsW (i + 1) l (entW x ((i : Int) + 1) (enB d) (d.at 6).toB (d.at 7).toS) (a ++ [.int x.1.length])
theorem entsW_cons (i : Nat) (d : Dat) (l : List Dat) (x : List Dat × Int) (a : List Dat) : entsW i (d :: l) x a = entsW (i + 1) l (entW x ((i : Int) + 1) (enB d) (d.at 6).toB (d.at 7).toS) (a ++ [.int x.1.length]) := rfl
theorem ents_len : ∀ (l : List Dat) (i : Nat) (x : List Dat × Int) (a : List Dat), x.1.length ≤ 16777216 → okAt a → (entsW i l x a).1.1.length ≤ 16777216 ∧ (entsW i l x a).2.length = a.length + l.length ∧ okAt (entsW i l x a).2
  | [], i, x, a, h, ha => ⟨h, rfl, ha⟩
  | d :: l, i, x, a, h, ha => by
    rw [entsW_cons]
    obtain ⟨h1, h2, h3⟩ := ents_len l (i + 1) (entW x ((i : Int) + 1) (enB d) (d.at 6).toB (d.at 7).toS) (a ++ [.int x.1.length]) (entW_len h) (okAt_snoc ha h)
    refine ⟨h1, ?_, h3⟩
    rw [h2, List.length_append, List.length_singleton, List.length_cons]; omega
theorem stuck_ents : ∀ (l : List Dat) (i : Nat) (x : List Dat × Int) (a : List Dat), stuck x → stuck (entsW i l x a).1
  | [], i, x, a, h => h
  | d :: l, i, x, a, h => stuck_ents l (i + 1) _ _ (stuck_ent h _ _ _ _)
def printed (d : Dat) : Prop := printF (enB d) = 0 ∨ printF (enB d) = 2
theorem ents_lays : ∀ (l : List Dat) (i : Nat) (b a : List Dat), (∀ d ∈ l, printed d) → b.length ≤ 16777216 →
    (∀ b' a', laysL i l b a = some (b', a') → entsW i l (b, 0) a = ((b', 0), a')) ∧ (laysL i l b a = none → stuck (entsW i l (b, 0) a).1)
  | [], i, b, a, _, hb => ⟨fun b' a' h => (by cases h; rfl), fun h => (by cases h)⟩
  | d :: l, i, b, a, hp, hb => by
    rw [laysL_cons, entsW_cons]
    have he : bytesTo (entD i d) = bytesTo (entS ((i : Int) + 1) (enB d) (d.at 6).toB (d.at 7).toS) := rfl
    rcases hp d (by simp) with h0 | h2
    · have e0 : (printF (enB d) == 0) = true := by rw [h0]; rfl
      rw [e0, Bool.true_and]
      rcases ent_wrote hb ((i : Int) + 1) h0 (d.at 6).toB (d.at 7).toS with ⟨h3, h4⟩ | ⟨h3, h4⟩
      · rw [← he, bytesTo_len] at h3
        rw [decide_eq_false (by omega), Bool.not_false, cond_true, h4, ← he]
        exact ents_lays l (i + 1) _ _ (fun e he => hp e (by simp [he])) (by rw [List.length_append, bytesTo_len]; exact h3)
      · rw [← he, bytesTo_len] at h3
        rw [decide_eq_true (by omega), Bool.not_true, cond_false]
        exact ⟨fun b' a' h => (by cases h), fun _ => stuck_ents l _ _ _ h4⟩
    · have e0 : (printF (enB d) == 0) = false := by rw [h2]; rfl
      rw [e0, Bool.false_and, cond_false]
      exact ⟨fun b' a' h => (by cases h), fun _ => stuck_ents l _ _ _ (ent_stuck hb _ h2 _ _)⟩
theorem lays_by : ∀ (l : List Dat) (i : Nat) (b a b' a' : List Dat), isBy b → laysL i l b a = some (b', a') → isBy b'
  | [], i, b, a, b', a', hb, h => by cases h; exact hb
  | d :: l, i, b, a, b', a', hb, h => by
    rw [laysL_cons] at h
    obtain ⟨_, h⟩ := bif_some h
    exact lays_by l (i + 1) _ _ b' a' (hb.app (isBy_to _)) h
theorem printed_of {d : Dat} (h : rbadB d = false) (hd : (d.at 7).toS.size ≤ 1000000000) : printed d := by
  unfold rbadB at h
  simp only [Bool.or_eq_false_iff] at h
  obtain ⟨h1, h2, h3⟩ := h
  have hg : goodO 101 (nrm d) 0 0 > 0 := by
    have := of_decide_eq_false h1
    have := goodO_ne 101 (nrm d) 0 0 (by decide)
    omega
  have key : decide (goodO 101 (enB d) 0 0 > 0) = true := by
    unfold enB bodyD
    cases hs : (d.at 6).toB
    · exact decide_eq_true hg
    · rw [hs, Bool.true_and] at h3
      simp only [Bool.or_eq_false_iff] at h3
      obtain ⟨h4, h5, h6⟩ := h3
      have h7 : (d.at 0).toI = 7 := by simpa using h4
      have e0 : nrm d = mkO 7 (d.at 2).toI (d.at 1).toB (d.at 3).toS (d.at 4).toL (d.at 5).toL := by unfold nrm; rw [h7]
      have h6 := of_decide_eq_false h6
      rw [e0] at hg h6
      rw [h7, cond_true]
      have hv : inB ((d.at 7).toS.size : Int) = true := by unfold inB; rw [decide_eq_true (by omega), decide_eq_true (by omega)]; rfl
      rw [(good_mea hg h5 hv).2]
      exact decide_eq_true (by omega)
  unfold printed printF
  rw [key, cond_true]
  cases decide (((txtO 101 (enB d)).length : Int) > 1048576)
  · exact .inl rfl
  · exact .inr rfl
def putP : List Dat × Int → List Dat → List Dat × Int
  | x, [] => x
  | x, d :: l => putP (putW x [.str (tenT (d.at 0).toI), .str sUsed]) l
def catP (a : List Dat) : List Dat := a.flatMap fun d => bytesTo (tenT (d.at 0).toI) ++ bytesTo sUsed
theorem stuck_putP : ∀ (a : List Dat) (x : List Dat × Int), stuck x → stuck (putP x a)
  | [], x, h => h
  | d :: a, x, h => stuck_putP a _ (stuck_put h _)
theorem wrote_putP : ∀ (a : List Dat) (x : List Dat × Int) (b t : List Dat), wrote x b t → wrote (putP x a) b (t ++ catP a)
  | [], x, b, t, h => by rw [show catP [] = [] from rfl, List.append_nil]; exact h
  | d :: a, x, b, t, h => by
    have h1 := wrote_putP a _ b _ (wrote_put h [.str (tenT (d.at 0).toI), .str sUsed])
    have e : catW [.str (tenT (d.at 0).toI), .str sUsed] = bytesTo (tenT (d.at 0).toI) ++ bytesTo sUsed := by show bytesTo (tenT (d.at 0).toI) ++ (bytesTo sUsed ++ []) = _; rw [List.append_nil]
    rw [e, List.append_assoc] at h1
    exact h1
theorem usedW_eq : ∀ (a b : List Dat), usedW b a = b ++ catP a
  | [], b => by rw [show catP [] = [] from rfl, List.append_nil]; rfl
  | d :: a, b => by
    show usedW ((b ++ bytesTo (tenT (d.at 0).toI)) ++ bytesTo sUsed) a = b ++ ((bytesTo (tenT (d.at 0).toI) ++ bytesTo sUsed) ++ catP a)
    rw [usedW_eq a]
    simp only [List.append_assoc]
theorem isBy_catP : ∀ a : List Dat, isBy (catP a)
  | [] => isBy.nil
  | d :: a => ((isBy_to _).app (isBy_to _)).app (isBy_catP a)
noncomputable def lastW (n root s : Int) (x : List Dat × Int) : List Dat × Int := putW (objW (putW x [.str sTrl]) (trlD n root)) [.str sStx, .str (itS s), .str sEof]
theorem stuck_last {x : List Dat × Int} (h : stuck x) (n root s : Int) : stuck (lastW n root s x) := stuck_put (stuck_obj (stuck_put h _) _) _
theorem tail_cat (a : List Dat) (root s : Int) : bytesTo (tailS a root s) = (((((catW [.str sXref, .str (itS ((a.length : Int) + 1)), .str sFree] ++ catP a) ++ catW [.str sTrl]) ++ (bytesTo tA ++ (bytesTo (itS ((a.length : Int) + 1)) ++ (bytesTo tB ++ (bytesTo (itS root) ++ bytesTo tC3))))) ++ catW [.str sStx, .str (itS s), .str sEof])) := by
  unfold tailS
  rw [usedW_eq]
  have hb : isBy (bytesTo ((sXref ++ itS ((a.length : Int) + 1)) ++ sFree) ++ catP a) := (isBy_to _).app (isBy_catP a)
  generalize hL : bytesOf (bytesTo ((sXref ++ itS ((a.length : Int) + 1)) ++ sFree) ++ catP a) = L
  have hL2 : bytesTo L = bytesTo ((sXref ++ itS ((a.length : Int) + 1)) ++ sFree) ++ catP a := by rw [← hL]; exact to_of hb
  simp only [bytesTo_append] at hL2 ⊢
  rw [hL2]
  have e1 : bytesTo sTrail = bytesTo sTrl ++ bytesTo tA := by kernel_rfl
  have e2 : bytesTo sRoot = bytesTo tB := rfl
  have e3 : bytesTo sStart = bytesTo tC3 ++ bytesTo sStx := by kernel_rfl
  have c1 : catW [.str sXref, .str (itS ((a.length : Int) + 1)), .str sFree] = bytesTo sXref ++ (bytesTo (itS ((a.length : Int) + 1)) ++ bytesTo sFree) := by
    show bytesTo sXref ++ (bytesTo (itS ((a.length : Int) + 1)) ++ (bytesTo sFree ++ [])) = _
    rw [List.append_nil]
  have c2 : catW [.str sTrl] = bytesTo sTrl := by show bytesTo sTrl ++ [] = _; rw [List.append_nil]
  have c3 : catW [.str sStx, .str (itS s), .str sEof] = bytesTo sStx ++ (bytesTo (itS s) ++ bytesTo sEof) := by
    show bytesTo sStx ++ (bytesTo (itS s) ++ (bytesTo sEof ++ [])) = _
    rw [List.append_nil]
  rw [e1, e2, e3, c1, c2, c3]
  simp only [List.append_assoc]
theorem last_wrote {b : List Dat} (hb : b.length ≤ 16777216) {a : List Dat} {root : Int} (ha : a.length ≤ 5000) (h1 : 1 ≤ root) (h2 : root ≤ 4096) (s : Int) :
    wrote (lastW ((a.length : Int) + 1) root s (putP (putW (b, 0) [.str sXref, .str (itS ((a.length : Int) + 1)), .str sFree]) a)) b (bytesTo (tailS a root s)) := by
  have hn : inB ((a.length : Int) + 1) = true := by unfold inB; rw [decide_eq_true (by omega), decide_eq_true (by omega)]; rfl
  obtain ⟨p1, p2⟩ := trl_print hn h1 h2
  have w1 := wrote_putP a _ b _ (put_wrote [.str sXref, .str (itS ((a.length : Int) + 1)), .str sFree] b hb)
  have w2 := wrote_obj (wrote_put w1 [.str sTrl]) p1
  have w3 := wrote_put w2 [.str sStx, .str (itS s), .str sEof]
  rw [p2] at w3
  rw [tail_cat]
  exact w3
end Go.Proofs.YtckdgcpomkefpaaGreatDoor.En
end
section
set_option linter.unusedVariables false
set_option linter.unusedSimpArgs false
set_option maxRecDepth 100000
namespace Go.Proofs.YtckdgcpomkefpaaGreatDoor.En
open Go
def okL2 (l : List Dat) : Prop := okL l ∧ ∀ d ∈ l, (d.at 7).toS.size ≤ 1000000000
theorem wnC_sound : SoundCall PR wnC := check_sound (put_sound (object_sound (entry_sound (itoa_sound sound_none))))
theorem itB_of {n : Int} (h0 : -9223372036854775808 ≤ n) (h1 : n ≤ 9223372036854775807) : itB n = true := by unfold itB; rw [decide_eq_true h0, decide_eq_true h1]; rfl
theorem okPut3 {s1 s2 s3 : ByteArray} {b : List Dat} (h1 : s1.size ≤ 140737488355328) (h2 : s2.size ≤ 140737488355328) (h3 : s3.size ≤ 140737488355328) (hb : b.length ≤ 16777216) : okPut [.str s1, .str s2, .str s3] b := ⟨by simp, fun d hd => by
  rcases List.mem_cons.1 hd with rfl | hd
  · exact h1
  · rcases List.mem_cons.1 hd with rfl | hd
    · exact h2
    · rw [List.mem_singleton] at hd
      subst hd
      exact h3, hb⟩
theorem okPut2 {s1 s2 : ByteArray} {b : List Dat} (h1 : s1.size ≤ 140737488355328) (h2 : s2.size ≤ 140737488355328) (hb : b.length ≤ 16777216) : okPut [.str s1, .str s2] b := ⟨by simp, fun d hd => by
  rcases List.mem_cons.1 hd with rfl | hd
  · exact h1
  · rw [List.mem_singleton] at hd
    subst hd
    exact h2, hb⟩
noncomputable def wnO (a : List Dat) (y : List Dat × Int) : Option Out := bif y.2 != 0 then wnF y.2 else some (.ret (.tup [.ro [.row none 5 y.1, I y.2], .row (some 3) 3 a, I 0]) [none])
theorem okPr_trl (n root : Int) : okPr trlK (trlL n root) := by
  have e : ∀ k v, ((mkO k v false ⟨#[]⟩ [] []).at 4).toL = [] ∧ ((mkO k v false ⟨#[]⟩ [] []).at 5).toL = [] := fun _ _ => ⟨rfl, rfl⟩
  refine ⟨⟨by decide, (by show 2 ≤ 1000000; decide), fun d hd => ?_⟩, fun d hd => ?_, fun d hd => ?_⟩
  · rcases List.mem_cons.1 hd with rfl | hd
    · rw [(e _ _).1, (e _ _).2]; exact ⟨Nat.zero_le _, Nat.zero_le _, fun d hd => (by cases hd)⟩
    · rw [List.mem_singleton] at hd
      subst hd
      rw [(e _ _).1, (e _ _).2]; exact ⟨Nat.zero_le _, Nat.zero_le _, fun d hd => (by cases hd)⟩
  · rcases List.mem_cons.1 hd with rfl | hd
    · show kSize.size ≤ maxLen
      have : kSize.size = 4 := rfl
      unfold maxLen; omega
    · rw [List.mem_singleton] at hd
      subst hd
      show kRoot.size ≤ maxLen
      have : kRoot.size = 4 := rfl
      unfold maxLen; omega
  · rcases List.mem_cons.1 hd with rfl | hd
    · rw [(e _ _).1, (e _ _).2]; exact ⟨fun d hd => (by cases hd), fun d hd => (by cases hd)⟩
    · rw [List.mem_singleton] at hd
      subst hd
      rw [(e _ _).1, (e _ _).2]; exact ⟨fun d hd => (by cases hd), fun d hd => (by cases hd)⟩
theorem wn_end {a : List Dat} {s : Int} (ha : a.length ≤ 5000) (hs0 : 0 ≤ s) (hs1 : s ≤ 16777216) {root : Int} (x : List Dat × Int) (hx : x.1.length ≤ 16777216) :
    wnEnd (a ++ [.int s]) ((a.length : Int) + 1) root x = wnO (a ++ [.int s]) (lastW ((a.length : Int) + 1) root s x) := by
  have h1 := putW_len [.str sTrl] x hx
  have h2 := objW_len (d := trlD ((a.length : Int) + 1) root) h1
  have hlt : a.length < (a ++ [Dat.int s]).length := by rw [List.length_append, List.length_singleton]; omega
  have hz := (itS_size s).1
  have hi : idx (a ++ [.int s]) (W ((a.length : Int) + 1 - 1)) = some (.int s) := by
    rw [W_in (by omega), show (a.length : Int) + 1 - 1 = (a.length : Int) by omega, idx_at hlt, List.getElem_append_right (Nat.le_refl _)]
    simp
  have hb : itB ((Dat.int s).at 0).toI = true := itB_of (show -9223372036854775808 ≤ s by omega) (show s ≤ 9223372036854775807 by omega)
  have o1 : okPut [.str sTrl] x.1 := okPut1 (by decide) hx
  have o2 : okPr trlK (trlL ((a.length : Int) + 1) root) ∧ (putW x [.str sTrl]).1.length ≤ 16777216 := ⟨okPr_trl _ _, h1⟩
  have o3 : okPut [.str sStx, .str (itS ((Dat.int s).at 0).toI), .str sEof] (objW (putW x [.str sTrl]) (trlD ((a.length : Int) + 1) root)).1 := okPut3 (by decide) (show (itS s).size ≤ _ by omega) (by decide) h2
  unfold wnEnd
  rw [decP_eq o1, decP_eq o2, hi, Option.bind_some, hb, decP_eq o3]
  rfl
theorem wn_loop2 {m : Nat} {l a : List Dat} {root s : Int} (ha : a.length ≤ 5000) (hat : okAt a) (hs0 : 0 ≤ s) (hs1 : s ≤ 16777216) :
    ∀ (n i r : Nat) (b : List Dat) (e : Int), i + n = a.length → n < r → b.length ≤ 16777216 → wnL2 wnC m r l root b e (a ++ [.int s]) a ((a.length : Int) + 1) (i : Int) = wnO (a ++ [.int s]) (lastW ((a.length : Int) + 1) root s (putP (b, e) (a.drop i))) := by
  intro n
  induction n with
  | zero =>
    intro i r b e hi hr hb
    cases r with
    | zero => omega
    | succ r =>
      rw [wn_2, show decide ((i : Int) < a.length) = false from decide_eq_false (by omega), List.drop_eq_nil_of_le (by omega), cond_false]
      exact wn_end ha hs0 hs1 (b, e) hb
  | succ n ih =>
    intro i r b e hi hr hb
    cases r with
    | zero => omega
    | succ r =>
      have h1 : i < a.length := by omega
      have hp := hat _ (List.getElem_mem h1)
      obtain ⟨c1, c2⟩ := cut_ten hp.1 (show (a[i].at 0).toI < 10000000000 by omega)
      have ih := ih (i + 1) r (putW (b, e) [.str (tenT (a[i].at 0).toI), .str sUsed]).1 (putW (b, e) [.str (tenT (a[i].at 0).toI), .str sUsed]).2 (by omega) (by omega) (putW_len _ (b, e) hb)
      rw [show ((i + 1 : Nat) : Int) = (i : Int) + 1 by omega] at ih
      have o1 : okPut [.str (tenT (a[i].at 0).toI), .str sUsed] b := okPut2 (by rw [tenT_size]; omega) (by decide) hb
      rw [wn_2, show decide ((i : Int) < a.length) = true from decide_eq_true (by omega), idx_at h1, W_in (n := (i : Int) + 1) (by omega), List.drop_eq_getElem_cons h1]
      simp only [cond_true, Option.bind_some]
      rw [W_in (n := 10000000000 + (a[i].at 0).toI) (by omega), itB_of (by omega) (by omega), c1, c2, decP_eq o1, ih]
      rfl
noncomputable def wnMid (l : List Dat) (root : Int) (y : (List Dat × Int) × List Dat) : Option Out :=
  wnO (y.2 ++ [.int y.1.1.length]) (lastW ((l.length : Int) + 1) root y.1.1.length (putP (putW y.1 [.str sXref, .str (itS ((l.length : Int) + 1)), .str sFree]) y.2))
theorem wn_loop1 {l : List Dat} {root : Int} (hl : l.length ≤ 4096) (hk : okL2 l) :
    ∀ (n i r : Nat) (b : List Dat) (e : Int) (a : List Dat), i + n = l.length → n < r → b.length ≤ 16777216 → a.length = i → okAt a → wnL1 wnC 6000 r l root b e a (i : Int) = wnMid l root (entsW i (l.drop i) (b, e) a) := by
  intro n
  induction n with
  | zero =>
    intro i r b e a hi hr hb ha hat
    cases r with
    | zero => omega
    | succ r =>
      have hal : a.length = l.length := by omega
      have hz := (itS_size ((l.length : Int) + 1)).1
      have o1 : okPut [.str sXref, .str (itS ((l.length : Int) + 1)), .str sFree] b := okPut3 (by decide) (by omega) (by decide) hb
      rw [wn_1, show decide ((i : Int) < l.length) = false from decide_eq_false (by omega), show l.drop i = [] from List.drop_eq_nil_of_le (by omega), cond_false, fits_le (by omega), cond_true, W_in (n := (l.length : Int) + 1) (by omega), itB_of (by omega) (by omega), cond_true, decP_eq o1, cond_true, W_in (n := (l.length : Int) + 1 - 1) (by omega)]
      rw [show (l.length : Int) + 1 - 1 = (l.length : Int) by omega, decide_eq_true (show (0 : Int) ≤ (l.length : Int) by omega), decide_eq_true (show (l.length : Int) ≤ ((a ++ [Dat.int b.length]).length : Int) by rw [List.length_append, List.length_singleton]; omega)]
      have e2 : ((a ++ [Dat.int b.length]).take (l.length : Int).toNat).drop (0 : Int).toNat = a := by
        rw [Int.toNat_natCast, ← hal, List.take_left]; rfl
      rw [e2, ← hal]
      have h2 := wn_loop2 (m := 6000) (l := l) (root := root) (s := (b.length : Int)) (a := a) (by omega) hat (by omega) (by omega) a.length 0 6000 (putW (b, e) [.str sXref, .str (itS ((a.length : Int) + 1)), .str sFree]).1 (putW (b, e) [.str sXref, .str (itS ((a.length : Int) + 1)), .str sFree]).2 (by omega) (by omega) (putW_len _ (b, e) hb)
      rw [List.drop_zero] at h2
      refine Eq.trans h2 ?_
      unfold wnMid entsW
      rw [← hal]
  | succ n ih =>
    intro i r b e a hi hr hb ha hat
    cases r with
    | zero => omega
    | succ r =>
      have h1 : i < l.length := by omega
      have hd := hk.1.1 _ (List.getElem_mem h1)
      have hda := hk.2 _ (List.getElem_mem h1)
      have ih := ih (i + 1) r (entW (b, e) ((i : Int) + 1) (enB l[i]) (l[i].at 6).toB (l[i].at 7).toS).1 (entW (b, e) ((i : Int) + 1) (enB l[i]) (l[i].at 6).toB (l[i].at 7).toS).2 (a ++ [.int b.length]) (by omega) (by omega) (entW_len hb) (by rw [List.length_append, List.length_singleton]; omega) (okAt_snoc hat hb)
      rw [show ((i + 1 : Nat) : Int) = (i : Int) + 1 by omega] at ih
      have o1 : okEn (l[i].at 4).toL (l[i].at 5).toL (l[i].at 6).toB (l[i].at 7).toS ((i : Int) + 1) b := ⟨hd.1, fun _ => okPr_mea hd _, by omega, by omega, by omega, hb⟩
      rw [wn_1, show decide ((i : Int) < l.length) = true from decide_eq_true (by omega), idx_at h1, W_in (n := (i : Int) + 1) (by omega), List.drop_eq_getElem_cons h1, entsW_cons]
      simp only [cond_true, Option.bind_some]
      rw [fits_le (by omega), cond_true, decP_eq o1, cond_true, ih]
theorem wn_run {l : List Dat} {root : Int} (hk : okL2 l) : evFn PR TK wnC 6000 38 [.agg (enF l root)] [none] =
    bif (fileR l root).2.2 != 0 then wnF (fileR l root).2.2 else some (.ret (.tup [.ro [.row none 5 (bytesTo (fileR l root).1), I 0], .row (some 3) 3 (fileR l root).2.1, I 0]) [none]) := by
  rw [wn_0, decP_eq hk.1.1, cond_true]
  unfold fileR
  cases hc : chkF l root != 0
  · have h0 : chkF l root = 0 := by simpa using hc
    obtain ⟨c1, c2, c3, c4⟩ := chkF_0 h0
    have hbad : ∀ d ∈ l, rbadB d = false := fun d hd => by
      have : l.any rbadB = false := by
        cases ha : l.any rbadB
        · rfl
        · unfold chkF at h0
          rw [ha] at h0
          cases hq : (((l.length : Int) == 0 || decide ((l.length : Int) > 4096)) || decide (root < 1)) || decide (root > l.length) <;> rw [hq] at h0 <;> cases h0
      rw [List.any_eq_false] at this
      simpa using this d hd
    have hpr : ∀ d ∈ l, printed d := fun d hd => printed_of (hbad d hd) (hk.2 d hd)
    have hh : putW ([], 0) [.str ⟨#[37, 80, 68, 70, 45, 49, 46, 55, 10, 37, 226, 227, 207, 211, 10]⟩] = (headL, 0) := by kernel_rfl
    have o1 : okPut [.str ⟨#[37, 80, 68, 70, 45, 49, 46, 55, 10, 37, 226, 227, 207, 211, 10]⟩] [] := okPut1 (by decide) (by decide)
    rw [cond_false, cond_false, decP_eq o1, cond_true, hh]
    have e := wn_loop1 (root := root) c2 hk l.length 0 6000 headL 0 [] (by omega) (by omega) (by rw [headL_len]; omega) rfl (fun d hd => by cases hd)
    rw [List.drop_zero, show ((0 : Nat) : Int) = 0 from rfl] at e
    rw [e]
    obtain ⟨q1, q2⟩ := ents_lays l 0 headL [] hpr (by rw [headL_len]; omega)
    obtain ⟨z1, z2, z3⟩ := ents_len l 0 (headL, 0) [] (by show headL.length ≤ _; rw [headL_len]; omega) (fun d hd => by cases hd)
    cases hL : laysL 0 l headL [] with
    | none =>
      have hst := q2 hL
      generalize entsW 0 l (headL, 0) [] = y at hst z1 z2 z3 ⊢
      have h2 := (stuck_last (stuck_putP y.2 _ (stuck_put hst [.str sXref, .str (itS ((l.length : Int) + 1)), .str sFree])) ((l.length : Int) + 1) root y.1.1.length).2
      unfold wnMid wnO
      rw [h2]
      rfl
    | some p =>
      obtain ⟨b, a⟩ := p
      rw [q1 b a hL] at z1 z2 z3 ⊢
      have hal : a.length = l.length := by rw [z2]; simp
      have hb : b.length ≤ 16777216 := z1
      have hby : isBy b := lays_by l 0 headL [] b a (show isBy headL from isBy_to ⟨#[37, 80, 68, 70, 45, 49, 46, 55, 10, 37, 226, 227, 207, 211, 10]⟩) hL
      have hw := last_wrote hb (a := a) (root := root) (by omega) c3 (by omega) b.length
      unfold wnMid
      rw [← hal]
      generalize lastW ((a.length : Int) + 1) root (b.length : Int) (putP (putW (b, 0) [.str sXref, .str (itS ((a.length : Int) + 1)), .str sFree]) a) = y at hw
      show wnO (a ++ [.int b.length]) y = _
      have hlast : lastL root (some (b, a)) = bif decide ((((b ++ bytesTo (tailS a root b.length)).length : Nat) : Int) > 16777216) then (⟨#[]⟩, [], 2) else (bytesOf (b ++ bytesTo (tailS a root b.length)), a ++ [.int b.length], 0) := rfl
      rw [hlast]
      rcases hw with ⟨h1, rfl⟩ | ⟨h1, h2⟩
      · rw [decide_eq_false (show ¬ ((((b ++ bytesTo (tailS a root b.length)).length : Nat) : Int) > 16777216) by rw [List.length_append]; omega), cond_false]
        show _ = (bif (0 : Int) != 0 then wnF 0 else some (.ret (.tup [.ro [.row none 5 (bytesTo (bytesOf (b ++ bytesTo (tailS a root b.length)))), I 0], .row (some 3) 3 (a ++ [.int b.length]), I 0]) [none]))
        rw [to_of (hby.app (isBy_to _))]
        rfl
      · rw [decide_eq_true (show ((((b ++ bytesTo (tailS a root b.length)).length : Nat) : Int) > 16777216) by rw [List.length_append]; omega), cond_true]
        unfold wnO
        rw [h2.2]
        rfl
  · rw [cond_true, cond_true]
    show wnF (chkF l root) = bif chkF l root != 0 then wnF (chkF l root) else _
    rw [hc]; rfl
end Go.Proofs.YtckdgcpomkefpaaGreatDoor.En
end
section
set_option linter.unusedVariables false
set_option linter.unusedSimpArgs false
set_option maxRecDepth 100000
namespace Go.Proofs.YtckdgcpomkefpaaGreatDoor.En
open Go
noncomputable def wnbE : List AV → Bx → Option (Bool × Out)
  | [.agg [.row none 64 l, .v (.int .i64 root)]], [none] => some (decP (okL2 l ∧ (fileR l root).2.2 ≠ 0), .ret (.tup [.v (.pointer none), .row (some 3) 3 [], I (fileR l root).2.2]) [none])
  | _, _ => none
noncomputable def wnoE : List AV → Bx → Option (Bool × Out)
  | [.agg [.row none 64 l, .v (.int .i64 root)]], [none] => some (decP (okL2 l ∧ (fileR l root).2.2 = 0), .ret (.tup [.ro [.row none 5 (bytesTo (fileR l root).1), I 0], .row (some 3) 3 (fileR l root).2.1, I 0]) [none])
  | _, _ => none
noncomputable def wnbC : CallF := addF 38 wnbE fun _ _ _ => none
noncomputable def wnoC : CallF := addF 38 wnoE fun _ _ _ => none
theorem wnb_sound : SoundCall PR wnbC := by
  refine sound_both (sound_add (takes := TK) hmixP wnC_sound _ (fn := (PR.funcs[38]?).getD default) (by kernel_rfl) (by kernel_rfl) wnbE fun xs bs out h => ?_) sound_none
  unfold wnbE at h
  split at h
  · rename_i l root
    injection h with h
    injection h with h1 h2
    subst h2
    obtain ⟨p1, p2⟩ := decP_of h1
    refine ⟨6000, (wn_run p1).trans ?_⟩
    have : ((fileR l root).2.2 != 0) = true := by simpa using p2
    rw [this]; rfl
  · cases h
theorem wno_sound : SoundCall PR wnoC := by
  refine sound_both (sound_add (takes := TK) hmixP wnC_sound _ (fn := (PR.funcs[38]?).getD default) (by kernel_rfl) (by kernel_rfl) wnoE fun xs bs out h => ?_) sound_none
  unfold wnoE at h
  split at h
  · rename_i l root
    injection h with h
    injection h with h1 h2
    subst h2
    obtain ⟨p1, p2⟩ := decP_of h1
    refine ⟨6000, (wn_run p1).trans ?_⟩
    rw [p2]; rfl
  · cases h
def wrR (s : ByteArray) (e : Int) : Option Out := some (.ret (.tup [S s, I e]) [none])
section
variable (m r : Nat) (l acc : List Dat) (root i n : Int)
theorem of_0 : evFn PR TK wnbC m 20 [.agg (enF l root)] [none] = bif decP (okL2 l ∧ (fileR l root).2.2 ≠ 0) then ofR [] (fileR l root).2.2 else none := by kernel_rfl
theorem of_1 : evFn PR TK wnoC m 20 [.agg (enF l root)] [none] = bif decP (okL2 l ∧ (fileR l root).2.2 = 0) then ofR (fileR l root).2.1 0 else none := by kernel_rfl
theorem wr_0 : evFn PR TK wnbC m 15 [.agg (enF l root)] [none] = bif decP (okL2 l ∧ (fileR l root).2.2 ≠ 0) then (bif (fileR l root).2.2 != 0 then wrR ⟨#[]⟩ (fileR l root).2.2 else none) else none := by kernel_rfl
theorem wr_1 : evFn PR TK wnoC m 15 [.agg (enF l root)] [none] = bif decP (okL2 l ∧ (fileR l root).2.2 = 0) then wrR (bytesOf (bytesTo (fileR l root).1)) 0 else none := by kernel_rfl
end
def cpD (d : Dat) : Dat := .agg [.int (d.at 0).toI, .bool (d.at 1).toB, .int (d.at 2).toI, .str (d.at 3).toS, .rows (d.at 4).toL, .rows ((d.at 5).toL.map (copyO 100)), .bool (d.at 6).toB, .str (d.at 7).toS]
def enFT (l : List Dat) (root : Int) : List AV := [.row (some (sub 2 0)) 64 l, I root]
noncomputable def cpC : CallF := addF 25 (copyE 101) fun _ _ _ => none
noncomputable def cpL (call : CallF) (m r : Nat) (l acc : List Dat) (root i : Int) := loopF PR TK call m 14 [none] [true, true, false, true] r
  (sp 30 [(1, .box 1 0), (2, .box 2 0), (3, .row (some 3) 64 acc), (4, I i)] [(1, enF l root), (2, [.row (some (sub 2 0)) 64 [], I 0])])
section
variable (m r : Nat) (l acc : List Dat) (root i n : Int)
theorem cp_0 (call : CallF) : evFn PR TK call m 14 [.agg (enF l root)] [none] = cpL call m m l [] root 0 := by kernel_rfl
theorem cp_1 : cpL cpC m (r + 1) l acc root i = bif decide (i < l.length) then (idx l i).bind fun d => bif fitB 101 (d.at 4).toL (d.at 5).toL then
      (bif Nat.ble (acc.length + 1) fitsN then cpL cpC m r l (acc ++ [cpD d]) root (W (i + 1)) else none) else none
    else some (.ret (.agg (enFT acc root)) [none]) := by kernel_rfl
end
noncomputable def lgC : CallF := addF 22 LargeE fun _ _ _ => none
noncomputable def lgL (call : CallF) (m r : Nat) (l : List Dat) (root n i : Int) := loopF PR TK call m 12 [none] [true, true, true, false, true] r (sp 46 [(1, .box 1 0), (3, I n), (4, I i)] [(1, enF l root)])
section
variable (m r : Nat) (l acc : List Dat) (root i n : Int)
theorem lg_0 (call : CallF) : evFn PR TK call m 12 [.agg (enF l root)] [none] = bif decide ((l.length : Int) > 5000) then bR1 true else lgL call m m l root 0 0 := by kernel_rfl
theorem lg_1 : lgL lgC m (r + 1) l root n i = bif decide (i < l.length) then (idx l i).bind fun d =>
      orO (decide (W (n + ((d.at 7).toS.size : Int)) > 200000)) ((idx l i).bind fun d => bif zB 102 (d.at 3).toS (d.at 4).toL (d.at 5).toL 0 0 then some (decide (largeO 102 (nrm d) 0 0 < 0)) else none) fun t =>
      bif t then bR1 true else lgL lgC m r l root (W (n + ((d.at 7).toS.size : Int))) (W (i + 1))
    else andK (decide ((l.length : Int) > 100)) (decide ((l.length : Int) ≤ 4096)) bR1 := by kernel_rfl
end
end Go.Proofs.YtckdgcpomkefpaaGreatDoor.En
end
section
set_option linter.unusedVariables false
set_option linter.unusedSimpArgs false
set_option maxRecDepth 100000
namespace Go.Proofs.YtckdgcpomkefpaaGreatDoor.En
open Go
theorem of_to (s : ByteArray) : bytesOf (bytesTo s) = s := by
  have h : bytesTo (bytesOf (bytesTo s)) = bytesTo s := to_of (isBy_to s)
  refine ba_inj ?_
  have hb : ∀ s : ByteArray, (bytesTo s).map (fun d => UInt8.ofNat (d.at 0).toI.toNat) = s.data.toList := fun s => by
    unfold bytesTo
    rw [List.map_map]
    refine (List.map_congr_left fun b _ => ?_).trans (List.map_id _)
    show UInt8.ofNat ((b.toNat : Int).toNat) = b
    simp
  rw [← hb, h, hb]
theorem lastL_bad (root : Int) (o : Option (List Dat × List Dat)) (h : (lastL root o).2.2 ≠ 0) : (lastL root o).1 = ⟨#[]⟩ ∧ (lastL root o).2.1 = [] := by
  cases o with
  | none => exact ⟨rfl, rfl⟩
  | some p =>
    obtain ⟨b, a⟩ := p
    have e : lastL root (some (b, a)) = bif decide ((((b ++ bytesTo (tailS a root b.length)).length : Nat) : Int) > 16777216) then (⟨#[]⟩, [], 2) else (bytesOf (b ++ bytesTo (tailS a root b.length)), a ++ [.int b.length], 0) := rfl
    rw [e] at h ⊢
    generalize decide ((((b ++ bytesTo (tailS a root b.length)).length : Nat) : Int) > 16777216) = c at h ⊢
    cases c
    · exact absurd rfl h
    · exact ⟨rfl, rfl⟩
theorem fileR_bad {l : List Dat} {root : Int} (h : (fileR l root).2.2 ≠ 0) : (fileR l root).1 = ⟨#[]⟩ ∧ (fileR l root).2.1 = [] := by
  unfold fileR at h ⊢
  cases hc : chkF l root != 0
  · rw [hc] at h
    exact lastL_bad root _ h
  · exact ⟨rfl, rfl⟩
noncomputable def ofsE : List AV → Bx → Option (Bool × Out)
  | [.agg [.row none 64 l, .v (.int .i64 root)]], [none] => some (decP (okL2 l), .ret (.tup [.row (some 2) 3 (fileR l root).2.1, I (fileR l root).2.2]) [none])
  | _, _ => none
noncomputable def wriE : List AV → Bx → Option (Bool × Out)
  | [.agg [.row none 64 l, .v (.int .i64 root)]], [none] => some (decP (okL2 l), .ret (.tup [S (fileR l root).1, I (fileR l root).2.2]) [none])
  | _, _ => none
theorem ofs_sound {ext : CallF} (hext : SoundCall PR ext) : SoundCall PR (addF 20 ofsE ext) := by
  refine sound_addX (takes := TK) hext _ (fn := (PR.funcs[20]?).getD default) (by kernel_rfl) (by kernel_rfl) ofsE fun xs bs out h => ?_
  unfold ofsE at h
  split at h
  · rename_i l root
    injection h with h
    injection h with h1 h2
    subst h2
    have p1 := decP_of h1
    by_cases he : (fileR l root).2.2 = 0
    · refine ⟨_, wno_sound, 1, (of_1 _ _ _).trans ?_⟩
      rw [decP_eq (show okL2 l ∧ (fileR l root).2.2 = 0 from ⟨p1, he⟩), he]; rfl
    · refine ⟨_, wnb_sound, 1, (of_0 _ _ _).trans ?_⟩
      rw [decP_eq (show okL2 l ∧ (fileR l root).2.2 ≠ 0 from ⟨p1, he⟩), (fileR_bad he).2]; rfl
  · cases h
theorem wri_sound {ext : CallF} (hext : SoundCall PR ext) : SoundCall PR (addF 15 wriE ext) := by
  refine sound_addX (takes := TK) hext _ (fn := (PR.funcs[15]?).getD default) (by kernel_rfl) (by kernel_rfl) wriE fun xs bs out h => ?_
  unfold wriE at h
  split at h
  · rename_i l root
    injection h with h
    injection h with h1 h2
    subst h2
    have p1 := decP_of h1
    by_cases he : (fileR l root).2.2 = 0
    · refine ⟨_, wno_sound, 1, (wr_1 _ _ _).trans ?_⟩
      rw [decP_eq (show okL2 l ∧ (fileR l root).2.2 = 0 from ⟨p1, he⟩), of_to, he]; rfl
    · refine ⟨_, wnb_sound, 1, (wr_0 _ _ _).trans ?_⟩
      have : ((fileR l root).2.2 != 0) = true := by simpa using he
      rw [decP_eq (show okL2 l ∧ (fileR l root).2.2 ≠ 0 from ⟨p1, he⟩), this, (fileR_bad he).1]; rfl
  · cases h
def okC (l : List Dat) : Prop := l.length ≤ 1000000 ∧ ∀ d ∈ l, fitO 101 (d.at 4).toL (d.at 5).toL
noncomputable def cpyE : List AV → Bx → Option (Bool × Out)
  | [.agg [.row none 64 l, .v (.int .i64 root)]], [none] => some (decP (okC l), .ret (.agg (enFT (l.map cpD) root)) [none])
  | _, _ => none
theorem cpC_sound : SoundCall PR cpC := sound_both (copy_sound sound_none 101) sound_none
theorem cp_loop {m : Nat} {l : List Dat} {root : Int} (hk : okC l) :
    ∀ (n i r : Nat) (acc : List Dat), i + n = l.length → n < r → acc.length = i → cpL cpC m r l acc root (i : Int) = some (.ret (.agg (enFT (acc ++ (l.drop i).map cpD) root)) [none]) := by
  intro n
  induction n with
  | zero =>
    intro i r acc hi hr ha
    cases r with
    | zero => omega
    | succ r =>
      rw [cp_1, show decide ((i : Int) < l.length) = false from decide_eq_false (by omega), List.drop_eq_nil_of_le (by omega), List.map_nil, List.append_nil]
      rfl
  | succ n ih =>
    intro i r acc hi hr ha
    cases r with
    | zero => omega
    | succ r =>
      have h1 : i < l.length := by omega
      have h0 := hk.1
      have ih := ih (i + 1) r (acc ++ [cpD l[i]]) (by omega) (by omega) (by rw [List.length_append, List.length_singleton]; omega)
      rw [show ((i + 1 : Nat) : Int) = (i : Int) + 1 by omega] at ih
      rw [cp_1, show decide ((i : Int) < l.length) = true from decide_eq_true (by omega), idx_at h1, W_in (n := (i : Int) + 1) (by omega), List.drop_eq_getElem_cons h1]
      simp only [cond_true, Option.bind_some]
      rw [fitB_eq (hk.2 _ (List.getElem_mem h1)), cond_true, fits_le (by omega), cond_true, ih, List.map_cons, List.append_assoc]
      rfl
theorem cpy_sound {ext : CallF} (hext : SoundCall PR ext) : SoundCall PR (addF 14 cpyE ext) := by
  refine sound_both (sound_add (takes := TK) hmixP cpC_sound _ (fn := (PR.funcs[14]?).getD default) (by kernel_rfl) (by kernel_rfl) cpyE fun xs bs out h => ?_) hext
  unfold cpyE at h
  split at h
  · rename_i l root
    injection h with h
    injection h with h1 h2
    subst h2
    have p1 := decP_of h1
    have h0 := p1.1
    refine ⟨1000001, (cp_0 _ _ _ _).trans ?_⟩
    have e := cp_loop (m := 1000001) (root := root) p1 l.length 0 1000001 [] (by omega) (by omega) rfl
    rw [List.drop_zero, List.nil_append] at e
    exact e
  · cases h
def lgI (L : Int) : List Dat → Int → Bool
  | [], n => decide (L > 100) && decide (L ≤ 4096)
  | d :: l, n => bif decide (n + ((d.at 7).toS.size : Int) > 200000) || decide (largeO 102 (nrm d) 0 0 < 0) then true else lgI L l (n + ((d.at 7).toS.size : Int))
def lgB (l : List Dat) : Bool := bif decide ((l.length : Int) > 5000) then true else lgI l.length l 0
def zF (l : List Dat) : Prop := ∀ d ∈ l, (∀ k, fitZ k (d.at 3).toS (d.at 4).toL (d.at 5).toL) ∧ (d.at 7).toS.size ≤ 140737488355328
noncomputable def LgE : List AV → Bx → Option (Bool × Out)
  | [.agg [.row none 64 l, .v (.int .i64 root)]], [none] => some (decP (zF l), .ret (B (lgB l)) [none])
  | _, _ => none
theorem lgC_sound : SoundCall PR lgC := sound_both Large_sound sound_none
theorem lg_loop {m : Nat} {l : List Dat} {root : Int} (hl : l.length ≤ 5000) (hz : zF l) :
    ∀ (k i r : Nat) (n : Int), i + k = l.length → k < r → 0 ≤ n → n ≤ 200000 → lgL lgC m r l root n (i : Int) = bR1 (lgI l.length (l.drop i) n) := by
  intro k
  induction k with
  | zero =>
    intro i r n hi hr h0 h1
    cases r with
    | zero => omega
    | succ r =>
      rw [lg_1, show decide ((i : Int) < l.length) = false from decide_eq_false (by omega), List.drop_eq_nil_of_le (by omega), cond_false, andK_eq]
      rfl
  | succ k ih =>
    intro i r n hi hr h0 h1
    cases r with
    | zero => omega
    | succ r =>
      have hlt : i < l.length := by omega
      have hd := hz _ (List.getElem_mem hlt)
      have hs := hd.2
      have z1 : zB 102 (l[i].at 3).toS (l[i].at 4).toL (l[i].at 5).toL 0 0 = true := decP_eq ⟨by decide, by decide, by decide, by decide, by decide, hd.1 102⟩
      rw [lg_1, show decide ((i : Int) < l.length) = true from decide_eq_true (by omega), idx_at hlt, W_in (n := (i : Int) + 1) (by omega), List.drop_eq_getElem_cons hlt]
      simp only [cond_true, Option.bind_some]
      rw [z1, cond_true, orO_eq, W_in (n := n + ((l[i].at 7).toS.size : Int)) (by omega)]
      show _ = bR1 (bif decide (n + ((l[i].at 7).toS.size : Int) > 200000) || decide (largeO 102 (nrm l[i]) 0 0 < 0) then true else lgI l.length (l.drop (i + 1)) (n + ((l[i].at 7).toS.size : Int)))
      by_cases hc : n + ((l[i].at 7).toS.size : Int) > 200000
      · rw [decide_eq_true hc]; rfl
      · rw [decide_eq_false hc, Bool.false_or]
        have := ih (i + 1) r (n + ((l[i].at 7).toS.size : Int)) (by omega) (by omega) (by omega) (by omega)
        rw [show ((i + 1 : Nat) : Int) = (i : Int) + 1 by omega] at this
        rw [this]
        cases decide (largeO 102 (nrm l[i]) 0 0 < 0) <;> rfl
theorem Lg_sound {ext : CallF} (hext : SoundCall PR ext) : SoundCall PR (addF 12 LgE ext) := by
  refine sound_both (sound_add (takes := TK) hmixP lgC_sound _ (fn := (PR.funcs[12]?).getD default) (by kernel_rfl) (by kernel_rfl) LgE fun xs bs out h => ?_) hext
  unfold LgE at h
  split at h
  · rename_i l root
    injection h with h
    injection h with h1 h2
    subst h2
    have p1 := decP_of h1
    refine ⟨5001, (lg_0 _ _ _ _).trans ?_⟩
    unfold lgB
    by_cases hc : (l.length : Int) > 5000
    · rw [decide_eq_true hc]; rfl
    · rw [decide_eq_false hc, cond_false, cond_false]
      have e := lg_loop (m := 5001) (root := root) (by omega) p1 l.length 0 5001 0 (by omega) (by omega) (by decide) (by decide)
      rw [List.drop_zero] at e
      exact e
  · cases h
theorem lgI_false : ∀ (l : List Dat) (L n : Int), 0 ≤ n → n ≤ 200000 → lgI L l n = false → ∀ d ∈ l, (d.at 7).toS.size ≤ 200000 ∧ 0 ≤ largeO 102 (nrm d) 0 0
  | [], L, n, _, _, _, d, hd => by cases hd
  | e :: l, L, n, h0, h1, h, d, hd => by
    have h' : (bif decide (n + ((e.at 7).toS.size : Int) > 200000) || decide (largeO 102 (nrm e) 0 0 < 0) then true else lgI L l (n + ((e.at 7).toS.size : Int))) = false := h
    cases hc : decide (n + ((e.at 7).toS.size : Int) > 200000) || decide (largeO 102 (nrm e) 0 0 < 0)
    · rw [hc, cond_false] at h'
      rw [Bool.or_eq_false_iff] at hc
      have q1 := of_decide_eq_false hc.1
      have q2 := of_decide_eq_false hc.2
      rcases List.mem_cons.1 hd with rfl | hd
      · exact ⟨by omega, by omega⟩
      · exact lgI_false l L _ (by omega) (by omega) h' d hd
    · rw [hc] at h'; cases h'
theorem okE_large {d : Dat} (hz : ∀ k, fitZ k (d.at 3).toS (d.at 4).toL (d.at 5).toL) (h : 0 ≤ largeO 102 (nrm d) 0 0) : okE (d.at 4).toL (d.at 5).toL := by
  have h1 := (large_fit 101 102 (nrm d) 0 0 (by decide) (by decide) (by decide) h).2
  have h2 : headN (d.at 3).toS (d.at 4).toL (d.at 5).toL 0 ≤ 2000 := by
    have e : largeO 102 (nrm d) 0 0 = bif decide (headN (d.at 3).toS (d.at 4).toL (d.at 5).toL 0 > 2000) || decide ((0 : Int) > 100) then -1 else itemsN (fun e n => largeO 101 e (0 + 1) n) (d.at 5).toL (keysN (d.at 4).toL (headN (d.at 3).toS (d.at 4).toL (d.at 5).toL 0)) := rfl
    by_cases hc : headN (d.at 3).toS (d.at 4).toL (d.at 5).toL 0 > 2000
    · rw [e, decide_eq_true hc, Bool.true_or, cond_true] at h
      omega
    · omega
  unfold headN at h2
  rw [div_nat] at h2
  exact ⟨⟨h1, keyZ_of 101 _ _ _ (hz 101)⟩, by omega, by omega⟩
theorem okL2_large {l : List Dat} (hz : zF l) (h : lgB l = false) : okL2 l ∧ l.length ≤ 5000 := by
  unfold lgB at h
  by_cases hc : (l.length : Int) > 5000
  · rw [decide_eq_true hc] at h; cases h
  · rw [decide_eq_false hc, cond_false] at h
    have hf := lgI_false l l.length 0 (by decide) (by decide) h
    refine ⟨⟨⟨fun d hd => okE_large (hz d hd).1 (hf d hd).2, fun d hd => ?_⟩, fun d hd => ?_⟩, by omega⟩
    · have := (hf d hd).1; omega
    · have := (hf d hd).1; omega
end Go.Proofs.YtckdgcpomkefpaaGreatDoor.En
end
section
set_option linter.unusedVariables false
set_option linter.unusedSimpArgs false
set_option maxRecDepth 100000
namespace Go.Proofs.YtckdgcpomkefpaaGreatDoor.En
open Go
def zE : Dat := .agg [.int 0, .bool false, .int 0, .str ⟨#[]⟩, .rows [], .rows [], .bool false, .str ⟨#[]⟩]
def oneE : List AV → Bx → Option (Bool × Out)
  | [], [] => some (true, .ret (.agg [.row (some (sub 0 0)) 64 [zE], I 1]) [])
  | _, _ => none
theorem one_0 (call : CallF) (m : Nat) : evFn PR TK call m 37 [] [] = some (.ret (.agg [.row (some (sub 0 0)) 64 [zE], I 1]) []) := by kernel_rfl
theorem one_sound {ext : CallF} (hext : SoundCall PR ext) : SoundCall PR (addF 37 oneE ext) := by
  refine sound_add (takes := TK) hmixP hext _ (fn := (PR.funcs[37]?).getD default) (by kernel_rfl) (by kernel_rfl) oneE fun xs bs out h => ?_
  unfold oneE at h
  split at h
  · cases h; exact ⟨1, one_0 _ _⟩
  · cases h
noncomputable def wk6C : CallF := addF 37 oneE (addF 15 wriE (addF 20 ofsE (addF 21 keepE fun _ _ _ => none)))
theorem wk6C_sound : SoundCall PR wk6C := one_sound (wri_sound (ofs_sound (keep_sound hmixP sound_none)))
def bW (t : Bool) : Option Out := some (.ret (B t) [])
def sOne : ByteArray := ⟨#[49, 32, 48, 32, 111, 98, 106]⟩
noncomputable def F1 : ByteArray × List Dat × Int := fileR [zE] 1
theorem wk6_0 (m : Nat) : evFn PR TK wk6C m 13 [] [] = bif decP (okL2 [zE]) then (bif decP (okL2 [zE]) then
    andK (F1.2.2 == 0) (F1.2.2 == 0) fun t => andK t (decide ((F1.1.size : Int) > 60)) fun t =>
    andO t (bif ((((true && true) && decide ((22 : Int) ≤ F1.1.size)) && true) && true) then some ((F1.1.extract (15 : Int).toNat (22 : Int).toNat).toList == sOne.toList) else none) fun t =>
    bif t == true then ((bif Nat.blt F1.2.1.length 4611686018427387904 then some (Nat.beq F1.2.1.length 2 && keepB F1.2.1 [.int 15, .int 35]) else none).bind bW) else bW false else none) else none := by kernel_rfl
theorem file_one : F1 = (⟨#[37, 80, 68, 70, 45, 49, 46, 55, 10, 37, 226, 227, 207, 211, 10, 49, 32, 48, 32, 111, 98, 106, 10, 110, 117, 108, 108, 10, 101, 110, 100, 111, 98, 106, 10,
  120, 114, 101, 102, 10, 48, 32, 50, 10, 48, 48, 48, 48, 48, 48, 48, 48, 48, 48, 32, 54, 53, 53, 51, 53, 32, 102, 32, 10, 48, 48, 48, 48, 48, 48, 48, 48, 49, 53, 32, 48, 48, 48, 48, 48, 32, 110, 32, 10,
  116, 114, 97, 105, 108, 101, 114, 10, 60, 60, 47, 83, 105, 122, 101, 32, 50, 32, 47, 82, 111, 111, 116, 32, 49, 32, 48, 32, 82, 62, 62, 10, 115, 116, 97, 114, 116, 120, 114, 101, 102, 10, 51, 53, 10, 37, 37, 69, 79, 70, 10]⟩, [.int 15, .int 35], 0) := by kernel_rfl
theorem okL2_one : okL2 [zE] := by
  have e : ∀ d ∈ [zE], d = zE := fun d hd => List.mem_singleton.1 hd
  refine ⟨⟨fun d hd => ?_, fun d hd => ?_⟩, fun d hd => ?_⟩
  · rw [e d hd]
    show okE [] []
    exact ⟨⟨⟨Nat.zero_le _, Nat.zero_le _, fun d hd => (by cases hd)⟩, fun d hd => (by cases hd), fun d hd => (by cases hd)⟩, Nat.zero_le _, Nat.zero_le _⟩
  · rw [e d hd]; exact Nat.zero_le _
  · rw [e d hd]; exact Nat.zero_le _
theorem wk6_run (m : Nat) : evFn PR TK wk6C m 13 [] [] = some (.ret (B true) []) := by
  rw [wk6_0, decP_eq okL2_one, file_one]
  kernel_rfl
def wakes6E : List AV → Bx → Option (Bool × Out)
  | [], [] => some (true, .ret (B true) [])
  | _, _ => none
theorem wakes6_sound {ext : CallF} (hext : SoundCall PR ext) : SoundCall PR (addF 13 wakes6E ext) := by
  refine sound_both (sound_add (takes := TK) hmixP wk6C_sound _ (fn := (PR.funcs[13]?).getD default) (by kernel_rfl) (by kernel_rfl) wakes6E fun xs bs out h => ?_) hext
  unfold wakes6E at h
  split at h
  · cases h; exact ⟨1, wk6_run _⟩
  · cases h
end Go.Proofs.YtckdgcpomkefpaaGreatDoor.En
end
section
set_option linter.unusedVariables false
set_option linter.unusedSimpArgs false
set_option maxRecDepth 100000
namespace Go.Proofs.YtckdgcpomkefpaaGreatDoor.En
open Go Go.RowKit
theorem nrm_cp (d : Dat) : nrm (cpD d) = copyO 101 (nrm d) := rfl
theorem enB_cp (d : Dat) : enB (cpD d) = copyO 101 (enB d) := by
  have h1 : enB (cpD d) = bodyD (d.at 0).toI (d.at 2).toI (d.at 1).toB (d.at 3).toS (d.at 4).toL ((d.at 5).toL.map (copyO 100)) (d.at 6).toB (d.at 7).toS := rfl
  rw [h1]
  unfold enB bodyD
  cases (d.at 6).toB
  · rfl
  · exact mea_copy _ _ _ _ _ _ _
theorem entD_cp (i : Nat) (d : Dat) : entD i (cpD d) = entD i d := by
  unfold entD
  rw [enB_cp]
  unfold entS
  rw [printS_copy]
  rfl
theorem rbad_cp (d : Dat) : rbadB (cpD d) = rbadB d := by
  have h1 : rbadB (cpD d) = (decide (goodO 101 (nrm (cpD d)) 0 0 < 0) || ((!(d.at 6).toB && !((d.at 7).toS.toList == (⟨#[]⟩ : ByteArray).toList)) || ((d.at 6).toB && (((d.at 0).toI != 7) || (hasB lenS (d.at 4).toL || decide (goodO 101 (nrm (cpD d)) 0 0 - 1 ≥ 65535)))))) := rfl
  rw [h1, nrm_cp, goodO_copy]
  rfl
theorem lays_cp : ∀ (l : List Dat) (i : Nat) (b a : List Dat), laysL i (l.map cpD) b a = laysL i l b a
  | [], i, b, a => rfl
  | d :: l, i, b, a => by
    rw [List.map_cons, laysL_cons, laysL_cons, entD_cp, enB_cp, printF_copy, lays_cp l]
theorem chkF_cp (l : List Dat) (root : Int) : chkF (l.map cpD) root = chkF l root := by
  have h : (l.map cpD).any rbadB = l.any rbadB := by
    rw [List.any_map]
    congr 1
    funext d
    exact rbad_cp d
  unfold chkF
  rw [h, List.length_map]
theorem fileR_cp (l : List Dat) (root : Int) : fileR (l.map cpD) root = fileR l root := by
  unfold fileR
  rw [chkF_cp, lays_cp]
theorem okL2_cp {l : List Dat} (h : okL2 l) : okL2 (l.map cpD) := by
  obtain ⟨⟨h1, h2⟩, h3⟩ := h
  refine ⟨⟨fun d hd => ?_, fun d hd => ?_⟩, fun d hd => ?_⟩ <;> obtain ⟨e, he, rfl⟩ := List.mem_map.1 hd
  · exact okE_copy (h1 e he)
  · exact h2 e he
  · exact h3 e he
theorem okC_of {l : List Dat} (h : okL2 l) (hl : l.length ≤ 5000) : okC l := ⟨by omega, fun d hd => (h.1.1 d hd).1.1⟩
noncomputable def plC : CallF := addF 12 LgE (addF 13 wakes6E (addF 14 cpyE (addF 20 ofsE (addF 16 layE (addF 21 keepE fun _ _ _ => none)))))
theorem plC_sound : SoundCall PR plC := Lg_sound (wakes6_sound (cpy_sound (ofs_sound (lay_sound (keep_sound hmixP sound_none)))))
section
variable (m : Nat) (l : List Dat) (root : Int)
theorem pl_0 : evFn PR TK plC m 4 [.agg (enF l root)] [none] =
  bif decP (zF l) then (bif lgB l then bR1 true else (bif decP (okC l) then (bif decP (okL2 (l.map cpD)) then (bif decP (okL l) then (bif Nat.blt (fileR (l.map cpD) root).2.1.length 4611686018427387904 then
    andK (Nat.beq (fileR (l.map cpD) root).2.1.length (fileR l root).2.1.length && keepB (fileR (l.map cpD) root).2.1 (fileR l root).2.1) ((fileR (l.map cpD) root).2.2 == (fileR l root).2.2) fun t => andK t true fun t => bR1 t
    else none) else none) else none) else none)) else none := by kernel_rfl
end
theorem keepB_refl : ∀ l : List Dat, keepB l l = true
  | [] => rfl
  | d :: l => by
    show (((d.at 0).toI == (d.at 0).toI) && keepB l l) = true
    rw [keepB_refl l]; simp
theorem lays_len : ∀ (l : List Dat) (i : Nat) (b a b' a' : List Dat), laysL i l b a = some (b', a') → a'.length = a.length + l.length
  | [], i, b, a, b', a', h => by cases h; rfl
  | d :: l, i, b, a, b', a', h => by
    rw [laysL_cons] at h
    obtain ⟨_, h⟩ := bif_some h
    rw [lays_len l _ _ _ _ _ h, List.length_append, List.length_singleton, List.length_cons]; omega
theorem fileR_len (l : List Dat) (root : Int) : (fileR l root).2.1.length ≤ l.length + 1 := by
  unfold fileR
  cases chkF l root != 0
  · rw [cond_false]
    cases h : laysL 0 l headL [] with
    | none => exact Nat.zero_le _
    | some p =>
      obtain ⟨b, a⟩ := p
      have e : lastL root (some (b, a)) = bif decide ((((b ++ bytesTo (tailS a root b.length)).length : Nat) : Int) > 16777216) then (⟨#[]⟩, [], 2) else (bytesOf (b ++ bytesTo (tailS a root b.length)), a ++ [.int b.length], 0) := rfl
      rw [e]
      have := lays_len l 0 headL [] b a h
      cases decide ((((b ++ bytesTo (tailS a root b.length)).length : Nat) : Int) > 16777216)
      · show (a ++ [Dat.int b.length]).length ≤ _
        rw [List.length_append, List.length_singleton, this]; simp
      · exact Nat.zero_le _
  · exact Nat.zero_le _
theorem pl_run {m : Nat} {l : List Dat} {root : Int} (hz : zF l) : evFn PR TK plC m 4 [.agg (enF l root)] [none] = bR1 true := by
  rw [pl_0, decP_eq hz, cond_true]
  cases hL : lgB l
  · obtain ⟨h1, h2⟩ := okL2_large hz hL
    have hlen := fileR_len l root
    have hb : Nat.blt (fileR l root).2.1.length 4611686018427387904 = true := Nat.ble_eq_true_of_le (by omega)
    rw [cond_false, decP_eq (okC_of h1 h2), decP_eq (okL2_cp h1), decP_eq h1.1, cond_true, cond_true, cond_true, fileR_cp, hb, cond_true, Nat.beq_refl, keepB_refl, andK_eq, andK_eq]
    simp
  · rfl
noncomputable def placesE : List AV → Bx → Option (Bool × Out)
  | [.agg [.row none 64 l, .v (.int .i64 root)]], [none] => some (decP (zF l), .ret (B true) [none])
  | _, _ => none
theorem places_sound : SoundCall PR (addF 4 placesE plC) := by
  refine sound_add (takes := TK) hmixP plC_sound _ (fn := (PR.funcs[4]?).getD default) (by kernel_rfl) (by kernel_rfl) placesE fun xs bs out h => ?_
  unfold placesE at h
  split at h
  · injection h with h
    injection h with h1 h2
    subst h2
    exact ⟨1, pl_run (decP_of h1)⟩
  · cases h
def ksF : List CK := [.row 64, .int .i64]
def ksE : List CK := [.int .i64, .bool, .int .i64, .str, .row 9, .row 43, .bool, .str]
theorem kinds_F : kinds PR 24 = some ksF := by kernel_rfl
theorem kinds_E : kinds PR 64 = some ksE := by kernel_rfl
theorem sz_entries {d : Dat} (h : Sz PR (.row 64) d) : zF d.toL := by
  cases h with
  | row E ks d hk hl hc =>
    rw [kinds_E] at hk
    cases hk
    intro e he
    refine ⟨fun j => ?_, sz_str (hc e he 7 .str rfl)⟩
    exact fitZ_of (sz_str (hc e he 3 .str rfl)) (sz_keys (hc e he 4 _ rfl)) j (e.at 5) rfl (hc e he 5 _ rfl)
theorem file_opn {W : World} {ds : List Dat} {cs : Array Value} (h : Opn PR W ksF ds cs.toList) : ∃ (l : List Dat) (root : Int), RepS PR (g0 W) W (.agg (enF l root)) (.agg cs) ∧ zF l := by
  obtain ⟨e0, e1, rfl⟩ : ∃ e0 e1, ds = [e0, e1] := by
    have := h.ld
    match ds, this with
    | [e0, e1], _ => exact ⟨_, _, rfl⟩
  refine ⟨e0.toL, e1.toI, agg_rep h, ?_⟩
  exact sz_entries ((h.each 0 _ e0 _ rfl rfl (List.getElem?_eq_getElem (l := cs.toList) (i := 0) (by rw [h.lc]; decide))).sz)
theorem places_ent (l : List Dat) (root : Int) : addF 4 placesE plC 4 [.agg (enF l root)] [none] = some (decP (zF l), .ret (B true) [none]) := by kernel_rfl
theorem places_calls {W : World} (hW : GW W) {ds : List Dat} {cs : Array Value} (h : Opn PR W ksF ds cs.toList) :
    Calls PR 4 #[.agg cs] W fun e w' => e = .returned (.bool true) ∧ Below W.heap.size W w' := by
  obtain ⟨l, root, hr, hz⟩ := file_opn h
  refine calls_v places_sound (f := 4) (xs := [.agg (enF l root)]) (bs := [none]) (bs' := [none]) ?_ (by simp) rfl hW rfl (fun i x hi => ?_)
  · rw [places_ent, decP_eq hz]; rfl
  · match i, hi with
    | 0, hi => cases hi; exact ⟨_, rfl, hr⟩
end Go.Proofs.YtckdgcpomkefpaaGreatDoor.En
end
