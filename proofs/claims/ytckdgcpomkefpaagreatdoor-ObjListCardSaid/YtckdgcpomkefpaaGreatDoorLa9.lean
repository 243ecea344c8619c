/- Part 9 of a proof: what it needs of the program's functions as plain Lean functions, with the proof that the machine's calls come to them, and of plain laws; put together out of smaller texts. No conditions besides those that each statement names. -/
import Derived.Test.YtckdgcpomkefpaaGreatDoorLa5
import Derived.Test.YtckdgcpomkefpaaGreatDoorLa7
import Derived.Test.YtckdgcpomkefpaaGreatDoorLa8
section
set_option linter.unusedVariables false
set_option linter.unusedSimpArgs false
set_option maxRecDepth 100000
namespace Go.Proofs.YtckdgcpomkefpaaGreatDoor.En
open Go
theorem no_blanks : ∀ (b : List UInt8) (t : List UInt8), (∀ c ∈ b, blkU c = true) → noR t → noRef t → noR (b ++ t) ∧ noRef (b ++ t)
  | [], t, _, h1, h2 => ⟨h1, h2⟩
  | c :: b, t, hb, h1, h2 => by
    have hc := hb c (by simp)
    obtain ⟨i1, i2⟩ := no_blanks b t (fun x hx => hb x (by simp [hx])) h1 h2
    refine ⟨fun e => i1 ?_, fun e => ?_⟩
    · unfold wd1 at e ⊢
      rwa [List.cons_append, skip_blank hc] at e
    · have := i2 (by unfold wd1 at e ⊢; rwa [List.cons_append, skip_blank hc] at e)
      unfold wdR at this ⊢
      rwa [List.cons_append, skip_blank hc]
theorem safe_bl {b t : List UInt8} (hb : ∀ c ∈ b, blkU c = true) (h0 : b ≠ []) (h1 : noR t) (h2 : noRef t) : safe (b ++ t) := by
  cases b with
  | nil => exact (h0 rfl).elim
  | cons c b =>
    obtain ⟨i1, i2⟩ := no_blanks b t (fun x hx => hb x (by simp [hx])) h1 h2
    exact safe_blank (hb c (by simp)) i1 i2
theorem safe_end {b r : List UInt8} {c : UInt8} (hb : ∀ x ∈ b, blkU x = true) (h1 : blkU c = false) (h2 : wdU c = false) : safe (b ++ c :: r) := by
  by_cases h0 : b = []
  · subst h0
    exact safe_delim h1 h2
  · obtain ⟨n1, n2⟩ := delim_no (r := r) h1 h2
    exact safe_bl hb h0 n1 n2
def HdD (k : Nat) (d : Dat) : Prop := (∃ c t, txtU k d = c :: t ∧ blkU c = false ∧ c ≠ 93) ∧ ∀ r, safe r → noR (txtU k d ++ r) ∧ noRef (txtU k d ++ r)
theorem hd_word {w : List UInt8} (hw : ∀ c ∈ w, wdU c = true) (h0 : w ≠ []) (h : w ≠ [82]) : (∃ c t, w = c :: t ∧ blkU c = false ∧ c ≠ 93) ∧ ∀ r, safe r → noR (w ++ r) ∧ noRef (w ++ r) := by
  refine ⟨?_, fun r hr => ⟨noR_word hw h0 h hr.1, noRef_word hw h0 hr⟩⟩
  cases w with
  | nil => exact (h0 rfl).elim
  | cons c t =>
    have hc := hw c (by simp)
    exact ⟨c, t, rfl, wd_blk c hc, fun e => by rw [e] at hc; exact absurd hc (by decide +kernel)⟩
theorem hd_delim {w : List UInt8} {c : UInt8} {t : List UInt8} (e : w = c :: t) (h1 : blkU c = false) (h2 : wdU c = false) (h3 : c ≠ 93) : (∃ c t, w = c :: t ∧ blkU c = false ∧ c ≠ 93) ∧ ∀ r, safe r → noR (w ++ r) ∧ noRef (w ++ r) := by
  subst e
  exact ⟨⟨c, t, rfl, h1, h3⟩, fun r _ => delim_no h1 h2⟩
theorem txtU_eq (k : Nat) (d : Dat) : txtU (k + 1) d = ub (txtK (txtO k) (d.at 0).toI (d.at 2).toI (d.at 1).toB (d.at 3).toS (d.at 4).toL (d.at 5).toL) := rfl
theorem ub_ref (n : Int) (h0 : -9223372036854775808 ≤ n) (h1 : n ≤ 9223372036854775807) : ub (bytesTo (itS n ++ refT)) = Lib.itoa n ++ [32, 48, 32, 82] := by
  rw [ub_to, ByteArray.data_append, Array.toList_append, itS_itoa h0 h1]
  rfl
theorem ub_itS (n : Int) (h0 : -9223372036854775808 ≤ n) (h1 : n ≤ 9223372036854775807) : ub (bytesTo (itS n)) = Lib.itoa n := by
  rw [ub_to, itS_itoa h0 h1]
  rfl
theorem hd_of (k : Nat) (d : Dat) (h : flatD d = true) : HdD (k + 1) d := by
  have hkb := kindB_of (show flatB (d.at 0).toI (d.at 2).toI (d.at 1).toB (d.at 3).toS (d.at 4).toL (d.at 5).toL = true from h)
  unfold HdD
  rw [txtU_eq]
  clear h
  revert hkb
  generalize (d.at 0).toI = k1
  generalize (d.at 2).toI = n1
  generalize (d.at 1).toB = b1
  generalize (d.at 3).toS = s1
  generalize (d.at 4).toL = ks1
  generalize (d.at 5).toL = l1
  intro hkb
  rcases kinds9 hkb with rfl | rfl | rfl | rfl | rfl | rfl | rfl | rfl | rfl
  · have e : ub (txtK (txtO k) 0 n1 b1 s1 ks1 l1) = nulT.data.toList := ub_to _
    rw [e]
    exact hd_word null_wd (by decide) (by decide)
  · have e : ub (txtK (txtO k) 1 n1 b1 s1 ks1 l1) = (boolT b1).data.toList := ub_to _
    rw [e]
    cases b1
    · exact hd_word false_wd (by decide) (by decide)
    · exact hd_word true_wd (by decide) (by decide)
  · have hk : inB n1 = true := hkb
    obtain ⟨q0, q1⟩ := inB_bd hk
    have e : ub (txtK (txtO k) 2 n1 b1 s1 ks1 l1) = Lib.itoa n1 := ub_itS n1 (by omega) (by omega)
    rw [e]
    obtain ⟨m1, m2⟩ := itoa_num n1
    exact hd_word (fun c hc => num_wd (m1 c hc)) m2 (num_R m1)
  · have e : ub (txtK (txtO k) 3 n1 b1 s1 ks1 l1) = (fixT n1).data.toList := ub_to _
    rw [e]
    obtain ⟨m1, m2⟩ := fix_num n1
    exact hd_word (fun c hc => num_wd (m1 c hc)) m2 (num_R m1)
  · have e : ub (txtK (txtO k) 4 n1 b1 s1 ks1 l1) = 47 :: s1.data.toList.flatMap escU := ub_name s1
    exact hd_delim e (by decide +kernel) (by decide +kernel) (by decide)
  · have e : ub (txtK (txtO k) 5 n1 b1 s1 ks1 l1) = _ := ub_txt s1
    rw [e]
    cases s1.data.toList.all shB
    · exact hd_delim rfl (by decide +kernel) (by decide +kernel) (by decide)
    · exact hd_delim rfl (by decide +kernel) (by decide +kernel) (by decide)
  · have e : ub (txtK (txtO k) 6 n1 b1 s1 ks1 l1) = 91 :: ub (sepT (txtO k) true l1 ++ [Dat.int 93]) := rfl
    exact hd_delim e (by decide +kernel) (by decide +kernel) (by decide)
  · have e : ub (txtK (txtO k) 7 n1 b1 s1 ks1 l1) = 60 :: ub (Dat.int 60 :: (dicT (txtO k) true ks1 l1 ++ bytesTo ⟨#[62, 62]⟩)) := rfl
    exact hd_delim e (by decide +kernel) (by decide +kernel) (by decide)
  · have hk : (decide (n1 ≥ 1) && decide (n1 ≤ 4096)) = true := hkb
    rw [Bool.and_eq_true, decide_eq_true_eq, decide_eq_true_eq] at hk
    have e : ub (txtK (txtO k) 8 n1 b1 s1 ks1 l1) = Lib.itoa n1 ++ [32, 48, 32, 82] := ub_ref n1 (by omega) (by omega)
    rw [e]
    obtain ⟨m1, m2⟩ := itoa_num n1
    have hw : ∀ c ∈ Lib.itoa n1, wdU c = true := fun c hc => num_wd (m1 c hc)
    obtain ⟨⟨c, t, q1, q2, q3⟩, _⟩ := hd_word hw m2 (num_R m1)
    refine ⟨⟨c, t ++ [32, 48, 32, 82], by rw [q1]; rfl, q2, q3⟩, fun r hr => ?_⟩
    rw [List.append_assoc]
    have hE : endW ([32, 48, 32, 82] ++ r) := fun c r' e => by injection e with e _; rw [← e]; decide +kernel
    refine ⟨noR_word hw m2 (num_R m1) hE, fun _ => ?_⟩
    have e2 : wdR (Lib.itoa n1 ++ ([32, 48, 32, 82] ++ r)) = [32, 48, 32, 82] ++ r := by
      unfold wdR
      rw [q1, List.cons_append, skip_word q2, ← List.cons_append, ← q1, (tw_app wdU _ _ hw hE).2]
    rw [e2]
    have h3 : noR ([48] ++ ([32, 82] ++ r)) := noR_word (by decide +kernel) (by decide) (by decide) (fun c r' e => by injection e with e _; rw [← e]; decide +kernel)
    intro e
    apply h3
    unfold wd1 at e ⊢
    rwa [show ([32, 48, 32, 82] ++ r : List UInt8) = 32 :: ([48] ++ ([32, 82] ++ r)) from rfl, skip_blank (by decide +kernel)] at e
def RdsD (k k2 : Nat) (nest : Int) (d : Dat) : Prop := ∀ (s : ByteArray) (a : Nat) (r : List UInt8) (n : Int), rest s a = txtU k d ++ r → safe r → 0 ≤ n → 0 ≤ goodO k d nest n → ∃ d', obP dpF s k2 (a : Int) (32 - nest) (65536 - n) = some (d', ((a + (txtU k d).length : Nat) : Int), 65536 - goodO k d nest n) ∧ sameO k d' d = true
theorem sameO_nrm1 (k : Nat) (a b : Dat) : sameO k (nrm a) b = sameO k a b := by cases k <;> rfl
def cntG (k : Nat) (nest : Int) (l : List Dat) (n : Int) : Int := itemsG (fun e n => goodO k e nest n) l n
theorem cntG_eq (k : Nat) (nest : Int) (d : Dat) (l : List Dat) (n : Int) : cntG k nest (d :: l) n = bif decide (goodO k d nest n < 0) then -1 else cntG k nest l (goodO k d nest n) := rfl
theorem cntG_cons {k : Nat} {nest : Int} {d : Dat} {l : List Dat} {n : Int} (h0 : 0 ≤ n) (h : 0 ≤ cntG k nest (d :: l) n) : 0 ≤ goodO k d nest n ∧ cntG k nest (d :: l) n = cntG k nest l (goodO k d nest n) := by
  rw [cntG_eq] at h ⊢
  by_cases hd : goodO k d nest n < 0
  · rw [decide_eq_true hd] at h; simp at h
  · rw [decide_eq_false hd, cond_false]
    exact ⟨by omega, rfl⟩
def sepL (k : Nat) (l : List (List UInt8 × Dat)) : List UInt8 := l.flatMap fun x => x.1 ++ txtU k x.2
theorem sepL_cons (k : Nat) (x : List UInt8 × Dat) (l : List (List UInt8 × Dat)) : sepL k (x :: l) = x.1 ++ (txtU k x.2 ++ sepL k l) := by
  unfold sepL
  rw [List.flatMap_cons, List.append_assoc]
theorem safe_sep {k : Nat} {post : List UInt8} (hp : safe post) : ∀ l : List (List UInt8 × Dat), (∀ x ∈ l, ∀ c ∈ x.1, blkU c = true) → (∀ x ∈ l, x.1 ≠ []) → (∀ x ∈ l, HdD k x.2) → safe (sepL k l ++ post)
  | [], _, _, _ => hp
  | x :: l, hb, h0, hh => by
    have ih := safe_sep hp l (fun y hy => hb y (by simp [hy])) (fun y hy => h0 y (by simp [hy])) (fun y hy => hh y (by simp [hy]))
    rw [sepL_cons, List.append_assoc, List.append_assoc]
    obtain ⟨n1, n2⟩ := (hh x (by simp)).2 _ ih
    exact safe_bl (hb x (by simp)) (h0 x (by simp)) n1 n2
theorem bl_skip {s : ByteArray} {a : Nat} {b t : List UInt8} {c : UInt8} (h : rest s a = b ++ c :: t) (hb : ∀ x ∈ b, blkU x = true) (hc : blkU c = false) : blA s (a : Int) = ((a + b.length : Nat) : Int) ∧ rest s (a + b.length) = c :: t :=
  ⟨skA_rest blkB s b a _ h hb (fun x r' e => by injection e with e _; rw [← e]; exact hc), rest_app h⟩
theorem ar_read {s : ByteArray} {k k2 : Nat} {nest deep : Int} {bl r : List UInt8} (hbl : ∀ c ∈ bl, blkU c = true) (hdp : deep = 32 - nest) :
    ∀ (l : List (List UInt8 × Dat)) (q a : Nat) (n : Int) (acc : List Dat), (∀ x ∈ l, ∀ c ∈ x.1, blkU c = true) → (∀ x ∈ l.tail, x.1 ≠ []) → (∀ x ∈ l, HdD k x.2 ∧ RdsD k k2 nest x.2) → 0 ≤ n → 0 ≤ cntG k nest (l.map (·.2)) n → l.length < q → rest s a = sepL k l ++ (bl ++ 93 :: r) →
      ∃ acc', arP s (fun a l => obP dpF s k2 a deep l) q (blA s (a : Int)) (65536 - n) acc = some (mkO 6 0 false ⟨#[]⟩ [] (acc ++ acc'), ((a + (sepL k l).length + bl.length + 1 : Nat) : Int), 65536 - cntG k nest (l.map (·.2)) n) ∧ allEq (sameO k) acc' (l.map (·.2)) = true
  | l, 0, a, n, acc, _, _, _, _, _, h, _ => by omega
  | [], q + 1, a, n, acc, _, _, _, _, _, _, h => by
    have h : rest s a = bl ++ 93 :: r := h
    obtain ⟨e1, e2⟩ := bl_skip h hbl (by decide +kernel)
    refine ⟨[], ?_, rfl⟩
    unfold arP
    rw [e1, isB_rest e2, show (((93 : UInt8).toNat : Int) == 93) = true from rfl, cond_true, List.append_nil]
    rfl
  | x :: l, q + 1, a, n, acc, hb, h0, hh, hn0, hn, hq, h => by
    rw [List.length_cons] at hq
    rw [sepL_cons, List.append_assoc, List.append_assoc] at h
    obtain ⟨hH, hR⟩ := hh x (by simp)
    obtain ⟨⟨c, t, t1, t2, t3⟩, _⟩ := hH
    have h2 := h
    rw [t1, List.cons_append] at h2
    obtain ⟨e1, e2⟩ := bl_skip h2 (hb x (by simp)) t2
    have h3 : rest s (a + x.1.length) = txtU k x.2 ++ (sepL k l ++ (bl ++ 93 :: r)) := rest_app h
    have hs : safe (sepL k l ++ (bl ++ 93 :: r)) := safe_sep (safe_end hbl (by decide +kernel) (by decide +kernel)) l (fun y hy => hb y (by simp [hy])) (fun y hy => h0 y hy) (fun y hy => (hh y (by simp [hy])).1)
    rw [List.map_cons] at hn ⊢
    obtain ⟨k1, k3⟩ := cntG_cons hn0 hn
    rw [k3] at hn ⊢
    obtain ⟨d', f1, f2⟩ := hR s _ _ n h3 hs hn0 k1
    obtain ⟨acc', g1, g2⟩ := ar_read hbl hdp l q (a + x.1.length + (txtU k x.2).length) (goodO k x.2 nest n) (acc ++ [nrm d']) (fun y hy => hb y (by simp [hy])) (fun y hy => h0 y (List.mem_of_mem_tail hy)) (fun y hy => hh y (by simp [hy])) k1 hn (by omega) (rest_app h3)
    refine ⟨nrm d' :: acc', ?_, ?_⟩
    · unfold arP
      rw [e1, isB_rest e2]
      have hc : ((c.toNat : Int) == 93) = false := by
        rw [beq_eq_false_iff_ne]
        intro e
        exact t3 (UInt8.toNat_inj.1 (by have : (93 : UInt8).toNat = 93 := rfl; omega))
      rw [hc, cond_false]
      subst hdp
      rw [f1]
      dsimp only
      rw [g1, sepL_cons, List.append_assoc, List.length_append, List.length_append]
      congr 3
      congr 1
      omega
    · rw [allEq, sameO_nrm1, f2, g2]
      rfl
def dicL (k : Nat) (l : List (List UInt8 × ByteArray × Dat)) : List UInt8 := l.flatMap fun x => x.1 ++ (47 :: (x.2.1.data.toList.flatMap escU ++ (32 :: txtU k x.2.2)))
theorem dicL_cons (k : Nat) (x : List UInt8 × ByteArray × Dat) (l : List (List UInt8 × ByteArray × Dat)) : dicL k (x :: l) = x.1 ++ (47 :: (x.2.1.data.toList.flatMap escU ++ (32 :: (txtU k x.2.2 ++ dicL k l)))) := by
  unfold dicL
  rw [List.flatMap_cons]
  simp only [List.append_assoc, List.cons_append]
theorem dc_read {s : ByteArray} {k k2 : Nat} {nest deep : Int} {r : List UInt8} (hdp : deep = 32 - nest) :
    ∀ (l : List (List UInt8 × ByteArray × Dat)) (q a : Nat) (n : Int) (ks acc : List Dat), (∀ x ∈ l, ∀ c ∈ x.1, blkU c = true) → (∀ x ∈ l, namedB x.2.1 = true) → (∀ x ∈ l, HdD k x.2.2 ∧ RdsD k k2 nest x.2.2) → 0 ≤ n → 0 ≤ cntG k nest (l.map (·.2.2)) n → l.length < q → rest s a = dicL k l ++ (62 :: 62 :: r) →
      ∃ acc', dcP s (fun a l => obP dpF s k2 a deep l) q (blA s (a : Int)) (65536 - n) ks acc = some (mkO 7 0 false ⟨#[]⟩ (ks ++ l.map fun x => Dat.str x.2.1) (acc ++ acc'), ((a + (dicL k l).length + 2 : Nat) : Int), 65536 - cntG k nest (l.map (·.2.2)) n) ∧ allEq (sameO k) acc' (l.map (·.2.2)) = true
  | l, 0, a, n, ks, acc, _, _, _, _, _, h, _ => by omega
  | [], q + 1, a, n, ks, acc, _, _, _, _, _, _, h => by
    have h : rest s a = [] ++ 62 :: (62 :: r) := h
    obtain ⟨e1, e2⟩ := bl_skip h (by simp) (by decide +kernel)
    have e1 : blA s (a : Int) = (a : Int) := e1
    have e2 : rest s a = 62 :: 62 :: r := e2
    refine ⟨[], ?_, rfl⟩
    unfold dcP
    rw [e1, isB_rest e2, show (a : Int) + 1 = ((a + 1 : Nat) : Int) by omega, isB_rest (rest_tl e2)]
    show some (mkO 7 0 false ⟨#[]⟩ ks acc, (a : Int) + 2, 65536 - n) = some (mkO 7 0 false ⟨#[]⟩ (ks ++ []) (acc ++ []), _, _)
    rw [List.append_nil, List.append_nil]
    rfl
  | x :: l, q + 1, a, n, ks, acc, hb, hnm, hh, hn0, hn, hq, h => by
    rw [List.length_cons] at hq
    rw [dicL_cons, List.append_assoc, List.cons_append, List.append_assoc, List.cons_append, List.append_assoc] at h
    obtain ⟨hH, hR⟩ := hh x (by simp)
    obtain ⟨⟨c, t, t1, t2, t3⟩, _⟩ := hH
    obtain ⟨e1, e2⟩ := bl_skip h (hb x (by simp)) (by decide +kernel)
    have e3 := rest_tl e2
    have hnmA := nmA_read (fun c r' e => by injection e with e _; rw [← e]; decide +kernel) e3
    have e4 := rest_app e3
    have e5 : rest s (a + x.1.length + 1 + (x.2.1.data.toList.flatMap escU).length) = [32] ++ (c :: (t ++ (dicL k l ++ (62 :: 62 :: r)))) := by rw [e4, t1]; rfl
    have e6 : blA s ((a + x.1.length + 1 + (x.2.1.data.toList.flatMap escU).length : Nat) : Int) = ((a + x.1.length + 1 + (x.2.1.data.toList.flatMap escU).length + 1 : Nat) : Int) := (bl_skip e5 (by decide +kernel) t2).1
    have e8 : rest s (a + x.1.length + 1 + (x.2.1.data.toList.flatMap escU).length + 1) = txtU k x.2.2 ++ (dicL k l ++ (62 :: 62 :: r)) := rest_tl e4
    have hs : safe (dicL k l ++ (62 :: 62 :: r)) := by
      cases l with
      | nil => exact safe_delim (by decide +kernel) (by decide +kernel)
      | cons y l =>
        rw [dicL_cons, List.append_assoc, List.cons_append]
        exact safe_end (hb y (by simp)) (by decide +kernel) (by decide +kernel)
    have hm : (x :: l).map (·.2.2) = x.2.2 :: l.map (·.2.2) := rfl
    rw [hm] at hn ⊢
    obtain ⟨k1, k3⟩ := cntG_cons hn0 hn
    rw [k3] at hn ⊢
    obtain ⟨d', f1, f2⟩ := hR s _ _ n e8 hs hn0 k1
    obtain ⟨acc', g1, g2⟩ := dc_read hdp l q (a + x.1.length + 1 + (x.2.1.data.toList.flatMap escU).length + 1 + (txtU k x.2.2).length) (goodO k x.2.2 nest n) (ks ++ [Dat.str x.2.1]) (acc ++ [nrm d']) (fun y hy => hb y (by simp [hy])) (fun y hy => hnm y (by simp [hy])) (fun y hy => hh y (by simp [hy])) k1 hn (by omega) (rest_app e8)
    refine ⟨nrm d' :: acc', ?_, ?_⟩
    · unfold dcP
      rw [e1, isB_rest e2, show (((47 : UInt8).toNat : Int) == 62) = false from rfl, Bool.false_and, cond_false, isB_rest e2, show (((47 : UInt8).toNat : Int) == 47) = true from rfl, cond_true,
        show ((a + x.1.length : Nat) : Int) + 1 = ((a + x.1.length + 1 : Nat) : Int) by omega, hnmA]
      subst hdp
      dsimp only
      rw [e6, f1]
      dsimp only
      rw [intU_of, bs_data, g1, dicL_cons]
      simp only [List.map_cons, List.append_assoc, List.cons_append, List.nil_append, List.length_append, List.length_cons]
      congr 3
      congr 1
      omega
    · rw [allEq, sameO_nrm1, f2, g2]
      rfl
end Go.Proofs.YtckdgcpomkefpaaGreatDoor.En
end
section
set_option linter.unusedVariables false
set_option linter.unusedSimpArgs false
set_option maxRecDepth 100000
namespace Go.Proofs.YtckdgcpomkefpaaGreatDoor.En
open Go
theorem bare_zero {k n : Int} {b : Bool} {s : ByteArray} {ks l : List Dat} (h : bareB k n b s ks l = false) : ((k != 1) = true → b = false) ∧ (((k != 2) && ((k != 3) && (k != 8))) = true → n = 0) ∧ (((k != 4) && (k != 5)) = true → s.toList = []) ∧ ((k != 7) = true → ks = []) ∧ (((k != 6) && (k != 7)) = true → l = []) := by
  unfold bareB at h
  rw [Bool.or_eq_false_iff, Bool.or_eq_false_iff, Bool.or_eq_false_iff, Bool.or_eq_false_iff] at h
  obtain ⟨⟨⟨⟨h1, h2⟩, h3⟩, h4⟩, h5⟩ := h
  refine ⟨fun hk => ?_, fun hk => ?_, fun hk => ?_, fun hk => ?_, fun hk => ?_⟩
  · rw [hk, Bool.and_true] at h1
    exact h1
  · rw [Bool.and_eq_true, Bool.and_eq_true] at hk
    rw [hk.1, hk.2.1, hk.2.2, Bool.and_true, Bool.and_true, Bool.and_true] at h2
    simpa using h2
  · rw [Bool.and_eq_true] at hk
    rw [hk.1, hk.2, Bool.and_true, Bool.and_true] at h3
    have e : (⟨#[]⟩ : ByteArray).toList = [] := by rw [Lib.toList_data]
    rw [e] at h3
    simpa using h3
  · rw [hk, Bool.and_true, decide_eq_false_iff_not] at h4
    exact List.length_eq_zero_iff.1 (by omega)
  · rw [Bool.and_eq_true] at hk
    rw [hk.1, hk.2, Bool.and_true, Bool.and_true, decide_eq_false_iff_not] at h5
    exact List.length_eq_zero_iff.1 (by omega)
theorem flat_bare {d : Dat} (h : flatD d = true) : bareB (d.at 0).toI (d.at 2).toI (d.at 1).toB (d.at 3).toS (d.at 4).toL (d.at 5).toL = false := by
  have h : (!bareB (d.at 0).toI (d.at 2).toI (d.at 1).toB (d.at 3).toS (d.at 4).toL (d.at 5).toL && kindB (d.at 0).toI (d.at 2).toI (d.at 3).toS (d.at 4).toL (d.at 5).toL) = true := h
  rw [Bool.and_eq_true, Bool.not_eq_true'] at h
  exact h.1
theorem good_flat : ∀ {k : Nat} {d : Dat} {nest ahead : Int}, 0 ≤ goodO k d nest ahead → ∃ j, k = j + 1 ∧ flatD d = true
  | 0, d, nest, ahead, h => by simp [goodO] at h
  | k + 1, d, nest, ahead, h => by
    refine ⟨k, rfl, ?_⟩
    unfold goodO at h
    cases hc : decide (ahead + 1 > 65536) || !flatD d
    · rw [Bool.or_eq_false_iff, Bool.not_eq_false'] at hc
      exact hc.2
    · rw [hc] at h; simp at h
theorem same_pl {k : Nat} {kk n k1 n1 : Int} {b b1 : Bool} {t s1 : ByteArray} {ks1 l1 : List Dat} (e1 : kk = k1) (e2 : b = b1) (e3 : n = n1) (e4 : t.toList = s1.toList) (e5 : ks1 = []) (e6 : l1 = []) :
    ((kk == k1) && ((b == b1) && ((n == n1) && ((t.toList == s1.toList) && (keysEq [] ks1 && allEq (sameO k) [] l1))))) = true := by
  subst e1 e2 e3 e5 e6
  rw [e4]
  simp [keysEq, allEq]
theorem wd_not {c : UInt8} (h : wdU c = true) : ((c.toNat : Int) == 47) = false ∧ ((c.toNat : Int) == 40) = false ∧ ((c.toNat : Int) == 91) = false ∧ ((c.toNat : Int) == 60) = false := by
  have := byte_tab (fun c => !wdU c || (!((c.toNat : Int) == 47) && (!((c.toNat : Int) == 40) && (!((c.toNat : Int) == 91) && !((c.toNat : Int) == 60))))) (by decide +kernel) c
  rw [h] at this
  simp only [Bool.not_true, Bool.false_or, Bool.and_eq_true, Bool.not_eq_true'] at this
  exact this
theorem obB_word {s : ByteArray} {a : Nat} {w r : List UInt8} {deep l : Int} {ob : Int → Int → Option ObR} (h : rest s a = w ++ r) (hw : ∀ c ∈ w, wdU c = true) (h0 : w ≠ []) (hl : 0 ≤ l) : obB dpF s ob (a : Int) deep l = sdS dpF s (sub' s (a : Int) (wdA s (a : Int))) (wdA s (a : Int)) l := by
  cases w with
  | nil => exact (h0 rfl).elim
  | cons c w =>
    have h : rest s a = c :: (w ++ r) := h
    obtain ⟨c1, c2, c3, c4⟩ := wd_not (hw c (by simp))
    have := rest_size h
    rw [← rest_bt h] at c1 c2 c3 c4
    exact obB_atom (by omega) hl c1 c2 c3 c4
theorem rest_at {s : ByteArray} {a : Nat} {c : UInt8} {t : List UInt8} (h : rest s a = c :: t) : (a : Int) < s.size ∧ bt s (a : Int) = (c.toNat : Int) := by
  have := rest_size h
  exact ⟨by omega, rest_bt h⟩
theorem txR_some {k : Int} {t : List UInt8} {p l : Int} : txR k (some (intU t, p)) l = some (plO k 0 false (bs t), p, l) := by
  unfold txR
  rw [Option.map_some, intU_of]
def sepZ : Bool → List Dat → List (List UInt8 × Dat)
  | _, [] => []
  | first, d :: r => ((bif first then [] else [32]), d) :: sepZ false r
theorem sepZ_text (k : Nat) : ∀ (first : Bool) (l : List Dat), ub (sepT (txtO k) first l) = sepL k (sepZ first l)
  | first, [] => rfl
  | first, d :: r => by
    rw [sepT_cons, ub_app, ub_app, sepZ_text k false r, sepZ, sepL_cons, List.append_assoc]
    cases first <;> rfl
theorem sepZ_len : ∀ (first : Bool) (l : List Dat), (sepZ first l).length = l.length
  | first, [] => rfl
  | first, d :: r => by rw [sepZ, List.length_cons, List.length_cons, sepZ_len]
theorem sepZ_map : ∀ (first : Bool) (l : List Dat), (sepZ first l).map (·.2) = l
  | first, [] => rfl
  | first, d :: r => by rw [sepZ, List.map_cons, sepZ_map]
theorem sepZ_mem : ∀ (first : Bool) (l : List Dat), ∀ x ∈ sepZ first l, (x.1 = [] ∨ x.1 = [32]) ∧ x.2 ∈ l
  | first, [], x, h => by cases h
  | first, d :: r, x, h => by
    rcases List.mem_cons.1 h with rfl | h
    · exact ⟨by cases first; exact .inr rfl; exact .inl rfl, by simp⟩
    · obtain ⟨h1, h2⟩ := sepZ_mem false r x h
      exact ⟨h1, by simp [h2]⟩
theorem sepZ_tail : ∀ (l : List Dat), ∀ x ∈ sepZ false l, x.1 ≠ []
  | [], x, h => by cases h
  | d :: r, x, h => by
    rcases List.mem_cons.1 h with rfl | h
    · exact fun e => by cases e
    · exact sepZ_tail r x h
theorem sepZ_tail' (first : Bool) (l : List Dat) : ∀ x ∈ (sepZ first l).tail, x.1 ≠ [] := by
  cases l with
  | nil => intro x h; cases h
  | cons d r => exact sepZ_tail r
def dicZ : Bool → List Dat → List Dat → List (List UInt8 × ByteArray × Dat)
  | first, key :: ks, d :: r => ((bif first then [] else [32]), (key.at 0).toS, d) :: dicZ false ks r
  | _, _, _ => []
theorem dicZ_text (k : Nat) : ∀ (first : Bool) (ks l : List Dat), ub (dicT (txtO k) first ks l) = dicL k (dicZ first ks l)
  | first, [], l => by unfold dicT dicZ; rfl
  | first, key :: ks, [] => by unfold dicT dicZ; rfl
  | first, key :: ks, d :: r => by
    rw [dicT_cons, ub_app, ub_app, ub_app, ub_app, dicZ_text k false ks r, dicZ, dicL_cons, ub_name]
    have e : ub (bif first then ([] : List Dat) else [Dat.int 32]) = (bif first then [] else [32]) := by cases first <;> rfl
    rw [e]
    simp only [List.append_assoc, List.cons_append]
    rfl
theorem dicZ_map : ∀ (first : Bool) (ks l : List Dat), ks.length = l.length → (dicZ first ks l).map (·.2.2) = l ∧ keysEq ((dicZ first ks l).map fun x => Dat.str x.2.1) ks = true ∧ (dicZ first ks l).length = l.length
  | first, [], [], h => ⟨rfl, rfl, rfl⟩
  | first, [], d :: r, h => by cases h
  | first, key :: ks, [], h => by cases h
  | first, key :: ks, d :: r, h => by
    obtain ⟨h1, h2, h3⟩ := dicZ_map false ks r (by simpa using h)
    refine ⟨by rw [dicZ, List.map_cons, h1], ?_, by rw [dicZ, List.length_cons, List.length_cons, h3]⟩
    rw [dicZ, List.map_cons, keysEq, h2, Bool.and_true]
    exact beq_self_eq_true _
theorem dicZ_mem : ∀ (first : Bool) (ks l : List Dat), ∀ x ∈ dicZ first ks l, (x.1 = [] ∨ x.1 = [32]) ∧ (∃ key ∈ ks, x.2.1 = (key.at 0).toS) ∧ x.2.2 ∈ l
  | first, [], l, x, h => by unfold dicZ at h; cases h
  | first, key :: ks, [], x, h => by unfold dicZ at h; cases h
  | first, key :: ks, d :: r, x, h => by
    rw [dicZ] at h
    rcases List.mem_cons.1 h with rfl | h
    · exact ⟨by cases first; exact .inr rfl; exact .inl rfl, ⟨key, by simp, rfl⟩, by simp⟩
    · obtain ⟨h1, ⟨y, hy, e⟩, h2⟩ := dicZ_mem false ks r x h
      exact ⟨h1, ⟨y, by simp [hy], e⟩, by simp [h2]⟩
theorem blank_mem {b : List UInt8} (h : b = [] ∨ b = [32]) : ∀ c ∈ b, blkU c = true := by
  rcases h with rfl | rfl
  · intro c hc; cases hc
  · decide +kernel
theorem good_form {k : Nat} {d : Dat} {nest n : Int} (hn : 0 ≤ n) (h : 0 ≤ goodO (k + 1) d nest n) : n + 1 ≤ 65536 ∧ (((d.at 0).toI == 6 || (d.at 0).toI == 7) = true → nest + 1 ≤ 32 ∧ 0 ≤ cntG k (nest + 1) (d.at 5).toL (n + 1) ∧ goodO (k + 1) d nest n = cntG k (nest + 1) (d.at 5).toL (n + 1)) ∧
    ((d.at 5).toL = [] → ((d.at 0).toI == 6 || (d.at 0).toI == 7) = false → goodO (k + 1) d nest n = n + 1) := by
  unfold goodO at h ⊢
  cases hc : decide (n + 1 > 65536) || !flatD d
  · rw [hc, cond_false] at h
    rw [Bool.or_eq_false_iff, decide_eq_false_iff_not] at hc
    rw [cond_false]
    refine ⟨by omega, fun hk => ?_, fun hl hk => ?_⟩
    · rw [hk, cond_true] at h ⊢
      cases hn : decide (nest + 1 > 32)
      · rw [hn, cond_false] at h
        rw [decide_eq_false_iff_not] at hn
        exact ⟨by omega, h, rfl⟩
      · rw [hn] at h; simp at h
    · rw [hk, hl]; rfl
  · rw [hc] at h; simp at h
theorem cnt_items {k : Nat} {nest n : Int} {l : List Dat} (hn : 0 ≤ n) (h : 0 ≤ cntG k nest l n) : n + l.length ≤ cntG k nest l n ∧ ∀ e ∈ l, HdD k e := by
  refine ⟨itemsG_mono (g := fun e n => goodO k e nest n) (fun e n hn he => goodO_mono k e nest n hn he) _ _ hn h, fun e he => ?_⟩
  obtain ⟨n', a1, a2⟩ := itemsG_all (g := fun e n => goodO k e nest n) (fun e n hn he => goodO_mono k e nest n hn he) _ _ hn h e he
  obtain ⟨j, rfl, hf⟩ := good_flat a2
  exact hd_of j e hf
theorem rb : ∀ (k : Nat) (d : Dat) (nest : Int), 0 ≤ nest → nest ≤ 32 → ∀ k2 : Nat, 33 ≤ nest + k2 → RdsD k k2 nest d
  | 0, d, nest, n0, n1, k2, hk2 => fun s a r n _ _ _ h => by simp [goodO] at h
  | k + 1, d, nest, n0, n1, 0, hk2 => by omega
  | k + 1, d, nest, n0, n1, k2 + 1, hk2 => by
    intro s a r n hrest hs hn h
    obtain ⟨g0, g1, g2⟩ := good_form hn h
    have hbd := (goodO_bd (k + 1) d nest n hn).2
    obtain ⟨_, _, hfl⟩ := good_flat h
    have hkb := kindB_of (show flatB (d.at 0).toI (d.at 2).toI (d.at 1).toB (d.at 3).toS (d.at 4).toL (d.at 5).toL = true from hfl)
    have hz := bare_zero (flat_bare hfl)
    have hit : ((d.at 0).toI == 6 || (d.at 0).toI == 7) = true → (n + 1) + (d.at 5).toL.length ≤ 65536 ∧ ∀ e ∈ (d.at 5).toL, HdD k e ∧ RdsD k k2 (nest + 1) e := fun hk => by
      obtain ⟨x1, x2, x3⟩ := g1 hk
      obtain ⟨y1, y2⟩ := cnt_items (by omega) x2
      exact ⟨by omega, fun e he => ⟨y2 e he, rb k e (nest + 1) (by omega) (by omega) k2 (by omega)⟩⟩
    rw [txtU_eq] at hrest ⊢
    rw [obP_succ]
    show ∃ d', obB dpF s (fun a l => obP dpF s k2 a (32 - nest - 1) l) (a : Int) (32 - nest) (65536 - n - 1) = some (d', ((a + (ub (txtK (txtO k) (d.at 0).toI (d.at 2).toI (d.at 1).toB (d.at 3).toS (d.at 4).toL (d.at 5).toL)).length : Nat) : Int), 65536 - goodO (k + 1) d nest n) ∧
      (((d'.at 0).toI == (d.at 0).toI) && (((d'.at 1).toB == (d.at 1).toB) && (((d'.at 2).toI == (d.at 2).toI) && (((d'.at 3).toS.toList == (d.at 3).toS.toList) && (keysEq (d'.at 4).toL (d.at 4).toL && allEq (sameO k) (d'.at 5).toL (d.at 5).toL))))) = true
    clear hbd hfl
    generalize goodO (k + 1) d nest n = v at h g1 g2 ⊢
    revert hrest g1 g2 hkb hz hit
    generalize (d.at 0).toI = k1
    generalize (d.at 2).toI = n1'
    generalize (d.at 1).toB = b1
    generalize (d.at 3).toS = s1
    generalize (d.at 4).toL = ks1
    generalize (d.at 5).toL = l1
    intro hrest hkb hz hit g1 g2
    obtain ⟨z1, z2, z3, z4, z5⟩ := hz
    have ez : (⟨#[]⟩ : ByteArray).toList = [] := by rw [Lib.toList_data]
    have hl0 : 0 ≤ 65536 - n - 1 := by omega
    have hv : ∀ x : Int, v = x + 1 → 65536 - x - 1 = 65536 - v := fun x e => by omega
    rcases kinds9 hkb with rfl | rfl | rfl | rfl | rfl | rfl | rfl | rfl | rfl
    · have e : ub (txtK (txtO k) 0 n1' b1 s1 ks1 l1) = nulT.data.toList := ub_to _
      rw [e] at hrest ⊢
      rw [← hv n (g2 (z5 rfl) rfl)]
      refine ⟨_, (obB_word hrest null_wd (by decide) hl0).trans (sd_null hs hrest _), ?_⟩
      exact same_pl rfl (z1 rfl).symm (z2 rfl).symm (ez.trans (z3 rfl).symm) (z4 rfl) (z5 rfl)
    · have e : ub (txtK (txtO k) 1 n1' b1 s1 ks1 l1) = (boolT b1).data.toList := ub_to _
      rw [e] at hrest ⊢
      rw [← hv n (g2 (z5 rfl) rfl)]
      cases b1
      · refine ⟨_, (obB_word hrest false_wd (by decide) hl0).trans (sd_false hs hrest _), ?_⟩
        exact same_pl rfl rfl (z2 rfl).symm (ez.trans (z3 rfl).symm) (z4 rfl) (z5 rfl)
      · refine ⟨_, (obB_word hrest true_wd (by decide) hl0).trans (sd_true hs hrest _), ?_⟩
        exact same_pl rfl rfl (z2 rfl).symm (ez.trans (z3 rfl).symm) (z4 rfl) (z5 rfl)
    · have hk : inB n1' = true := hkb
      obtain ⟨q0, q1⟩ := inB_bd hk
      have e : ub (txtK (txtO k) 2 n1' b1 s1 ks1 l1) = Lib.itoa n1' := ub_itS n1' (by omega) (by omega)
      rw [e] at hrest ⊢
      rw [← hv n (g2 (z5 rfl) rfl)]
      obtain ⟨m1, m2⟩ := itoa_num n1'
      refine ⟨_, (obB_word hrest (fun c hc => num_wd (m1 c hc)) m2 hl0).trans (sd_int hs hk hrest _), ?_⟩
      exact same_pl rfl (z1 rfl).symm rfl (ez.trans (z3 rfl).symm) (z4 rfl) (z5 rfl)
    · have hk : (inB n1' && (n1'.tmod 65536) != 0) = true := hkb
      rw [Bool.and_eq_true, bne_iff_ne] at hk
      have e : ub (txtK (txtO k) 3 n1' b1 s1 ks1 l1) = (fixT n1').data.toList := ub_to _
      rw [e] at hrest ⊢
      rw [← hv n (g2 (z5 rfl) rfl)]
      obtain ⟨m1, m2⟩ := fix_num n1'
      refine ⟨_, (obB_word hrest (fun c hc => num_wd (m1 c hc)) m2 hl0).trans (sd_fix hs hk.1 hk.2 hrest _), ?_⟩
      exact same_pl rfl (z1 rfl).symm rfl (ez.trans (z3 rfl).symm) (z4 rfl) (z5 rfl)
    · have e : ub (txtK (txtO k) 4 n1' b1 s1 ks1 l1) = 47 :: s1.data.toList.flatMap escU := ub_name s1
      rw [e] at hrest ⊢
      rw [← hv n (g2 (z5 rfl) rfl)]
      have hn := nmA_read hs.1 (rest_tl (c := 47) hrest)
      obtain ⟨r1, r2⟩ := rest_at (c := 47) hrest
      refine ⟨plO 4 0 false s1, ?_, ?_⟩
      · rw [obB_name r1 hl0 r2, show (a : Int) + 1 = ((a + 1 : Nat) : Int) by omega, hn, txR_some, bs_data, List.length_cons]
        congr 3
        congr 1
        omega
      · exact same_pl rfl (z1 rfl).symm (z2 rfl).symm rfl (z4 rfl) (z5 rfl)
    · have e : ub (txtK (txtO k) 5 n1' b1 s1 ks1 l1) = _ := ub_txt s1
      rw [e] at hrest ⊢
      rw [← hv n (g2 (z5 rfl) rfl)]
      refine ⟨plO 5 0 false s1, ?_, same_pl rfl (z1 rfl).symm (z2 rfl).symm rfl (z4 rfl) (z5 rfl)⟩
      cases hp : s1.data.toList.all shB
      · rw [hp, cond_false, List.cons_append, List.append_assoc] at hrest
        have hx := hxA_read (rest_tl (c := 60) hrest)
        obtain ⟨r1, r2⟩ := rest_at (c := 60) hrest
        have h6 : isB s ((a : Int) + 1) 60 = false := by
          rw [show (a : Int) + 1 = ((a + 1 : Nat) : Int) by omega]
          have h1 := rest_tl (c := 60) hrest
          cases ht : s1.data.toList with
          | nil =>
            rw [ht] at h1
            rw [isB_rest (c := 62) (r := r) h1]
            rfl
          | cons b t =>
            rw [ht] at h1
            rw [isB_rest (c := hiU b) h1]
            exact (hex_ok b).2.2.2.2
        rw [obB_hex r1 hl0 r2 h6, show (a : Int) + 1 = ((a + 1 : Nat) : Int) by omega, hx, txR_some, bs_data, cond_false, List.length_cons, List.length_append, List.length_singleton]
        congr 3
        congr 1
        omega
      · rw [hp, cond_true, List.cons_append, List.append_assoc] at hrest
        have hx := txA_read (rest_tl (c := 40) hrest)
        obtain ⟨r1, r2⟩ := rest_at (c := 40) hrest
        rw [obB_text r1 hl0 r2, show (a : Int) + 1 = ((a + 1 : Nat) : Int) by omega, hx, txR_some, bs_data, cond_true, List.length_cons, List.length_append, List.length_singleton]
        congr 3
        congr 1
        omega
    · obtain ⟨i1, i2⟩ := hit rfl
      obtain ⟨j1, j2, j3⟩ := g1 rfl
      subst j3
      have e : ub (txtK (txtO k) 6 n1' b1 s1 ks1 l1) = 91 :: (sepL k (sepZ true l1) ++ [93]) := by
        show 91 :: ub (sepT (txtO k) true l1 ++ [Dat.int 93]) = _
        rw [ub_app, sepZ_text]
        rfl
      rw [e] at hrest ⊢
      rw [List.cons_append, List.append_assoc] at hrest
      obtain ⟨r1, r2⟩ := rest_at (c := 91) hrest
      obtain ⟨acc', f1, f2⟩ := ar_read (k := k) (k2 := k2) (nest := nest + 1) (deep := 32 - nest - 1) (bl := []) (r := r) (by simp) (by omega) (sepZ true l1) ((65536 - (n + 1)).toNat + 2) (a + 1) (n + 1) [] (fun x hx => blank_mem (sepZ_mem true l1 x hx).1) (sepZ_tail' true l1) (fun x hx => i2 _ (sepZ_mem true l1 x hx).2) (by omega) (by rw [sepZ_map]; exact j2) (by rw [sepZ_len]; omega) (rest_tl (c := 91) hrest)
      rw [sepZ_map] at f1 f2
      refine ⟨mkO 6 0 false ⟨#[]⟩ [] ([] ++ acc'), ?_, ?_⟩
      · rw [obB_list r1 hl0 r2]
        unfold arR
        rw [decide_eq_true (by omega), cond_true, show (a : Int) + 1 = ((a + 1 : Nat) : Int) by omega, show 65536 - n - 1 = 65536 - (n + 1) by omega, f1, List.length_cons, List.length_append, List.length_singleton, List.length_nil]
        congr 3
        congr 1
        omega
      · obtain rfl : b1 = false := z1 rfl
        obtain rfl : n1' = 0 := z2 rfl
        obtain rfl : ks1 = [] := z4 rfl
        have e3 : (⟨#[]⟩ : ByteArray).toList = s1.toList := ez.trans (z3 rfl).symm
        show (((6 : Int) == 6) && ((false == false) && (((0 : Int) == 0) && (((⟨#[]⟩ : ByteArray).toList == s1.toList) && (keysEq [] [] && allEq (sameO k) ([] ++ acc') l1))))) = true
        rw [e3, List.nil_append, f2]
        simp [keysEq]
    · obtain ⟨i1, i2⟩ := hit rfl
      obtain ⟨j1, j2, j3⟩ := g1 rfl
      subst j3
      obtain ⟨c1, c2⟩ := kb7 hkb
      have hnm : ∀ x ∈ ks1, namedB (x.at 0).toS = true := by
        have h' : (bif ((ks1.length : Int) != l1.length) then false else keysR [] ks1) = true := hkb
        cases hc : ((ks1.length : Int) != l1.length)
        · rw [hc, cond_false] at h'
          exact keysR_nm _ _ h'
        · rw [hc] at h'; cases h'
      obtain ⟨m1, m2, m3⟩ := dicZ_map true ks1 l1 c1
      have e : ub (txtK (txtO k) 7 n1' b1 s1 ks1 l1) = 60 :: 60 :: (dicL k (dicZ true ks1 l1) ++ [62, 62]) := by
        show ub ((bytesTo ⟨#[60, 60]⟩ ++ dicT (txtO k) true ks1 l1) ++ bytesTo ⟨#[62, 62]⟩) = _
        rw [ub_app, ub_app, dicZ_text, ub_to, ub_to]
        rfl
      rw [e] at hrest ⊢
      rw [List.cons_append, List.cons_append, List.append_assoc] at hrest
      obtain ⟨r1, r2⟩ := rest_at (c := 60) hrest
      obtain ⟨acc', f1, f2⟩ := dc_read (k := k) (k2 := k2) (nest := nest + 1) (deep := 32 - nest - 1) (r := r) (by omega) (dicZ true ks1 l1) ((65536 - (n + 1)).toNat + 2) (a + 1 + 1) (n + 1) [] [] (fun x hx => blank_mem (dicZ_mem true ks1 l1 x hx).1)
        (fun x hx => by obtain ⟨_, ⟨key, hk, e⟩, _⟩ := dicZ_mem true ks1 l1 x hx; rw [e]; exact hnm key hk) (fun x hx => i2 _ (dicZ_mem true ks1 l1 x hx).2.2) (by omega) (by rw [m1]; exact j2) (by rw [m3]; omega) (rest_tl (rest_tl (c := 60) hrest))
      rw [m1] at f1 f2
      refine ⟨mkO 7 0 false ⟨#[]⟩ ([] ++ (dicZ true ks1 l1).map fun x => Dat.str x.2.1) ([] ++ acc'), ?_, ?_⟩
      · have h6 : isB s ((a : Int) + 1) 60 = true := by rw [show (a : Int) + 1 = ((a + 1 : Nat) : Int) by omega, isB_rest (rest_tl (c := 60) hrest)]; rfl
        rw [obB_dict r1 hl0 r2 h6]
        unfold dcR
        rw [decide_eq_true (by omega), cond_true, show (a : Int) + 2 = ((a + 1 + 1 : Nat) : Int) by omega, show 65536 - n - 1 = 65536 - (n + 1) by omega, f1, List.length_cons, List.length_cons, List.length_append]
        congr 3
        congr 1
        show a + 1 + 1 + _ + 2 = a + (_ + 2 + 1 + 1)
        omega
      · obtain rfl : b1 = false := z1 rfl
        obtain rfl : n1' = 0 := z2 rfl
        have e3 : (⟨#[]⟩ : ByteArray).toList = s1.toList := ez.trans (z3 rfl).symm
        show (((7 : Int) == 7) && ((false == false) && (((0 : Int) == 0) && (((⟨#[]⟩ : ByteArray).toList == s1.toList) && (keysEq ([] ++ (dicZ true ks1 l1).map fun x => Dat.str x.2.1) ks1 && allEq (sameO k) ([] ++ acc') l1))))) = true
        rw [e3, List.nil_append, List.nil_append, f2, m2]
        simp
    · have hk : (decide (n1' ≥ 1) && decide (n1' ≤ 4096)) = true := hkb
      rw [Bool.and_eq_true, decide_eq_true_eq, decide_eq_true_eq] at hk
      have e : ub (txtK (txtO k) 8 n1' b1 s1 ks1 l1) = Lib.itoa n1' ++ [32, 48, 32, 82] := ub_ref n1' (by omega) (by omega)
      rw [e] at hrest ⊢
      rw [← hv n (g2 (z5 rfl) rfl)]
      obtain ⟨m1, m2⟩ := itoa_num n1'
      have hr2 := hrest
      rw [List.append_assoc] at hr2
      refine ⟨plO 8 n1' false ⟨#[]⟩, (obB_word hr2 (fun c hc => num_wd (m1 c hc)) m2 hl0).trans ((sd_ref hs.1 hk.1 hk.2 hrest _).trans ?_), ?_⟩
      · rw [List.length_append]
        rfl
      · exact same_pl rfl (z1 rfl).symm rfl (ez.trans (z3 rfl).symm) (z4 rfl) (z5 rfl)
end Go.Proofs.YtckdgcpomkefpaaGreatDoor.En
end
section
set_option linter.unusedVariables false
set_option linter.unusedSimpArgs false
set_option maxRecDepth 100000
namespace Go.Proofs.YtckdgcpomkefpaaGreatDoor.En
open Go
def pR (s : ByteArray) (e : Int) : Option Out := some (.ret (.tup [S s, I e]) [none])
noncomputable def prC : CallF := addF 24 GoodE (addF 45 (writeE 101) (addF 46 blE (addF 47 strE fun _ _ _ => none)))
theorem prC_sound : SoundCall PR prC := sound_both Good_sound (sound_both (write_sound 101) (bl_sound (str_sound sound_none)))
section
variable (m : Nat) (k1 n1 : Int) (b1 : Bool) (s1 : ByteArray) (ks1 l1 : List Dat)
theorem print_0 : evFn PR TK prC m 29 [.agg (obA k1 n1 b1 s1 ks1 l1)] [none] =
  bif decP (okO' 101 ks1 l1 32 65536) then (bif !(ogO 101 (mkO k1 n1 b1 s1 ks1 l1) 32 65536).1 then pR ⟨#[]⟩ 50 else
    (bif decP (okWr 101 (mkO k1 n1 b1 s1 ks1 l1) []) then (bif decide (((wrO 101 (mkO k1 n1 b1 s1 ks1 l1) []).length : Int) > 1048576) then pR ⟨#[]⟩ 2 else
      (bif bytesOk (wrO 101 (mkO k1 n1 b1 s1 ks1 l1) []) && (Nat.blt 0 (wrO 101 (mkO k1 n1 b1 s1 ks1 l1) []).length && Nat.ble (wrO 101 (mkO k1 n1 b1 s1 ks1 l1) []).length 9223372036854775807) then pR (bytesOf (wrO 101 (mkO k1 n1 b1 s1 ks1 l1) [])) 0 else none)) else none)) else none := by kernel_rfl
end
noncomputable def printS (d : Dat) : ByteArray := bif decide (goodO 101 d 0 0 > 0) then (bif decide (((txtO 101 d).length : Int) > 1048576) then ⟨#[]⟩ else bytesOf (txtO 101 d)) else ⟨#[]⟩
noncomputable def printF (d : Dat) : Int := bif decide (goodO 101 d 0 0 > 0) then (bif decide (((txtO 101 d).length : Int) > 1048576) then 2 else 0) else 50
def okPr (ks l : List Dat) : Prop := fitO 101 ks l ∧ keyZ 101 ks l
noncomputable def printE : List AV → Bx → Option (Bool × Out)
  | [.agg [.v (.int .i64 k1), .v (.bool b1), .v (.int .i64 n1), .v (.string s1), .row none 9 ks1, .row none 43 l1]], [none] =>
    some (decP (okPr ks1 l1), .ret (.tup [S (printS (mkO k1 n1 b1 s1 ks1 l1)), I (printF (mkO k1 n1 b1 s1 ks1 l1))]) [none])
  | _, _ => none
theorem bytesOk_of {l : List Dat} (h : isBy l) : bytesOk l = true := by
  unfold bytesOk
  rw [List.all_eq_true]
  intro d hd
  obtain ⟨b, rfl⟩ := h d hd
  have := b.toNat_lt
  rw [Bool.and_eq_true, decide_eq_true_eq, decide_eq_true_eq]
  show (0 : Int) ≤ (b.toNat : Int) ∧ (b.toNat : Int) < 256
  omega
theorem print_run {m : Nat} {k1 n1 : Int} {b1 : Bool} {s1 : ByteArray} {ks1 l1 : List Dat} (h : okPr ks1 l1) :
    evFn PR TK prC m 29 [.agg (obA k1 n1 b1 s1 ks1 l1)] [none] = pR (printS (mkO k1 n1 b1 s1 ks1 l1)) (printF (mkO k1 n1 b1 s1 ks1 l1)) := by
  have hok : okO' 101 ks1 l1 32 65536 := ⟨h.1, h.2, by decide, by decide, by decide, by decide⟩
  rw [print_0, decP_eq hok, cond_true, Good_eq]
  unfold printS printF
  generalize mkO k1 n1 b1 s1 ks1 l1 = d
  by_cases hg : goodO 101 d 0 0 > 0
  · have hw := okWr_good hg
    have hl := txtO_len 101 d 0 0 (by omega) (by omega)
    have hb := (goodO_bd 101 d 0 0 (by omega)).2
    have far := wrO_far 101 d [] [] (asFar.refl _)
    rw [List.nil_append] at far
    obtain ⟨h1, h2, h3⟩ := far
    rw [decide_eq_true hg, Bool.not_true, cond_false, decP_eq hw, cond_true, cond_true, cond_true]
    by_cases hs : 1048576 < (txtO 101 d).length
    · have := h3 hs
      rw [decide_eq_true (show ((wrO 101 d []).length : Int) > 1048576 by omega), decide_eq_true (show ((txtO 101 d).length : Int) > 1048576 by omega)]
      rfl
    · rw [h2 (by omega), decide_eq_false (show ¬ ((txtO 101 d).length : Int) > 1048576 by omega), cond_false, cond_false, cond_false, bytesOk_of (isBy_txtO 101 d), show Nat.blt 0 (txtO 101 d).length = true from Nat.ble_eq_true_of_le hl.2, Nat.ble_eq_true_of_le (by omega)]
      rfl
  · rw [decide_eq_false hg]; rfl
theorem print_sound {ext : CallF} (hext : SoundCall PR ext) : SoundCall PR (addF 29 printE ext) := by
  refine sound_both (sound_add (takes := TK) hmixP prC_sound _ (fn := (PR.funcs[29]?).getD default) (by kernel_rfl) (by kernel_rfl) printE fun xs bs out h => ?_) hext
  unfold printE at h
  split at h
  · injection h with h
    injection h with h1 h2
    subst h2
    exact ⟨1, print_run (decP_of h1)⟩
  · cases h
end Go.Proofs.YtckdgcpomkefpaaGreatDoor.En
end
section
set_option linter.unusedVariables false
set_option linter.unusedSimpArgs false
set_option maxRecDepth 100000
namespace Go.Proofs.YtckdgcpomkefpaaGreatDoor.En
open Go Go.RowKit
def ksO : List CK := [.int .i64, .bool, .int .i64, .str, .row 9, .row 43]
theorem kinds_O : kinds PR 43 = some ksO := by kernel_rfl
theorem kinds_S : kinds PR 9 = some [.str] := by kernel_rfl
theorem bytes_O : PR.bytesOf 43 = 88 := by kernel_rfl
theorem bytes_S : PR.bytesOf 9 = 16 := by kernel_rfl
theorem reach_le : reachBytes ≤ 140737488355328 := of_decide_eq_true (by kernel_rfl)
theorem sz_str {d : Dat} (h : Sz PR .str d) : d.toS.size ≤ 140737488355328 := by
  cases h with
  | str d h => exact Nat.le_trans h reach_le
theorem sz_keys {d : Dat} (h : Sz PR (.row 9) d) : d.toL.length ≤ 140737488355328 ∧ ∀ e ∈ d.toL, (e.at 0).toS.size ≤ 140737488355328 := by
  cases h with
  | row E ks d hk hl hc =>
    rw [bytes_S] at hl
    rw [kinds_S] at hk
    cases hk
    refine ⟨?_, fun e he => sz_str (hc e he 0 .str rfl)⟩
    have := reach_le
    omega
theorem fitZ_of {s : ByteArray} {ks l : List Dat} (hs : s.size ≤ 140737488355328) (hk : ks.length ≤ 140737488355328 ∧ ∀ e ∈ ks, (e.at 0).toS.size ≤ 140737488355328) : ∀ (n : Nat) (d : Dat), l = d.toL → Sz PR (.row 43) d → fitZ n s ks l := by
  intro n
  induction n generalizing s ks l with
  | zero => intro d _ _; trivial
  | succ n ih =>
    intro d e h
    subst e
    cases h with
    | row E ks' d hk' hl hc =>
      rw [bytes_O] at hl
      rw [kinds_O] at hk'
      cases hk'
      have := reach_le
      refine ⟨hs, hk.1, by omega, hk.2, fun e he => ?_⟩
      exact ih (sz_str (hc e he 3 .str rfl)) (sz_keys (hc e he 4 _ rfl)) (e.at 5) rfl (hc e he 5 _ rfl)
end Go.Proofs.YtckdgcpomkefpaaGreatDoor.En
end
section
set_option linter.unusedVariables false
set_option linter.unusedSimpArgs false
set_option maxRecDepth 100000
namespace Go.Proofs.YtckdgcpomkefpaaGreatDoor.En
open Go Go.RowKit
def big (k1 n1 : Int) (b1 : Bool) (s1 : ByteArray) (ks1 l1 : List Dat) : Bool := decide (largeO 102 (mkO k1 n1 b1 s1 ks1 l1) 0 0 < 0)
def cp (l : List Dat) : List Dat := l.map (copyO 100)
section
variable (m : Nat) (k1 n1 k2 n2 : Int) (b1 b2 : Bool) (s1 s2 : ByteArray) (ks1 l1 ks2 l2 : List Dat)
end
theorem flatB_len {k1 n1 : Int} {b1 : Bool} {s1 : ByteArray} {ks1 l1 l2 : List Dat} (h : l1.length = l2.length) : flatB k1 n1 b1 s1 ks1 l1 = flatB k1 n1 b1 s1 ks1 l2 := by
  unfold flatB bareB kindB
  rw [h]
theorem goodO_copy : ∀ (k : Nat) (d : Dat) (nest ahead : Int), goodO k (copyO k d) nest ahead = goodO k d nest ahead
  | 0, d, nest, ahead => rfl
  | k + 1, d, nest, ahead => by
    have hl : ∀ (nest : Int) (l : List Dat) (n : Int), itemsG (fun e n => goodO k e nest n) (l.map (copyO k)) n = itemsG (fun e n => goodO k e nest n) l n := fun nest l => by
      induction l with
      | nil => intro n; rfl
      | cons d l ih =>
        intro n
        rw [List.map_cons]
        show (bif decide (goodO k (copyO k d) nest n < 0) then -1 else itemsG (fun e n => goodO k e nest n) (l.map (copyO k)) (goodO k (copyO k d) nest n)) = (bif decide (goodO k d nest n < 0) then -1 else itemsG (fun e n => goodO k e nest n) l (goodO k d nest n))
        rw [goodO_copy k d, ih]
    have hf : flatD (copyO (k + 1) d) = flatD d := flatB_len (by show ((d.at 5).toL.map (copyO k)).length = _; rw [List.length_map])
    unfold goodO
    rw [hf]
    show (bif decide (ahead + 1 > 65536) || !flatD d then -1 else bif (d.at 0).toI == 6 || (d.at 0).toI == 7 then (bif decide (nest + 1 > 32) then -1 else itemsG (fun e n => goodO k e (nest + 1) n) ((d.at 5).toL.map (copyO k)) (ahead + 1)) else itemsG (fun e n => goodO k e nest n) ((d.at 5).toL.map (copyO k)) (ahead + 1)) = _
    rw [hl, hl]
theorem keyZ_copy : ∀ (k j : Nat) (ks l : List Dat), keyZ k ks l → keyZ k ks (l.map (copyO j))
  | 0, j, ks, l, h => trivial
  | k + 1, j, ks, l, h => by
    refine ⟨h.1, fun e he => ?_⟩
    obtain ⟨d, hd, rfl⟩ := List.mem_map.1 he
    have := h.2 d hd
    cases j with
    | zero => exact this
    | succ j => exact keyZ_copy k j (d.at 4).toL (d.at 5).toL this
theorem keyZ_of : ∀ (k : Nat) (s : ByteArray) (ks l : List Dat), fitZ k s ks l → keyZ k ks l
  | 0, s, ks, l, _ => trivial
  | k + 1, s, ks, l, h => by
    obtain ⟨h1, h2, h3, h4, h5⟩ := h
    exact ⟨fun d hd => Nat.le_trans (h4 d hd) (by unfold maxLen; decide), fun d hd => keyZ_of k _ _ _ (h5 d hd)⟩
end Go.Proofs.YtckdgcpomkefpaaGreatDoor.En
end
section
set_option linter.unusedVariables false
set_option linter.unusedSimpArgs false
set_option maxRecDepth 100000
namespace Go.Proofs.YtckdgcpomkefpaaGreatDoor.En
open Go Go.RowKit
def bT (b : Bool) : Option Out := some (.ret (B b) [none, none])
noncomputable def paK0 (u : ByteArray) (K : Dat → Int → Int → Option Out) : Option Out := bif Nat.ble u.size 16777216 then
  (bif (decide ((0 : Int) < 0) || decide ((0 : Int) > (u.size : Int))) then K (plO 0 0 false ⟨#[]⟩) 0 1 else bif (paO dpF u 0).isSome then K (rvP (paO dpF u 0)).1 (rvP (paO dpF u 0)).2 0 else K (plO 0 0 false ⟨#[]⟩) 0 50) else none
noncomputable def sameQ (d e : Dat) : Option Bool := bif fitB 101 (d.at 4).toL (d.at 5).toL then some (sameO 101 (nrm d) (nrm e)) else none
end Go.Proofs.YtckdgcpomkefpaaGreatDoor.En
end
section
set_option linter.unusedVariables false
set_option linter.unusedSimpArgs false
set_option maxRecDepth 100000
namespace Go.Proofs.YtckdgcpomkefpaaGreatDoor.En
open Go
theorem nmP_rel (s : ByteArray) : ∀ (k : Nat) (a : Int) (acc x : List Dat) (b : Int), nmP s k a acc = some (x, b) → (x.length : Int) + a ≤ b + acc.length
  | 0, a, acc, x, b, h => by cases h
  | k + 1, a, acc, x, b, h => by
    unfold nmP at h
    cases c0 : decide (a < s.size) && wordB (bt s a) <;> rw [c0] at h
    · cases h; omega
    · rw [cond_true] at h
      cases c1 : bt s a == 35 <;> rw [c1] at h
      · rw [cond_false] at h
        obtain ⟨_, h⟩ := bif_some h
        have := nmP_rel s k _ _ _ _ h
        rw [List.length_append, List.length_singleton] at this
        omega
      · rw [cond_true] at h
        obtain ⟨_, h⟩ := bif_some h
        have := nmP_rel s k _ _ _ _ h
        rw [List.length_append, List.length_singleton] at this
        omega
theorem hxP_rel (s : ByteArray) : ∀ (k : Nat) (a : Int) (acc x : List Dat) (b : Int), hxP s k a acc = some (x, b) → (x.length : Int) + a + 1 ≤ b + acc.length
  | 0, a, acc, x, b, h => by cases h
  | k + 1, a, acc, x, b, h => by
    unfold hxP at h
    cases c0 : isB s a 62 <;> rw [c0] at h
    · rw [cond_false] at h
      obtain ⟨_, h⟩ := bif_some h
      have := hxP_rel s k _ _ _ _ h
      rw [List.length_append, List.length_singleton] at this
      omega
    · cases h; omega
theorem quP_rel (s : ByteArray) : ∀ (k : Nat) (a o : Int) (acc x : List Dat) (b : Int), quP s k a o acc = some (x, b) → (x.length : Int) + a + 1 ≤ b + acc.length
  | 0, a, o, acc, x, b, h => by cases h
  | k + 1, a, o, acc, x, b, h => by
    unfold quP at h
    obtain ⟨_, h⟩ := bif_some h
    have step : ∀ (a' o' : Int) (v : Dat), a + 1 ≤ a' → quP s k a' o' (acc ++ [v]) = some (x, b) → (x.length : Int) + a + 1 ≤ b + acc.length := fun a' o' v ha h => by
      have := quP_rel s k _ _ _ _ _ h
      rw [List.length_append, List.length_singleton] at this
      omega
    cases c1 : bt s a == 40 <;> rw [c1] at h
    · rw [cond_false] at h
      cases c2 : bt s a == 41 <;> rw [c2] at h
      · rw [cond_false] at h
        cases c3 : bt s a == 92 <;> rw [c3] at h
        · exact step _ _ _ (by omega) h
        · rw [cond_true] at h
          obtain ⟨_, h⟩ := bif_some h
          refine step _ _ _ ?_ h
          unfold esP
          cases eB (bt s (a + 1))
          · show a + 1 ≤ a + 1 + 3; omega
          · show a + 1 ≤ a + 1 + 1; omega
      · rw [cond_true] at h
        cases c3 : o == 0 <;> rw [c3] at h
        · exact step _ _ _ (by omega) h
        · cases h; omega
    · exact step _ _ _ (by omega) h
def ObTx (s : ByteArray) (ob : Int → Int → Option ObR) : Prop := ∀ (a l : Int) (d : Dat) (p l' : Int), 0 ≤ a → a ≤ s.size → ob a l = some (d, p, l') → ∀ j, ((txtO j d).length : Int) + 1 ≤ 4 * (p - a)
theorem arP_tx {s : ByteArray} {ob : Int → Int → Option ObR} (hob : ObBd s ob) (hp : ObTx s ob) : ∀ (k : Nat) (a l : Int) (acc : List Dat) (d : Dat) (p l' : Int), 0 ≤ a → a ≤ s.size → arP s ob k a l acc = some (d, p, l') →
    ∃ items, d = mkO 6 0 false ⟨#[]⟩ [] (acc ++ items) ∧ ∀ j first, ((sepT (txtO j) first items).length : Int) + 1 ≤ 4 * (p - a)
  | 0, a, l, acc, d, p, l', _, _, h => by cases h
  | k + 1, a, l, acc, d, p, l', h0, h1, h => by
    unfold arP at h
    cases hc : isB s a 93 <;> rw [hc] at h
    · rw [cond_false] at h
      split at h
      · cases h
      · rename_i d' p' l2 he
        obtain ⟨e1, e2, e3, e4⟩ := hob a l _ _ _ h0 h1 he
        have f1 := hp a l _ _ _ h0 h1 he
        obtain ⟨b1, b2⟩ := blA_bd (s := s) (a := p') e2
        obtain ⟨items, g1, g2⟩ := arP_tx hob hp k _ _ _ d p l' (by omega) b2 h
        refine ⟨nrm d' :: items, by rw [g1, List.append_assoc]; rfl, fun j first => ?_⟩
        have f1 := f1 j
        have g2 := g2 j false
        rw [sepT_cons, List.length_append, List.length_append, txtO_nrm]
        have h4 : (bif first then ([] : List Dat) else [Dat.int 32]).length ≤ 1 := by cases first <;> simp
        omega
    · cases h
      refine ⟨[], by rw [List.append_nil], fun j first => ?_⟩
      show ((sepT (txtO j) first []).length : Int) + 1 ≤ 4 * (a + 1 - a)
      unfold sepT
      simp only [List.length_nil]
      omega
theorem dcP_tx {s : ByteArray} {ob : Int → Int → Option ObR} (hob : ObBd s ob) (hp : ObTx s ob) : ∀ (k : Nat) (a l : Int) (ks acc : List Dat) (d : Dat) (p l' : Int), 0 ≤ a → a ≤ s.size → dcP s ob k a l ks acc = some (d, p, l') →
    ∃ ks' items, d = mkO 7 0 false ⟨#[]⟩ (ks ++ ks') (acc ++ items) ∧ ∀ j first, ((dicT (txtO j) first ks' items).length : Int) + 1 ≤ 4 * (p - a)
  | 0, a, l, ks, acc, d, p, l', _, _, h => by cases h
  | k + 1, a, l, ks, acc, d, p, l', h0, h1, h => by
    unfold dcP at h
    cases hc : isB s a 62 && isB s (a + 1) 62 <;> rw [hc] at h
    · rw [cond_false] at h
      obtain ⟨h47, h⟩ := bif_some h
      have hlt := isB_lt h47
      split at h
      · cases h
      · rename_i b q hq
        obtain ⟨n1, n2⟩ := nmP_bd s _ _ _ _ _ (by omega) hq
        have n3 := nmP_rel s _ _ _ _ _ hq
        rw [List.length_nil] at n3
        obtain ⟨m1, m2⟩ := blA_bd (s := s) (a := q) n2
        split at h
        · cases h
        · rename_i d' p' l2 he
          obtain ⟨e1, e2, e3, e4⟩ := hob _ l _ _ _ (by omega) m2 he
          have f1 := hp _ l _ _ _ (by omega) m2 he
          obtain ⟨b1, b2⟩ := blA_bd (s := s) (a := p') e2
          obtain ⟨ks', items, g1, g2⟩ := dcP_tx hob hp k _ _ _ _ d p l' (by omega) b2 h
          refine ⟨Dat.str (bytesOf b) :: ks', nrm d' :: items, by rw [g1, List.append_assoc, List.append_assoc]; rfl, fun j first => ?_⟩
          have f1 := f1 j
          have g2 := g2 j false
          have hn := (nameT_len (bytesOf b)).1
          rw [bytesOf_size] at hn
          have e : ((Dat.str (bytesOf b)).at 0).toS = bytesOf b := rfl
          rw [dicT_cons, List.length_append, List.length_append, List.length_append, List.length_append, txtO_nrm, List.length_singleton, e]
          have h4 : (bif first then ([] : List Dat) else [Dat.int 32]).length ≤ 1 := by cases first <;> simp
          omega
    · cases h
      refine ⟨[], [], by rw [List.append_nil, List.append_nil], fun j first => ?_⟩
      show ((dicT (txtO j) first [] []).length : Int) + 1 ≤ 4 * (a + 2 - a)
      unfold dicT
      simp only [List.length_nil]
      omega
theorem isT_size {w t : ByteArray} (h : isT w t = true) : w.size = t.size := by
  unfold isT at h
  rw [Lib.toList_data, Lib.toList_data, beq_iff_eq] at h
  show w.data.toList.length = t.data.toList.length
  rw [h]
theorem txt_small {j : Nat} {k n : Int} {b : Bool} {t : ByteArray} {m q : Int} (h0 : 0 < q) (h : ((txtK (txtO (j - 1)) k n b t [] []).length : Int) + 1 ≤ q) : ((txtO j (plO k n b t)).length : Int) + 1 ≤ q := by
  cases j with
  | zero =>
    show ((0 : Nat) : Int) + 1 ≤ q
    omega
  | succ j => exact h
theorem sd_tx {s : ByteArray} {a l : Int} {d : Dat} {p l' : Int} (h0 : 0 ≤ a) (h1 : a ≤ s.size) (h : sdS dpF s (sub' s a (wdA s a)) (wdA s a) l = some (d, p, l')) (j : Nat) : ((txtO j d).length : Int) + 1 ≤ 4 * (p - a) := by
  have hw1 : a ≤ wdA s a := skA_ge _ _ _
  have hw2 : wdA s a ≤ s.size := skA_le _ _ _ h1
  have hne : a ≠ wdA s a := fun e => by
    rw [← e, sdS_nil fOk (sub_nil s a)] at h
    cases h
  have hsz : ((sub' s a (wdA s a)).size : Int) = wdA s a - a := by
    unfold sub'
    rw [ByteArray.size_extract]
    omega
  obtain ⟨f1, f2, f3, f4, f5⟩ := rf_bd s (wdA s a) (by omega) hw2
  unfold sdS at h
  generalize sub' s a (wdA s a) = w at h hsz
  generalize wdA s a = e at *
  cases c1 : isT w nulT <;> rw [c1] at h
  · cases c2 : isT w trueT <;> rw [c2] at h
    · cases c3 : isT w falseT <;> rw [c3] at h
      · simp only [cond_false] at h
        cases c4 : isI w <;> rw [c4] at h
        · simp only [cond_false] at h
          obtain ⟨c5, h⟩ := bif_some h
          cases h
          obtain ⟨_, g2, g3⟩ := dpF_fix c5
          refine txt_small (m := 0) (by omega) ?_
          have : (txtK (txtO (j - 1)) 3 (dpF w).2 false ⟨#[]⟩ [] []).length = w.size := by
            rw [g3]
            show (bytesTo (fixT (nr1 w))).length = _
            rw [bytesTo_len, g2]
          omega
        · simp only [cond_true] at h
          have g1 := isI_itoa c4
          have hb := c4
          unfold isI at hb
          rw [Bool.and_eq_true] at hb
          have hb := atV_bd hb.1
          unfold i64B at hb
          rw [Bool.and_eq_true, decide_eq_true_eq, decide_eq_true_eq] at hb
          have g2 : (itS (atV w)).size = w.size := by
            rw [itS_itoa hb.1 hb.2, g1]
            rfl
          cases c5 : rfB s e <;> rw [c5] at h
          · cases h
            refine txt_small (m := 0) (by omega) ?_
            have : (txtK (txtO (j - 1)) 2 (atV w) false ⟨#[]⟩ [] []).length = w.size := by
              show (bytesTo (itS (atV w))).length = _
              rw [bytesTo_len, g2]
            omega
          · cases h
            have hbl : blA s e > e := by
              unfold rfB at c5
              rw [Bool.and_eq_true] at c5
              exact of_decide_eq_true c5.1
            refine txt_small (m := 0) (by omega) ?_
            have : (txtK (txtO (j - 1)) 8 (atV w) false ⟨#[]⟩ [] []).length = w.size + 4 := by
              show (bytesTo (itS (atV w) ++ refT)).length = _
              rw [bytesTo_len, ByteArray.size_append, g2]
              rfl
            omega
      · cases h
        have := isT_size c3
        have e5 : falseT.size = 5 := rfl
        refine txt_small (m := 0) (by omega) ?_
        have : (txtK (txtO (j - 1)) 1 0 false ⟨#[]⟩ [] []).length = 5 := rfl
        omega
    · cases h
      have := isT_size c2
      have e5 : trueT.size = 4 := rfl
      refine txt_small (m := 0) (by omega) ?_
      have : (txtK (txtO (j - 1)) 1 0 true ⟨#[]⟩ [] []).length = 4 := rfl
      omega
  · cases h
    have := isT_size c1
    have e5 : nulT.size = 4 := rfl
    refine txt_small (m := 0) (by omega) ?_
    have : (txtK (txtO (j - 1)) 0 0 false ⟨#[]⟩ [] []).length = 4 := rfl
    omega
theorem obB_tx {s : ByteArray} {ob : Int → Int → Option ObR} (hob : ObBd s ob) (hp : ObTx s ob) {a deep l : Int} {d : Dat} {p l' : Int} (h0 : 0 ≤ a) (h1 : a ≤ s.size) (h : obB dpF s ob a deep l = some (d, p, l')) (j : Nat) : ((txtO j d).length : Int) + 1 ≤ 4 * (p - a) := by
  have ht : ∀ (o : Option (List Dat × Int)), (∀ x b, o = some (x, b) → (x.length : Int) + a + 2 ≤ b) → txR 5 o l = some (d, p, l') → ((txtO j d).length : Int) + 1 ≤ 4 * (p - a) := fun o ho e => by
    obtain ⟨⟨x, b⟩, hx, e⟩ := Option.map_eq_some_iff.1 e
    cases e
    have := ho x b hx
    refine txt_small (m := 0) (by omega) ?_
    have hl := (txtT_len (bytesOf x)).1
    rw [bytesOf_size] at hl
    show ((txtT (bytesOf x)).length : Int) + 1 ≤ _
    omega
  unfold obB at h
  obtain ⟨hl, h⟩ := bif_some h
  cases c1 : isB s a 60 && isB s (a + 1) 60 <;> rw [c1] at h
  · cases c2 : isB s a 60 <;> rw [c2] at h
    · cases c3 : isB s a 40 <;> rw [c3] at h
      · cases c4 : isB s a 47 <;> rw [c4] at h
        · cases c5 : isB s a 91 <;> rw [c5] at h
          · exact sd_tx h0 h1 h j
          · have := isB_lt c5
            have h : arR s ob (a + 1) deep l = some (d, p, l') := h
            unfold arR at h
            obtain ⟨_, h⟩ := bif_some h
            obtain ⟨b1, b2⟩ := blA_bd (s := s) (a := a + 1) (by omega)
            obtain ⟨items, g1, g2⟩ := arP_tx hob hp _ _ _ _ _ _ _ (by omega) b2 h
            rw [g1]
            cases j with
            | zero =>
              have := g2 0 true
              show ((0 : Nat) : Int) + 1 ≤ _
              omega
            | succ j =>
              have := g2 j true
              show (((Dat.int 91 :: sepT (txtO j) true ([] ++ items)) ++ [Dat.int 93]).length : Int) + 1 ≤ _
              rw [List.nil_append, List.length_append, List.length_cons, List.length_singleton]
              omega
        · have := isB_lt c4
          have h : txR 4 (nmA s (a + 1)) l = some (d, p, l') := h
          obtain ⟨⟨x, b⟩, hx, e⟩ := Option.map_eq_some_iff.1 h
          cases e
          have hr := nmP_rel s _ _ _ _ _ hx
          rw [List.length_nil] at hr
          refine txt_small (m := 0) (by show 0 < 4 * (b - a); omega) ?_
          have hn := (nameT_len (bytesOf x)).1
          rw [bytesOf_size] at hn
          show ((nameT (bytesOf x)).length : Int) + 1 ≤ 4 * (b - a)
          omega
      · exact ht _ (fun x b e => by have := quP_rel s _ _ _ _ _ _ e; rw [List.length_nil] at this; omega) h
    · exact ht _ (fun x b e => by have := hxP_rel s _ _ _ _ _ e; rw [List.length_nil] at this; omega) h
  · rw [Bool.and_eq_true] at c1
    have := isB_lt c1.2
    have h : dcR s ob (a + 2) deep l = some (d, p, l') := h
    unfold dcR at h
    obtain ⟨_, h⟩ := bif_some h
    obtain ⟨b1, b2⟩ := blA_bd (s := s) (a := a + 2) (by omega)
    obtain ⟨ks', items, g1, g2⟩ := dcP_tx hob hp _ _ _ _ _ _ _ _ (by omega) b2 h
    rw [g1]
    cases j with
    | zero =>
      have := g2 0 true
      show ((0 : Nat) : Int) + 1 ≤ _
      omega
    | succ j =>
      have := g2 j true
      show (((bytesTo ⟨#[60, 60]⟩ ++ dicT (txtO j) true ([] ++ ks') ([] ++ items)) ++ bytesTo ⟨#[62, 62]⟩).length : Int) + 1 ≤ _
      rw [List.nil_append, List.nil_append, List.length_append, List.length_append, bytesTo_len, bytesTo_len]
      have e2 : (⟨#[60, 60]⟩ : ByteArray).size = 2 := rfl
      have e3 : (⟨#[62, 62]⟩ : ByteArray).size = 2 := rfl
      omega
theorem obP_tx (s : ByteArray) : ∀ (k : Nat) (deep : Int), ObTx s fun a l => obP dpF s k a deep l
  | 0, deep => fun a l d p l' _ _ h => by cases h
  | k + 1, deep => fun a l d p l' h0 h1 h j => by
    have h : obB dpF s (fun a l => obP dpF s k a (deep - 1) l) a deep (l - 1) = some (d, p, l') := h
    exact obB_tx (obP_bd dpF s k (deep - 1)) (obP_tx s k (deep - 1)) h0 h1 h j
theorem keysN_ge : ∀ (ks : List Dat) (n : Int), n ≤ keysN ks n
  | [], n => Int.le_refl _
  | d :: ks, n => by
    have := keysN_ge ks (n + ((d.at 0).toS.size : Int).tdiv 100)
    unfold keysN
    have h : 0 ≤ ((d.at 0).toS.size : Int).tdiv 100 := Int.tdiv_nonneg (by omega) (by omega)
    omega
theorem itemsN_neg {f : Dat → Int → Int} : ∀ (l : List Dat) (n : Int), n < 0 → itemsN f l n = n
  | [], n, _ => rfl
  | d :: l, n, h => by
    unfold itemsN
    rw [decide_eq_false (by omega)]
    rfl
theorem itemsN_eq (f : Dat → Int → Int) (d : Dat) (l : List Dat) (n : Int) : itemsN f (d :: l) n = bif decide (n ≥ 0) then itemsN f l (f d n) else n := rfl
theorem itemsN_step {f : Dat → Int → Int} {d : Dat} {l : List Dat} {n : Int} (h : 0 ≤ itemsN f (d :: l) n) : 0 ≤ n ∧ itemsN f (d :: l) n = itemsN f l (f d n) := by
  rw [itemsN_eq] at h ⊢
  by_cases hn : n ≥ 0
  · rw [decide_eq_true hn, cond_true]
    exact ⟨hn, rfl⟩
  · rw [decide_eq_false hn, cond_false] at h
    omega
def LenD (k : Nat) (d : Dat) : Prop := ∀ (k2 : Nat) (nest ahead : Int), 0 ≤ ahead → 0 ≤ largeO k2 d nest ahead → ((txtO k d).length : Int) + 2 ≤ 400 * (largeO k2 d nest ahead - ahead) ∧ largeO k2 d nest ahead ≤ 2000
theorem sep_large {k k2 : Nat} {nest : Int} : ∀ (l : List Dat) (first : Bool) (n : Int), (∀ e ∈ l, LenD k e) → 0 ≤ n → 0 ≤ itemsN (fun e n => largeO k2 e nest n) l n →
    ((sepT (txtO k) first l).length : Int) ≤ 400 * (itemsN (fun e n => largeO k2 e nest n) l n - n) ∧ (l ≠ [] → itemsN (fun e n => largeO k2 e nest n) l n ≤ 2000)
  | [], first, n, _, _, _ => by
    refine ⟨?_, fun h => (h rfl).elim⟩
    unfold sepT itemsN
    simp only [List.length_nil]
    omega
  | d :: l, first, n, hd, h0, h => by
    obtain ⟨_, e⟩ := itemsN_step h
    rw [e] at h ⊢
    have h1 : 0 ≤ largeO k2 d nest n := by
      by_cases hx : largeO k2 d nest n < 0
      · rw [itemsN_neg l _ hx] at h
        exact h
      · omega
    obtain ⟨a1, a2⟩ := hd d (by simp) k2 nest n h0 h1
    obtain ⟨b1, b2⟩ := sep_large l false (largeO k2 d nest n) (fun e he => hd e (by simp [he])) h1 h
    rw [sepT_cons, List.length_append, List.length_append]
    have h4 : (bif first then ([] : List Dat) else [Dat.int 32]).length ≤ 1 := by cases first <;> simp
    refine ⟨by omega, fun _ => ?_⟩
    by_cases hl : l = []
    · subst hl
      exact a2
    · exact b2 hl
theorem dic_large {k k2 : Nat} {nest : Int} : ∀ (ks l : List Dat) (first : Bool) (n : Int), ks.length = l.length → (∀ d ∈ ks, (d.at 0).toS.size ≤ 127) → (∀ e ∈ l, LenD k e) → 0 ≤ n → 0 ≤ itemsN (fun e n => largeO k2 e nest n) l n →
    ((dicT (txtO k) first ks l).length : Int) ≤ 400 * (itemsN (fun e n => largeO k2 e nest n) l n - n) + 400 * l.length ∧ (l ≠ [] → itemsN (fun e n => largeO k2 e nest n) l n ≤ 2000)
  | [], [], first, n, _, _, _, _, _ => by
    refine ⟨?_, fun h => (h rfl).elim⟩
    unfold dicT itemsN
    simp only [List.length_nil]
    omega
  | [], d :: l, first, n, hl, _, _, _, _ => by cases hl
  | key :: ks, [], first, n, hl, _, _, _, _ => by cases hl
  | key :: ks, d :: l, first, n, hl, hk, hd, h0, h => by
    obtain ⟨_, e⟩ := itemsN_step h
    rw [e] at h ⊢
    have h1 : 0 ≤ largeO k2 d nest n := by
      by_cases hx : largeO k2 d nest n < 0
      · rw [itemsN_neg l _ hx] at h
        exact h
      · omega
    obtain ⟨a1, a2⟩ := hd d (by simp) k2 nest n h0 h1
    obtain ⟨b1, b2⟩ := dic_large ks l false (largeO k2 d nest n) (by simpa using hl) (fun e he => hk e (by simp [he])) (fun e he => hd e (by simp [he])) h1 h
    rw [dicT_cons, List.length_append, List.length_append, List.length_append, List.length_append, List.length_singleton, List.length_cons]
    have h4 : (bif first then ([] : List Dat) else [Dat.int 32]).length ≤ 1 := by cases first <;> simp
    have h5 := (nameT_len (key.at 0).toS).1
    have h6 := hk key (by simp)
    refine ⟨by omega, fun _ => ?_⟩
    by_cases hl : l = []
    · subst hl
      exact a2
    · exact b2 hl
end Go.Proofs.YtckdgcpomkefpaaGreatDoor.En
end
section
set_option linter.unusedVariables false
set_option linter.unusedSimpArgs false
set_option maxRecDepth 100000
namespace Go.Proofs.YtckdgcpomkefpaaGreatDoor.En
open Go Go.RowKit
theorem good_each {k : Nat} {d : Dat} {nest n : Int} (hn : 0 ≤ n) (h : 0 ≤ goodO (k + 1) d nest n) : ∀ e ∈ (d.at 5).toL, ∃ nest' n', 0 ≤ n' ∧ 0 ≤ goodO k e nest' n' := fun e he => by
  unfold goodO at h
  cases hc : decide (n + 1 > 65536) || !flatD d
  · rw [hc, cond_false] at h
    cases hk : (d.at 0).toI == 6 || (d.at 0).toI == 7
    · rw [hk, cond_false] at h
      obtain ⟨n', a1, a2⟩ := itemsG_all (g := fun e n => goodO k e nest n) (fun e n hn he => goodO_mono k e nest n hn he) _ _ (by omega) h e he
      exact ⟨_, n', a1, a2⟩
    · rw [hk, cond_true] at h
      cases hq : decide (nest + 1 > 32)
      · rw [hq, cond_false] at h
        obtain ⟨n', a1, a2⟩ := itemsG_all (g := fun e n => goodO k e (nest + 1) n) (fun e n hn he => goodO_mono k e (nest + 1) n hn he) _ _ (by omega) h e he
        exact ⟨_, n', a1, a2⟩
      · rw [hq] at h; simp at h
  · rw [hc] at h; simp at h
theorem tdiv_100 (n : Nat) : (n : Int).tdiv 100 = ((n / 100 : Nat) : Int) := by
  rw [Int.tdiv_eq_ediv_of_nonneg (by omega)]
  rfl
theorem len_all : ∀ (k : Nat) (d : Dat) (nest n : Int), 0 ≤ n → 0 ≤ goodO k d nest n → LenD k d
  | 0, d, nest, n, _, h => by simp [goodO] at h
  | k + 1, d, nest, n, hn, h => by
    obtain ⟨_, _, hfl⟩ := good_flat h
    have hkb := kindB_of (show flatB (d.at 0).toI (d.at 2).toI (d.at 1).toB (d.at 3).toS (d.at 4).toL (d.at 5).toL = true from hfl)
    have hz := bare_zero (flat_bare hfl)
    have hit : ∀ e ∈ (d.at 5).toL, LenD k e := fun e he => by
      obtain ⟨nest', n', a1, a2⟩ := good_each hn h e he
      exact len_all k e nest' n' a1 a2
    intro k2 nest2 ahead ha hl
    cases k2 with
    | zero => simp [largeO] at hl
    | succ k2 =>
      have el : largeO (k2 + 1) d nest2 ahead = bif decide (headN (d.at 3).toS (d.at 4).toL (d.at 5).toL ahead > 2000) || decide (nest2 > 100) then -1 else itemsN (fun e n => largeO k2 e (nest2 + 1) n) (d.at 5).toL (keysN (d.at 4).toL (headN (d.at 3).toS (d.at 4).toL (d.at 5).toL ahead)) := rfl
      rw [el] at hl ⊢
      cases hc : decide (headN (d.at 3).toS (d.at 4).toL (d.at 5).toL ahead > 2000) || decide (nest2 > 100) <;> rw [hc] at hl
      rotate_left
      · simp at hl
      rw [Bool.or_eq_false_iff, decide_eq_false_iff_not] at hc
      have hhead := hc.1
      rw [cond_false] at hl ⊢
      show ((txtK (txtO k) (d.at 0).toI (d.at 2).toI (d.at 1).toB (d.at 3).toS (d.at 4).toL (d.at 5).toL).length : Int) + 2 ≤ _ ∧ _
      clear el hc h hfl
      revert hkb hz hit hl hhead
      generalize (d.at 0).toI = k1
      generalize (d.at 2).toI = n1
      generalize (d.at 1).toB = b1
      generalize (d.at 3).toS = s1
      generalize (d.at 4).toL = ks1
      generalize (d.at 5).toL = l1
      intro hkb hz hit hl hhead
      obtain ⟨z1, z2, z3, z4, z5⟩ := hz
      have hg := keysN_ge ks1 (headN s1 ks1 l1 ahead)
      have hH : headN s1 ks1 l1 ahead = ahead + 1 + ks1.length + l1.length + ((s1.size / 100 : Nat) : Int) := by unfold headN; rw [tdiv_100]
      have small : ks1 = [] → l1 = [] → ∀ t : Nat, (t : Int) + 2 ≤ 400 * (1 + ((s1.size / 100 : Nat) : Int)) → (t : Int) + 2 ≤ 400 * (itemsN (fun e n => largeO k2 e (nest2 + 1) n) l1 (keysN ks1 (headN s1 ks1 l1 ahead)) - ahead) ∧ itemsN (fun e n => largeO k2 e (nest2 + 1) n) l1 (keysN ks1 (headN s1 ks1 l1 ahead)) ≤ 2000 := fun e1 e2 t ht => by
        subst e1 e2
        unfold itemsN keysN
        rw [List.length_nil] at hH
        exact ⟨by omega, by omega⟩
      rcases kinds9 hkb with rfl | rfl | rfl | rfl | rfl | rfl | rfl | rfl | rfl
      · exact small (z4 rfl) (z5 rfl) 4 (by omega)
      · refine small (z4 rfl) (z5 rfl) (bytesTo (boolT b1)).length ?_
        rw [bytesTo_len]
        cases b1
        · show ((5 : Nat) : Int) + 2 ≤ _; omega
        · show ((4 : Nat) : Int) + 2 ≤ _; omega
      · refine small (z4 rfl) (z5 rfl) (bytesTo (itS n1)).length ?_
        have := itS_size n1
        rw [bytesTo_len]; omega
      · have hk : (inB n1 && (n1.tmod 65536) != 0) = true := hkb
        rw [Bool.and_eq_true] at hk
        have := fixT_size hk.1
        refine small (z4 rfl) (z5 rfl) (bytesTo (fixT n1)).length ?_
        rw [bytesTo_len]; omega
      · have hk : namedB s1 = true := hkb
        have h1 := named_size hk
        have := nameT_len s1
        exact small (z4 rfl) (z5 rfl) (nameT s1).length (by omega)
      · have := txtT_len s1
        exact small (z4 rfl) (z5 rfl) (txtT s1).length (by omega)
      · obtain rfl : ks1 = [] := z4 rfl
        rw [List.length_nil] at hH
        have hg2 : keysN [] (headN s1 [] l1 ahead) = headN s1 [] l1 ahead := rfl
        rw [hg2] at hl ⊢
        obtain ⟨a1, a2⟩ := sep_large (k := k) (k2 := k2) (nest := nest2 + 1) l1 true _ hit (by omega) hl
        show (((Dat.int 91 :: sepT (txtO k) true l1) ++ [Dat.int 93]).length : Int) + 2 ≤ _ ∧ _
        rw [List.length_append, List.length_cons, List.length_singleton]
        refine ⟨by omega, ?_⟩
        by_cases hl0 : l1 = []
        · subst hl0
          unfold itemsN
          omega
        · exact a2 hl0
      · obtain ⟨c1, c2⟩ := kb7 hkb
        obtain ⟨a1, a2⟩ := dic_large (k := k) (k2 := k2) (nest := nest2 + 1) ks1 l1 true _ c1 c2 hit (by omega) hl
        show (((bytesTo ⟨#[60, 60]⟩ ++ dicT (txtO k) true ks1 l1) ++ bytesTo ⟨#[62, 62]⟩).length : Int) + 2 ≤ _ ∧ _
        rw [List.length_append, List.length_append, bytesTo_len, bytesTo_len]
        have e2 : (⟨#[60, 60]⟩ : ByteArray).size = 2 := rfl
        have e3 : (⟨#[62, 62]⟩ : ByteArray).size = 2 := rfl
        refine ⟨by omega, ?_⟩
        by_cases hl0 : l1 = []
        · subst hl0
          have : ks1 = [] := List.length_eq_zero_iff.1 c1
          subst this
          unfold itemsN keysN
          omega
        · exact a2 hl0
      · refine small (z4 rfl) (z5 rfl) (bytesTo (itS n1 ++ refT)).length ?_
        have := itS_size n1
        have e : (bytesTo (itS n1 ++ refT)).length = (itS n1).size + 4 := by rw [bytesTo_len, ByteArray.size_append]; rfl
        omega
theorem eqK_same {d d' e e' : Dat} (h1 : ((d.at 0).toS.toList == (d'.at 0).toS.toList) = true) (h2 : ((e.at 0).toS.toList == (e'.at 0).toS.toList) = true) : eqK d e = eqK d' e' := by
  unfold eqK
  rw [beq_iff_eq] at h1 h2
  rw [h1, h2]
theorem any_same {d d' : Dat} (h1 : ((d.at 0).toS.toList == (d'.at 0).toS.toList) = true) : ∀ (p p' : List Dat), keysEq p p' = true → (p.any fun e => eqK e d) = (p'.any fun e => eqK e d')
  | [], [], _ => rfl
  | e :: p, e' :: p', h => by
    rw [keysEq, Bool.and_eq_true] at h
    rw [List.any_cons, List.any_cons, any_same h1 p p' h.2, eqK_same h.1 h1]
  | [], _ :: _, h => by cases h
  | _ :: _, [], h => by cases h
theorem toS_eq {s t : ByteArray} (h : (s.toList == t.toList) = true) : s = t := by
  rw [beq_iff_eq, Lib.toList_data, Lib.toList_data] at h
  exact ba_inj h
theorem keysEq_app : ∀ (p p' : List Dat) (d d' : Dat), keysEq p p' = true → ((d.at 0).toS.toList == (d'.at 0).toS.toList) = true → keysEq (p ++ [d]) (p' ++ [d']) = true
  | [], [], d, d', _, h => by
    show (_ && true) = true
    rw [h]; rfl
  | e :: p, e' :: p', d, d', h, h2 => by
    rw [keysEq, Bool.and_eq_true] at h
    show (_ && keysEq (p ++ [d]) (p' ++ [d'])) = true
    rw [h.1, keysEq_app p p' d d' h.2 h2]
    rfl
  | [], _ :: _, d, d', h, _ => by cases h
  | _ :: _, [], d, d', h, _ => by cases h
theorem keysR_same : ∀ (l l' p p' : List Dat), keysEq l l' = true → keysEq p p' = true → keysR p l = keysR p' l'
  | [], [], p, p', _, _ => by unfold keysR; rfl
  | d :: l, d' :: l', p, p', h, hp => by
    rw [keysEq, Bool.and_eq_true] at h
    unfold keysR
    rw [any_same h.1 p p' hp, keysR_same l l' _ _ h.2 (keysEq_app p p' d d' hp h.1), toS_eq h.1]
  | [], _ :: _, p, p', h, _ => by cases h
  | _ :: _, [], p, p', h, _ => by cases h
theorem sameO_parts {k : Nat} {a b : Dat} (h : sameO (k + 1) a b = true) : (a.at 0).toI = (b.at 0).toI ∧ (a.at 1).toB = (b.at 1).toB ∧ (a.at 2).toI = (b.at 2).toI ∧ (a.at 3).toS = (b.at 3).toS ∧ keysEq (a.at 4).toL (b.at 4).toL = true ∧ allEq (sameO k) (a.at 5).toL (b.at 5).toL = true := by
  unfold sameO at h
  simp only [Bool.and_eq_true, beq_iff_eq] at h
  obtain ⟨h1, h2, h3, h4, h5, h6⟩ := h
  exact ⟨h1, h2, h3, toS_eq (by rw [h4]; exact beq_self_eq_true _), h5, h6⟩
theorem flatD_same {k : Nat} {a b : Dat} (h : sameO (k + 1) a b = true) : flatD a = flatD b := by
  obtain ⟨h1, h2, h3, h4, h5, h6⟩ := sameO_parts h
  unfold flatD flatB bareB kindB
  rw [h1, h2, h3, h4, keysEq_len h5, allEq_len h6, keysR_same _ _ [] [] h5 rfl]
theorem goodO_same : ∀ (k : Nat) (a b : Dat), sameO k a b = true → ∀ nest n, goodO k a nest n = goodO k b nest n
  | 0, a, b, _, nest, n => rfl
  | k + 1, a, b, h, nest, n => by
    obtain ⟨h1, h2, h3, h4, h5, h6⟩ := sameO_parts h
    have hi : ∀ (g : Int) (l m : List Dat), allEq (sameO k) l m = true → ∀ n, itemsG (fun e n => goodO k e g n) l n = itemsG (fun e n => goodO k e g n) m n := fun g l => by
      induction l with
      | nil =>
        intro m hm n
        cases m with
        | nil => rfl
        | cons e m => cases hm
      | cons d l ih =>
        intro m hm n
        cases m with
        | nil => cases hm
        | cons e m =>
          rw [allEq, Bool.and_eq_true] at hm
          show (bif decide (goodO k d g n < 0) then -1 else itemsG _ l (goodO k d g n)) = (bif decide (goodO k e g n < 0) then -1 else itemsG _ m (goodO k e g n))
          rw [goodO_same k d e hm.1, ih m hm.2]
    unfold goodO
    rw [flatD_same h, h1, hi (nest + 1) _ _ h6, hi nest _ _ h6]
theorem paO_some {u : ByteArray} {e : Dat} {p l : Int} (h : obP dpF u 33 (blA u 0) 32 65536 = some (e, p, l)) (hg : goodO 101 e 0 0 > 0) : paO dpF u 0 = some (nrm e, p) := by
  unfold paO
  rw [h, Option.bind_some]
  have : (ogO 101 (nrm e) 32 65536).1 = true := by rw [good_mk, goodO_nrm]; exact decide_eq_true hg
  dsimp only
  rw [this]
  rfl
theorem paO_all {u : ByteArray} {a : Int} {d : Dat} {p : Int} (hs : u.size ≤ 16777216) (h0 : 0 ≤ a) (h1 : a ≤ u.size) (h : paO dpF u a = some (d, p)) :
    (fitO 101 (d.at 4).toL (d.at 5).toL ∧ keyZ 101 (d.at 4).toL (d.at 5).toL) ∧ goodO 101 d 0 0 > 0 ∧ a < p ∧ p ≤ u.size ∧ ∀ j, ((txtO j d).length : Int) + 1 ≤ 4 * (p - a) := by
  unfold paO at h
  obtain ⟨b1, b2⟩ := blA_bd (s := u) (a := a) h1
  cases ho : obP dpF u 33 (blA u a) 32 65536 with
  | none => rw [ho] at h; cases h
  | some t =>
    obtain ⟨e, q, l⟩ := t
    rw [ho, Option.bind_some] at h
    dsimp only at h
    obtain ⟨h2, h⟩ := bif_some h
    injection h with h
    injection h with e1 e2
    subst e1 e2
    have hft := obP_fit dpF u hs 33 32 (blA u a) 65536 e q l (by omega) b2 (by omega) ho
    have hf2 := fit_le (k := 34) (n := 101) (by omega) hft
    rw [good_mk, decide_eq_true_eq] at h2
    obtain ⟨c1, c2, c3, c4⟩ := obP_bd dpF u 33 32 (blA u a) 65536 e q l (by omega) b2 ho
    obtain ⟨c5, _⟩ := obP_pr (f := dpF) (s := u) fOk 33 32 (blA u a) 65536 e q l (by omega) b2 ho
    refine ⟨hf2, h2, by omega, c2, fun j => ?_⟩
    have := obP_tx u 33 32 (blA u a) 65536 e q l (by omega) b2 ho j
    rw [txtO_nrm]
    omega
theorem txtU_len (k : Nat) (d : Dat) : (txtU k d).length = (txtO k d).length := ub_len _
theorem printS_yes {d : Dat} (hg : goodO 101 d 0 0 > 0) (hl : ((txtO 101 d).length : Int) ≤ 1048576) : printS d = bs (txtU 101 d) ∧ printF d = 0 := by
  unfold printS printF
  rw [decide_eq_true hg, decide_eq_false (by omega), cond_true, cond_true]
  exact ⟨rfl, rfl⟩
theorem printF_zero {d : Dat} (h : (printF d == 0) = true) : goodO 101 d 0 0 > 0 ∧ ((txtO 101 d).length : Int) ≤ 1048576 := by
  unfold printF at h
  by_cases hg : goodO 101 d 0 0 > 0
  · refine ⟨hg, ?_⟩
    rw [decide_eq_true hg, cond_true] at h
    by_cases hl : ((txtO 101 d).length : Int) > 1048576
    · rw [decide_eq_true hl] at h
      cases h
    · omega
  · rw [decide_eq_false hg] at h
    cases h
theorem txtO_cp : ∀ (k : Nat) (d : Dat), txtO k (copyO k d) = txtO k d
  | 0, d => rfl
  | k + 1, d => by
    have h1 : ∀ (l : List Dat) (first : Bool), sepT (txtO k) first (l.map (copyO k)) = sepT (txtO k) first l := fun l => by
      induction l with
      | nil => intro _; rfl
      | cons d l ih => intro first; rw [List.map_cons, sepT_cons, sepT_cons, txtO_cp k d, ih]
    have h2 : ∀ (ks l : List Dat) (first : Bool), dicT (txtO k) first ks (l.map (copyO k)) = dicT (txtO k) first ks l := fun ks => by
      induction ks with
      | nil => intro l first; cases l <;> rfl
      | cons key ks ih =>
        intro l first
        cases l with
        | nil => rfl
        | cons d l => rw [List.map_cons, dicT_cons, dicT_cons, txtO_cp k d, ih]
    show txtK (txtO k) (d.at 0).toI (d.at 2).toI (d.at 1).toB (d.at 3).toS (d.at 4).toL ((d.at 5).toL.map (copyO k)) = txtK (txtO k) (d.at 0).toI (d.at 2).toI (d.at 1).toB (d.at 3).toS (d.at 4).toL (d.at 5).toL
    unfold txtK
    rw [h1, h2]
theorem sameQ_yes {d e : Dat} (hf : fitO 101 (d.at 4).toL (d.at 5).toL) (h : sameO 101 d e = true) : sameQ d e = some true := by
  unfold sameQ
  rw [fitB_eq hf, cond_true, sameO_nrm, h]
theorem paK0_eq {u : ByteArray} (K : Dat → Int → Int → Option Out) (hs : u.size ≤ 16777216) : paK0 u K = bif (paO dpF u 0).isSome then K (rvP (paO dpF u 0)).1 (rvP (paO dpF u 0)).2 0 else K (plO 0 0 false ⟨#[]⟩) 0 50 := by
  unfold paK0
  rw [Nat.ble_eq_true_of_le hs, cond_true, decide_eq_false (by omega), decide_eq_false (by omega)]
  rfl
end Go.Proofs.YtckdgcpomkefpaaGreatDoor.En
end
section
set_option linter.unusedVariables false
set_option linter.unusedSimpArgs false
set_option maxRecDepth 100000
namespace Go.Proofs.YtckdgcpomkefpaaGreatDoor.En
open Go Go.RowKit
noncomputable def callLs : CallF := addF 23 wakesE (addF 22 LargeE (addF 25 (copyE 101) (addF 29 printE (addF 31 (paE dpF) (addF 33 countE (addF 26 rGoodE (addF 28 (sameE 101) fun _ _ _ => none)))))))
theorem callLs_sound : SoundCall PR callLs :=
  sound_both wakes_sound (sound_both Large_sound (sound_both (copy_sound sound_none 101) (print_sound (pa_sound dpF (dpF_sound sound_none) (sound_both count_sound (sound_both rGood_sound (same_sound sound_none 101)))))))
def blkT : ByteArray := ⟨#[9, 10, 12, 13, 32]⟩
def bigD (d : Dat) : Bool := big (d.at 0).toI (d.at 2).toI (d.at 1).toB (d.at 3).toS (d.at 4).toL (d.at 5).toL
def cpD (d : Dat) : Dat := mkO (d.at 0).toI (d.at 2).toI (d.at 1).toB (d.at 3).toS (d.at 4).toL (cp (d.at 5).toL)
noncomputable def zBD (d : Dat) : Bool := zB 102 (d.at 3).toS (d.at 4).toL (d.at 5).toL 0 0
section
variable (m : Nat) (l bl : List Dat)
noncomputable def lsL (r : Nat) (s : ByteArray) (acc : List Dat) (n i : Int) := loopF PR TK callLs m 9 [none, none] [true, true, true, true, true, false, true] r
  (sp 111 [(0, .row none 43 l), (1, .row none 3 bl), (5, S s), (6, .row (some 6) 43 acc), (7, I n), (8, I i)] [])
noncomputable def ls3 (s : ByteArray) (acc : List Dat) (n : Int) (x : Dat) (next e : Int) : Option Out := bif e != 0 then
  (bif decP (okG 101 [] acc 0 0) then andK (!decide (goodO 101 (mkO 6 0 false ⟨#[]⟩ [] acc) 0 0 > 0)) true bT else none) else
  andO (decide (n < 65536)) (sameQ x (mkO 6 0 false ⟨#[]⟩ [] acc)) fun t => andK t (next == W ((s.size : Int) + 2)) fun t => andK t true bT
noncomputable def ls2 (s : ByteArray) (acc : List Dat) (n : Int) : Option Out := glueO s ⟨#[10, 93]⟩ fun u => paK0 u (ls3 s acc n)
noncomputable def ls1 (r : Nat) (s t : ByteArray) (acc : List Dat) (n i b : Int) : Option Out := bif okI blkT b then glueO (bytesOf [.int (bt blkT b)]) t (fun x => glueO s x fun y => (idx l i).bind fun d =>
  bif Nat.ble (acc.length + 1) fitsN then lsL m l bl r y (acc ++ [nrm d]) n (W (i + 1)) else none) else none
theorem ls_0 : evFn PR TK callLs m 9 [.row none 43 l, .row none 3 bl] [none, none] = bif decide ((l.length : Int) > 20) then bT true else lsL m l bl m ⟨#[91]⟩ [] 0 0 := by kernel_rfl
theorem ls_1 (r : Nat) (s : ByteArray) (acc : List Dat) (n i : Int) : lsL m l bl (r + 1) s acc n i = bif decide (i < l.length) then (idx l i).bind fun d => bif zBD d then (bif bigD d then bT true else
  (idx l i).bind fun d => bif fitB 101 (d.at 4).toL (d.at 5).toL then (bif decP (okPr (d.at 4).toL (cp (d.at 5).toL)) then (bif printF (cpD d) != 0 then bT true else
    (idx l i).bind fun e => bif decP (okG 101 (e.at 4).toL (e.at 5).toL 0 0) then (bif decide (i < bl.length) then (idx bl i).bind fun x => ls1 m l bl r s (printS (cpD d)) acc (W (n + goodO 101 (nrm e) 0 0)) i ((W ((x.at 0).toI.tmod 5 + 5)).tmod 5)
      else ls1 m l bl r s (printS (cpD d)) acc (W (n + goodO 101 (nrm e) 0 0)) i 0) else none) else none) else none) else none else ls2 s acc n := by kernel_rfl
end
end Go.Proofs.YtckdgcpomkefpaaGreatDoor.En
end
section
set_option linter.unusedVariables false
set_option linter.unusedSimpArgs false
set_option maxRecDepth 100000
namespace Go.Proofs.YtckdgcpomkefpaaGreatDoor.En
open Go
def BgD (k : Nat) (d : Dat) : Prop := ∃ nest n, 0 ≤ n ∧ 0 ≤ goodO k d nest n
def RdnD (k k2 : Nat) (nest : Int) (d : Dat) : Prop := ∀ (s : ByteArray) (a : Nat) (r : List UInt8) (n : Int), rest s a = txtU k d ++ r → safe r → 0 ≤ n → goodO k d nest n < 0 → obP dpF s k2 (a : Int) (32 - nest) (65536 - n) = none
theorem ar_none {s : ByteArray} {k k2 : Nat} {nest deep : Int} {bl r : List UInt8} (hbl : ∀ c ∈ bl, blkU c = true) (hdp : deep = 32 - nest) :
    ∀ (l : List (List UInt8 × Dat)) (q a : Nat) (n : Int) (acc : List Dat), (∀ x ∈ l, ∀ c ∈ x.1, blkU c = true) → (∀ x ∈ l.tail, x.1 ≠ []) → (∀ x ∈ l, HdD k x.2 ∧ RdsD k k2 nest x.2 ∧ RdnD k k2 nest x.2) → 0 ≤ n → cntG k nest (l.map (·.2)) n < 0 → rest s a = sepL k l ++ (bl ++ 93 :: r) →
      arP s (fun a l => obP dpF s k2 a deep l) q (blA s (a : Int)) (65536 - n) acc = none
  | l, 0, a, n, acc, _, _, _, _, _, _ => rfl
  | [], q + 1, a, n, acc, _, _, _, h0, h1, _ => by
    have : cntG k nest [] n = n := rfl
    rw [List.map_nil, this] at h1
    omega
  | x :: l, q + 1, a, n, acc, hb, h0, hh, hn0, hn, h => by
    rw [sepL_cons, List.append_assoc, List.append_assoc] at h
    obtain ⟨hH, hR, hN⟩ := hh x (by simp)
    obtain ⟨⟨c, t, t1, t2, t3⟩, _⟩ := hH
    have h2 := h
    rw [t1, List.cons_append] at h2
    obtain ⟨e1, e2⟩ := bl_skip h2 (hb x (by simp)) t2
    have h3 : rest s (a + x.1.length) = txtU k x.2 ++ (sepL k l ++ (bl ++ 93 :: r)) := rest_app h
    have hs : safe (sepL k l ++ (bl ++ 93 :: r)) := safe_sep (safe_end hbl (by decide +kernel) (by decide +kernel)) l (fun y hy => hb y (by simp [hy])) (fun y hy => h0 y hy) (fun y hy => (hh y (by simp [hy])).1)
    have hc : ((c.toNat : Int) == 93) = false := by
      rw [beq_eq_false_iff_ne]
      intro e
      exact t3 (UInt8.toNat_inj.1 (by have : (93 : UInt8).toNat = 93 := rfl; omega))
    unfold arP
    rw [e1, isB_rest e2, hc, cond_false]
    subst hdp
    by_cases hg : goodO k x.2 nest n < 0
    · rw [hN s _ _ n h3 hs hn0 hg]
    · obtain ⟨d', f1, f2⟩ := hR s _ _ n h3 hs hn0 (by omega)
      rw [f1]
      dsimp only
      rw [List.map_cons, cntG_eq, decide_eq_false hg, cond_false] at hn
      exact ar_none hbl rfl l q _ _ _ (fun y hy => hb y (by simp [hy])) (fun y hy => h0 y (List.mem_of_mem_tail hy)) (fun y hy => hh y (by simp [hy])) (by omega) hn (rest_app h3)
theorem dc_none {s : ByteArray} {k k2 : Nat} {nest deep : Int} {r : List UInt8} (hdp : deep = 32 - nest) :
    ∀ (l : List (List UInt8 × ByteArray × Dat)) (q a : Nat) (n : Int) (ks acc : List Dat), (∀ x ∈ l, ∀ c ∈ x.1, blkU c = true) → (∀ x ∈ l, HdD k x.2.2 ∧ RdsD k k2 nest x.2.2 ∧ RdnD k k2 nest x.2.2) → 0 ≤ n → cntG k nest (l.map (·.2.2)) n < 0 → rest s a = dicL k l ++ (62 :: 62 :: r) →
      dcP s (fun a l => obP dpF s k2 a deep l) q (blA s (a : Int)) (65536 - n) ks acc = none
  | l, 0, a, n, ks, acc, _, _, _, _, _ => rfl
  | [], q + 1, a, n, ks, acc, _, _, h0, h1, _ => by
    have : cntG k nest [] n = n := rfl
    rw [List.map_nil, this] at h1
    omega
  | x :: l, q + 1, a, n, ks, acc, hb, hh, hn0, hn, h => by
    rw [dicL_cons, List.append_assoc, List.cons_append, List.append_assoc, List.cons_append, List.append_assoc] at h
    obtain ⟨hH, hR, hN⟩ := hh x (by simp)
    obtain ⟨⟨c, t, t1, t2, t3⟩, _⟩ := hH
    obtain ⟨e1, e2⟩ := bl_skip h (hb x (by simp)) (by decide +kernel)
    have e3 := rest_tl e2
    have hnmA := nmA_read (fun c r' e => by injection e with e _; rw [← e]; decide +kernel) e3
    have e4 := rest_app e3
    have e5 : rest s (a + x.1.length + 1 + (x.2.1.data.toList.flatMap escU).length) = [32] ++ (c :: (t ++ (dicL k l ++ (62 :: 62 :: r)))) := by rw [e4, t1]; rfl
    have e6 : blA s ((a + x.1.length + 1 + (x.2.1.data.toList.flatMap escU).length : Nat) : Int) = ((a + x.1.length + 1 + (x.2.1.data.toList.flatMap escU).length + 1 : Nat) : Int) := (bl_skip e5 (by decide +kernel) t2).1
    have e8 : rest s (a + x.1.length + 1 + (x.2.1.data.toList.flatMap escU).length + 1) = txtU k x.2.2 ++ (dicL k l ++ (62 :: 62 :: r)) := rest_tl e4
    have hs : safe (dicL k l ++ (62 :: 62 :: r)) := by
      cases l with
      | nil => exact safe_delim (by decide +kernel) (by decide +kernel)
      | cons y l =>
        rw [dicL_cons, List.append_assoc, List.cons_append]
        exact safe_end (hb y (by simp)) (by decide +kernel) (by decide +kernel)
    unfold dcP
    rw [e1, isB_rest e2, show (((47 : UInt8).toNat : Int) == 62) = false from rfl, Bool.false_and, cond_false, isB_rest e2, show (((47 : UInt8).toNat : Int) == 47) = true from rfl, cond_true,
      show ((a + x.1.length : Nat) : Int) + 1 = ((a + x.1.length + 1 : Nat) : Int) by omega, hnmA]
    subst hdp
    dsimp only
    rw [e6]
    by_cases hg : goodO k x.2.2 nest n < 0
    · rw [hN s _ _ n e8 hs hn0 hg]
    · obtain ⟨d', f1, f2⟩ := hR s _ _ n e8 hs hn0 (by omega)
      rw [f1]
      dsimp only
      have hm : (x :: l).map (·.2.2) = x.2.2 :: l.map (·.2.2) := rfl
      rw [hm, cntG_eq, decide_eq_false hg, cond_false] at hn
      exact dc_none rfl l q _ _ _ _ (fun y hy => hb y (by simp [hy])) (fun y hy => hh y (by simp [hy])) (by omega) hn (rest_app e8)
theorem obB_neg {s : ByteArray} {ob : Int → Int → Option ObR} {a deep l : Int} (hl : l < 0) : obB dpF s ob a deep l = none := by
  unfold obB
  rw [decide_eq_false (by omega)]
  rfl
theorem rbn : ∀ (k : Nat) (d : Dat), BgD k d → ∀ (nest : Int), 0 ≤ nest → nest ≤ 32 → ∀ k2 : Nat, 33 ≤ nest + k2 → RdnD k k2 nest d
  | 0, d, ⟨_, _, _, h⟩, nest, n0, n1, k2, hk2 => by simp [goodO] at h
  | k + 1, d, _, nest, n0, n1, 0, hk2 => by omega
  | k + 1, d, ⟨nest0, m0, hm0, hB⟩, nest, n0, n1, k2 + 1, hk2 => by
    intro s a r n hrest hs hn hneg
    rw [obP_succ]
    by_cases hlim : n + 1 > 65536
    · exact obB_neg (by omega)
    obtain ⟨_, _, hfl⟩ := good_flat hB
    have hkb := kindB_of (show flatB (d.at 0).toI (d.at 2).toI (d.at 1).toB (d.at 3).toS (d.at 4).toL (d.at 5).toL = true from hfl)
    have hz := bare_zero (flat_bare hfl)
    have hit : nest + 1 ≤ 32 → ∀ e ∈ (d.at 5).toL, HdD k e ∧ RdsD k k2 (nest + 1) e ∧ RdnD k k2 (nest + 1) e := fun hk e he => by
      obtain ⟨nest', n', a1, a2⟩ := good_each hm0 hB e he
      obtain ⟨j, rfl, hf⟩ := good_flat a2
      exact ⟨hd_of j e hf, rb (j + 1) e (nest + 1) (by omega) hk k2 (by omega), rbn (j + 1) e ⟨nest', n', a1, a2⟩ (nest + 1) (by omega) hk k2 (by omega)⟩
    have hv : goodO (k + 1) d nest n = bif (d.at 0).toI == 6 || (d.at 0).toI == 7 then (bif decide (nest + 1 > 32) then -1 else cntG k (nest + 1) (d.at 5).toL (n + 1)) else cntG k nest (d.at 5).toL (n + 1) := by
      show (bif decide (n + 1 > 65536) || !flatD d then -1 else _) = _
      rw [decide_eq_false hlim, hfl]
      rfl
    rw [hv] at hneg
    rw [txtU_eq] at hrest
    clear hv hfl hB
    revert hrest hkb hz hit hneg
    generalize (d.at 0).toI = k1
    generalize (d.at 2).toI = n1'
    generalize (d.at 1).toB = b1
    generalize (d.at 3).toS = s1
    generalize (d.at 4).toL = ks1
    generalize (d.at 5).toL = l1
    intro hrest hneg hkb hz hit
    obtain ⟨z1, z2, z3, z4, z5⟩ := hz
    have hl0 : 0 ≤ 65536 - n - 1 := by omega
    have no : ∀ P : Prop, l1 = [] → ((k1 == 6) || (k1 == 7)) = false → P := fun P e1 e2 => by
      subst e1
      rw [e2, cond_false] at hneg
      have : cntG k nest [] (n + 1) = n + 1 := rfl
      rw [this] at hneg
      omega
    rcases kinds9 hkb with rfl | rfl | rfl | rfl | rfl | rfl | rfl | rfl | rfl
    · exact no _ (z5 rfl) rfl
    · exact no _ (z5 rfl) rfl
    · exact no _ (z5 rfl) rfl
    · exact no _ (z5 rfl) rfl
    · exact no _ (z5 rfl) rfl
    · exact no _ (z5 rfl) rfl
    · have e : ub (txtK (txtO k) 6 n1' b1 s1 ks1 l1) = 91 :: (sepL k (sepZ true l1) ++ [93]) := by
        show 91 :: ub (sepT (txtO k) true l1 ++ [Dat.int 93]) = _
        rw [ub_app, sepZ_text]
        rfl
      rw [e, List.cons_append, List.append_assoc] at hrest
      obtain ⟨r1, r2⟩ := rest_at (c := 91) hrest
      rw [obB_list r1 hl0 r2]
      unfold arR
      by_cases hd : nest + 1 > 32
      · rw [decide_eq_false (by omega)]
        rfl
      · rw [show ((6 : Int) == 6 || (6 : Int) == 7) = true from rfl, cond_true, decide_eq_false hd, cond_false] at hneg
        rw [decide_eq_true (by omega), cond_true, show (a : Int) + 1 = ((a + 1 : Nat) : Int) by omega, show 65536 - n - 1 = 65536 - (n + 1) by omega]
        have i2 := hit (by omega)
        exact ar_none (k := k) (k2 := k2) (nest := nest + 1) (deep := 32 - nest - 1) (bl := []) (r := r) (by simp) (by omega) (sepZ true l1) _ (a + 1) (n + 1) [] (fun x hx => blank_mem (sepZ_mem true l1 x hx).1) (sepZ_tail' true l1) (fun x hx => i2 _ (sepZ_mem true l1 x hx).2) (by omega) (by rw [sepZ_map]; exact hneg) (rest_tl (c := 91) hrest)
    · obtain ⟨c1, c2⟩ := kb7 hkb
      obtain ⟨m1, m2, m3⟩ := dicZ_map true ks1 l1 c1
      have e : ub (txtK (txtO k) 7 n1' b1 s1 ks1 l1) = 60 :: 60 :: (dicL k (dicZ true ks1 l1) ++ [62, 62]) := by
        show ub ((bytesTo ⟨#[60, 60]⟩ ++ dicT (txtO k) true ks1 l1) ++ bytesTo ⟨#[62, 62]⟩) = _
        rw [ub_app, ub_app, dicZ_text, ub_to, ub_to]
        rfl
      rw [e, List.cons_append, List.cons_append, List.append_assoc] at hrest
      obtain ⟨r1, r2⟩ := rest_at (c := 60) hrest
      have h6 : isB s ((a : Int) + 1) 60 = true := by rw [show (a : Int) + 1 = ((a + 1 : Nat) : Int) by omega, isB_rest (rest_tl (c := 60) hrest)]; rfl
      rw [obB_dict r1 hl0 r2 h6]
      unfold dcR
      by_cases hd : nest + 1 > 32
      · rw [decide_eq_false (by omega)]
        rfl
      · rw [show ((7 : Int) == 6 || (7 : Int) == 7) = true from rfl, cond_true, decide_eq_false hd, cond_false] at hneg
        rw [decide_eq_true (by omega), cond_true, show (a : Int) + 2 = ((a + 1 + 1 : Nat) : Int) by omega, show 65536 - n - 1 = 65536 - (n + 1) by omega]
        have i2 := hit (by omega)
        exact dc_none (k := k) (k2 := k2) (nest := nest + 1) (deep := 32 - nest - 1) (r := r) (by omega) (dicZ true ks1 l1) _ (a + 1 + 1) (n + 1) [] [] (fun x hx => blank_mem (dicZ_mem true ks1 l1 x hx).1) (fun x hx => i2 _ (dicZ_mem true ks1 l1 x hx).2.2) (by omega) (by rw [m1]; exact hneg) (rest_tl (rest_tl (c := 60) hrest))
    · exact no _ (z5 rfl) rfl
def Dp : Nat → Dat → Prop
  | 0, _ => False
  | j + 1, d => ∀ e ∈ (d.at 5).toL, Dp j e
theorem good_dp : ∀ (k : Nat) (d : Dat) (nest n : Int) (j : Nat), 0 ≤ nest → 0 ≤ n → 0 ≤ goodO k d nest n → 33 ≤ nest + j → Dp (j + 1) d
  | 0, d, nest, n, j, _, _, h, _ => by simp [goodO] at h
  | k + 1, d, nest, n, j, h0, hn, h, hj => by
    obtain ⟨g0, g1, g2⟩ := good_form hn h
    obtain ⟨_, _, hfl⟩ := good_flat h
    have hz := bare_zero (flat_bare hfl)
    intro e he
    cases hk : (d.at 0).toI == 6 || (d.at 0).toI == 7
    · rw [Bool.or_eq_false_iff] at hk
      have : (d.at 5).toL = [] := hz.2.2.2.2 (by rw [bne, bne, hk.1, hk.2]; rfl)
      rw [this] at he
      cases he
    · obtain ⟨x1, x2, x3⟩ := g1 hk
      obtain ⟨n', a1, a2⟩ := itemsG_all (g := fun e n => goodO k e (nest + 1) n) (fun e n hn he => goodO_mono k e (nest + 1) n hn he) _ _ (by omega) x2 e he
      obtain ⟨i, rfl⟩ : ∃ i, j = i + 1 := ⟨j - 1, by omega⟩
      exact good_dp k e (nest + 1) n' i (by omega) a1 a2 (by omega)
theorem itemsG_congr {f g : Dat → Int → Int} : ∀ (l : List Dat) (n : Int), (∀ d ∈ l, ∀ n, f d n = g d n) → itemsG f l n = itemsG g l n
  | [], n, _ => rfl
  | d :: l, n, h => by
    show (bif decide (f d n < 0) then -1 else itemsG f l (f d n)) = (bif decide (g d n < 0) then -1 else itemsG g l (g d n))
    rw [h d (by simp), itemsG_congr l _ (fun e he => h e (by simp [he]))]
theorem sepT_congr {f g : Dat → List Dat} : ∀ (l : List Dat) (first : Bool), (∀ d ∈ l, f d = g d) → sepT f first l = sepT g first l
  | [], first, _ => rfl
  | d :: l, first, h => by rw [sepT_cons, sepT_cons, h d (by simp), sepT_congr l false (fun e he => h e (by simp [he]))]
theorem dicT_congr {f g : Dat → List Dat} : ∀ (ks l : List Dat) (first : Bool), (∀ d ∈ l, f d = g d) → dicT f first ks l = dicT g first ks l
  | [], l, first, _ => by unfold dicT; rfl
  | key :: ks, [], first, _ => by unfold dicT; rfl
  | key :: ks, d :: l, first, h => by rw [dicT_cons, dicT_cons, h d (by simp), dicT_congr ks l false (fun e he => h e (by simp [he]))]
theorem fuel_step : ∀ (j k : Nat) (d : Dat), Dp j d → j ≤ k → (∀ nest n, goodO k d nest n = goodO (k + 1) d nest n) ∧ txtO k d = txtO (k + 1) d
  | 0, k, d, h, _ => h.elim
  | j + 1, 0, d, _, hk => by omega
  | j + 1, k + 1, d, h, hk => by
    have hi := fun e he => fuel_step j k e (h e he) (by omega)
    refine ⟨fun nest n => ?_, ?_⟩
    · show (bif decide (n + 1 > 65536) || !flatD d then -1 else bif (d.at 0).toI == 6 || (d.at 0).toI == 7 then (bif decide (nest + 1 > 32) then -1 else itemsG (fun e n => goodO k e (nest + 1) n) (d.at 5).toL (n + 1)) else itemsG (fun e n => goodO k e nest n) (d.at 5).toL (n + 1)) =
        (bif decide (n + 1 > 65536) || !flatD d then -1 else bif (d.at 0).toI == 6 || (d.at 0).toI == 7 then (bif decide (nest + 1 > 32) then -1 else itemsG (fun e n => goodO (k + 1) e (nest + 1) n) (d.at 5).toL (n + 1)) else itemsG (fun e n => goodO (k + 1) e nest n) (d.at 5).toL (n + 1))
      rw [itemsG_congr (g := fun e n => goodO (k + 1) e (nest + 1) n) _ _ (fun e he n => (hi e he).1 (nest + 1) n), itemsG_congr (g := fun e n => goodO (k + 1) e nest n) _ _ (fun e he n => (hi e he).1 nest n)]
    · show txtK (txtO k) (d.at 0).toI (d.at 2).toI (d.at 1).toB (d.at 3).toS (d.at 4).toL (d.at 5).toL = txtK (txtO (k + 1)) (d.at 0).toI (d.at 2).toI (d.at 1).toB (d.at 3).toS (d.at 4).toL (d.at 5).toL
      unfold txtK
      rw [sepT_congr _ _ (fun e he => (hi e he).2), dicT_congr _ _ _ (fun e he => (hi e he).2)]
theorem good_shift : ∀ (k : Nat) (d : Dat) (nest n nest' n' : Int), 0 ≤ n → 0 ≤ n' → 0 ≤ goodO k d nest n → 0 ≤ goodO k d nest' n' → goodO k d nest n - n = goodO k d nest' n' - n'
  | 0, d, nest, n, nest', n', _, _, h, _ => by simp [goodO] at h
  | k + 1, d, nest, n, nest', n', hn, hn', h, h' => by
    obtain ⟨g0, g1, g2⟩ := good_form hn h
    obtain ⟨g0', g1', g2'⟩ := good_form hn' h'
    obtain ⟨_, _, hfl⟩ := good_flat h
    have hz := bare_zero (flat_bare hfl)
    cases hk : (d.at 0).toI == 6 || (d.at 0).toI == 7
    · have hk2 := hk
      rw [Bool.or_eq_false_iff] at hk2
      have : (d.at 5).toL = [] := hz.2.2.2.2 (by rw [bne, bne, hk2.1, hk2.2]; rfl)
      rw [g2 this hk, g2' this hk]
      omega
    · obtain ⟨x1, x2, x3⟩ := g1 hk
      obtain ⟨y1, y2, y3⟩ := g1' hk
      rw [x3, y3]
      have hl : ∀ (l : List Dat) (n n' : Int), 0 ≤ n → 0 ≤ n' → 0 ≤ cntG k (nest + 1) l n → 0 ≤ cntG k (nest' + 1) l n' → cntG k (nest + 1) l n - n = cntG k (nest' + 1) l n' - n' := fun l => by
        induction l with
        | nil =>
          intro n n' _ _ _ _
          show n - n = n' - n'
          omega
        | cons e l ih =>
          intro n n' a0 b0 a1 b1
          obtain ⟨p1, p2⟩ := cntG_cons a0 a1
          obtain ⟨q1, q2⟩ := cntG_cons b0 b1
          rw [p2] at a1 ⊢
          rw [q2] at b1 ⊢
          have i1 := good_shift k e (nest + 1) n (nest' + 1) n' a0 b0 p1 q1
          have i2 := ih _ _ p1 q1 a1 b1
          omega
      have := hl _ _ _ (by omega) (by omega) x2 y2
      omega
end Go.Proofs.YtckdgcpomkefpaaGreatDoor.En
end
section
set_option linter.unusedVariables false
set_option linter.unusedSimpArgs false
set_option maxRecDepth 100000
namespace Go.Proofs.YtckdgcpomkefpaaGreatDoor.En
open Go Go.RowKit
theorem fit_dp : ∀ (j k : Nat) (d : Dat), Dp j d → fitO k (d.at 4).toL (d.at 5).toL → fitO j (d.at 4).toL (d.at 5).toL
  | 0, k, d, h, _ => h.elim
  | j + 1, 0, d, _, h => h.elim
  | j + 1, k + 1, d, h, ⟨h1, h2, h3⟩ => ⟨h1, h2, fun e he => fit_dp j k e (h e he) (h3 e he)⟩
structure Itm (d : Dat) : Prop where
  good : goodO 101 d 0 0 > 0
  len : (txtO 101 d).length ≤ 800000
  fit : fitO 101 (d.at 4).toL (d.at 5).toL
theorem Itm.dp {d : Dat} (h : Itm d) : Dp 34 d := good_dp 101 d 0 0 33 (by omega) (by omega) (by have := h.good; omega) (by omega)
theorem Itm.fuel {d : Dat} (h : Itm d) : (∀ nest n, goodO 100 d nest n = goodO 101 d nest n) ∧ txtO 100 d = txtO 101 d := fuel_step 34 100 d h.dp (by omega)
theorem Itm.base {d : Dat} (h : Itm d) : BgD 100 d := ⟨0, 0, by omega, by rw [h.fuel.1]; have := h.good; omega⟩
theorem Itm.hd {d : Dat} (h : Itm d) : HdD 100 d := by
  obtain ⟨_, _, _, h2⟩ := h.base
  obtain ⟨j, e, hf⟩ := good_flat h2
  exact hd_of 99 d hf
def sumI : List Dat → Int
  | [] => 0
  | d :: l => goodO 101 d 0 0 + sumI l
theorem sumI_app : ∀ (l : List Dat) (d : Dat), sumI (l ++ [d]) = sumI l + goodO 101 d 0 0
  | [], d => by show goodO 101 d 0 0 + 0 = 0 + goodO 101 d 0 0; omega
  | e :: l, d => by
    show goodO 101 e 0 0 + sumI (l ++ [d]) = goodO 101 e 0 0 + sumI l + goodO 101 d 0 0
    rw [sumI_app l d]; omega
theorem sumI_cnt : ∀ (l : List Dat) (n : Int), (∀ d ∈ l, Itm d) → 0 ≤ n → 0 ≤ cntG 100 1 l n → cntG 100 1 l n = n + sumI l
  | [], n, _, _, _ => by show n = n + 0; omega
  | d :: l, n, h, hn, hc => by
    obtain ⟨k1, k2⟩ := cntG_cons hn hc
    rw [k2] at hc ⊢
    have hd := h d (by simp)
    rw [sumI_cnt l _ (fun e he => h e (by simp [he])) k1 hc]
    have := good_shift 100 d 1 n 0 0 hn (by omega) k1 (by rw [hd.fuel.1]; have := hd.good; omega)
    rw [hd.fuel.1 0 0] at this
    show goodO 100 d 1 n + sumI l = n + (goodO 101 d 0 0 + sumI l)
    omega
theorem sumI_bd : ∀ (l : List Dat), (∀ d ∈ l, Itm d) → 0 ≤ sumI l ∧ sumI l ≤ l.length * 65536
  | [], _ => by show (0 : Int) ≤ 0 ∧ (0 : Int) ≤ _; simp
  | d :: l, h => by
    have hd := (h d (by simp)).good
    have hb := (goodO_bd 101 d 0 0 (by omega)).2
    obtain ⟨h1, h2⟩ := sumI_bd l (fun e he => h e (by simp [he]))
    show 0 ≤ goodO 101 d 0 0 + sumI l ∧ goodO 101 d 0 0 + sumI l ≤ ((d :: l).length : Int) * 65536
    rw [List.length_cons]
    omega
structure Pre (P : List (List UInt8 × Dat)) : Prop where
  blk : ∀ x ∈ P, ∃ c, x.1 = [c] ∧ blkU c = true
  itm : ∀ x ∈ P, Itm x.2
theorem Pre.itms {P : List (List UInt8 × Dat)} (h : Pre P) : ∀ d ∈ P.map (·.2), Itm d := fun d hd => by
  obtain ⟨x, hx, rfl⟩ := List.mem_map.1 hd
  exact h.itm x hx
theorem Pre.len : ∀ {P : List (List UInt8 × Dat)}, Pre P → (sepL 101 P).length ≤ P.length * 800001
  | [], _ => by simp [sepL]
  | x :: P, h => by
    obtain ⟨c, e, _⟩ := h.blk x (by simp)
    have hi := (h.itm x (by simp)).len
    have := Pre.len (P := P) ⟨fun y hy => h.blk y (by simp [hy]), fun y hy => h.itm y (by simp [hy])⟩
    rw [sepL_cons, List.length_append, List.length_append, txtU_len, e, List.length_singleton, List.length_cons]
    omega
theorem sepL_congr {k k' : Nat} : ∀ (P : List (List UInt8 × Dat)), (∀ x ∈ P, txtU k x.2 = txtU k' x.2) → sepL k P = sepL k' P
  | [], _ => rfl
  | x :: P, h => by rw [sepL_cons, sepL_cons, sepL_congr P (fun y hy => h y (by simp [hy])), h x (by simp)]
theorem sepL_fuel {P : List (List UInt8 × Dat)} (h : Pre P) : sepL 100 P = sepL 101 P := sepL_congr P fun x hx => by
  unfold txtU
  rw [(h.itm x hx).fuel.2]
theorem sepL_app (k : Nat) : ∀ (P : List (List UInt8 × Dat)) (x : List UInt8 × Dat), sepL k (P ++ [x]) = sepL k P ++ (x.1 ++ txtU k x.2)
  | [], x => by rw [List.nil_append, sepL_cons]; simp [sepL]
  | y :: P, x => by rw [List.cons_append, sepL_cons, sepL_cons, sepL_app k P x, List.append_assoc, List.append_assoc]
theorem fit_items {P : List (List UInt8 × Dat)} (h : Pre P) (hl : P.length ≤ 20) : fitO 101 [] (P.map (·.2)) := by
  refine ⟨by simp, by rw [List.length_map]; omega, fun e he => ?_⟩
  have hi := h.itms e he
  exact fitR_le (k := 34) (n := 100) (by omega) (fit_dp 34 101 e hi.dp hi.fit)
theorem want_good (l : List Dat) : goodO 101 (mkO 6 0 false ⟨#[]⟩ [] l) 0 0 = cntG 100 1 l 1 := by
  have hf : flatD (mkO 6 0 false ⟨#[]⟩ [] l) = true := by
    show (!(((((false && (6 : Int) != 1) || ((((0 : Int) != 0 && (6 : Int) != 2) && (6 : Int) != 3) && (6 : Int) != 8)) || ((!((⟨#[]⟩ : ByteArray).toList == (⟨#[]⟩ : ByteArray).toList) && (6 : Int) != 4) && (6 : Int) != 5)) || (decide ((([] : List Dat).length : Int) > 0) && (6 : Int) != 7)) || ((decide ((l.length : Int) > 0) && (6 : Int) != 6) && (6 : Int) != 7)) && _) = true
    rw [beq_self_eq_true]
    simp only [Bool.not_true, Bool.false_and, Bool.and_false, bne_self_eq_false, Bool.or_self, Bool.not_false, Bool.true_and]
    rfl
  show (bif decide ((0 : Int) + 1 > 65536) || !flatD (mkO 6 0 false ⟨#[]⟩ [] l) then -1 else _) = _
  rw [hf]
  rfl
theorem list_read {P : List (List UInt8 × Dat)} (h : Pre P) (hl : P.length ≤ 20) {u : ByteArray} (hu : rest u 0 = 91 :: (sepL 101 P ++ ([10] ++ 93 :: []))) :
    (0 ≤ cntG 100 1 (P.map (·.2)) 1 → ∃ e, paO dpF u 0 = some (nrm e, (((sepL 101 P).length + 3 : Nat) : Int)) ∧ sameO 101 e (mkO 6 0 false ⟨#[]⟩ [] (P.map (·.2))) = true) ∧ (cntG 100 1 (P.map (·.2)) 1 < 0 → paO dpF u 0 = none) := by
  have h2 : rest u 0 = [] ++ 91 :: (sepL 101 P ++ ([10] ++ 93 :: [])) := hu
  have e0 : blA u 0 = 0 := (bl_skip h2 (by simp) (by decide +kernel)).1
  obtain ⟨r1, r2⟩ := rest_at hu
  have hu1 := rest_tl hu
  rw [← sepL_fuel h] at hu1
  have hbl : ∀ x ∈ P, ∀ c ∈ x.1, blkU c = true := fun x hx c hc => by
    obtain ⟨b, e, hb⟩ := h.blk x hx
    rw [e, List.mem_singleton] at hc
    rw [hc]; exact hb
  have hne : ∀ x ∈ P.tail, x.1 ≠ [] := fun x hx e => by
    obtain ⟨b, e2, _⟩ := h.blk x (List.mem_of_mem_tail hx)
    rw [e2] at e; cases e
  have hR : ∀ x ∈ P, HdD 100 x.2 ∧ RdsD 100 32 1 x.2 ∧ RdnD 100 32 1 x.2 := fun x hx => by
    have hi := h.itm x hx
    exact ⟨hi.hd, rb 100 x.2 1 (by omega) (by omega) 32 (by omega), rbn 100 x.2 hi.base 1 (by omega) (by omega) 32 (by omega)⟩
  have hob : ∃ q, P.length < q ∧ obP dpF u 33 (blA u 0) 32 65536 = arP u (fun a l => obP dpF u 32 a 31 l) q (blA u ((1 : Nat) : Int)) (65536 - 1) [] := by
    refine ⟨(65536 - 1 : Int).toNat + 2, by omega, ?_⟩
    have r1' : (0 : Int) < u.size := r1
    rw [e0, obP_succ, obB_list r1' (by omega) r2]
    unfold arR
    rw [decide_eq_true (by omega), cond_true, show (32 : Int) - 1 = 31 from rfl, show (0 : Int) + 1 = ((1 : Nat) : Int) from rfl]
  obtain ⟨q, hq, hob⟩ := hob
  refine ⟨fun hc => ?_, fun hc => ?_⟩
  · have hcb : (P.map (·.2)).length ≤ 65535 := by rw [List.length_map]; omega
    obtain ⟨acc', f1, f2⟩ := ar_read (k := 100) (k2 := 32) (nest := 1) (deep := 31) (bl := [10]) (r := []) (by decide +kernel) (by omega) P q 1 1 [] hbl hne (fun x hx => ⟨(hR x hx).1, (hR x hx).2.1⟩) (by omega) hc hq hu1
    rw [List.nil_append] at f1
    have hs : sameO 101 (mkO 6 0 false ⟨#[]⟩ [] acc') (mkO 6 0 false ⟨#[]⟩ [] (P.map (·.2))) = true := by
      show (((6 : Int) == 6) && ((false == false) && (((0 : Int) == 0) && (((⟨#[]⟩ : ByteArray).toList == (⟨#[]⟩ : ByteArray).toList) && (keysEq [] [] && allEq (sameO 100) acc' (P.map (·.2))))))) = true
      rw [f2]
      simp [keysEq]
    refine ⟨mkO 6 0 false ⟨#[]⟩ [] acc', ?_, hs⟩
    have hg : goodO 101 (mkO 6 0 false ⟨#[]⟩ [] acc') 0 0 > 0 := by
      rw [goodO_same 101 _ _ hs, want_good]
      have := (cnt_items (by omega) hc).1
      omega
    have e : ((1 + (sepL 100 P).length + ([10] : List UInt8).length + 1 : Nat) : Int) = (((sepL 101 P).length + 3 : Nat) : Int) := by
      rw [sepL_fuel h]
      show ((1 + (sepL 101 P).length + 1 + 1 : Nat) : Int) = _
      omega
    rw [e] at f1
    exact paO_some (hob.trans f1) hg
  · have := ar_none (k := 100) (k2 := 32) (nest := 1) (deep := 31) (bl := [10]) (r := []) (by decide +kernel) (by omega) P q 1 1 [] hbl hne hR (by omega) hc hu1
    unfold paO
    rw [hob, this]
    rfl
theorem glue_big {β : Type} {a b : List UInt8} (k : ByteArray → Option β) (h : a.length + b.length ≤ 1000000000) : glueO (bs a) (bs b) k = k (bs (a ++ b)) := by
  rw [glueO_eq _ (by rw [bs_size, bs_size]; omega), bs_append]
theorem ls2_yes {P : List (List UInt8 × Dat)} (h : Pre P) (hl : P.length ≤ 20) : ls2 (bs (91 :: sepL 101 P)) (P.map (·.2)) (sumI (P.map (·.2))) = bT true := by
  have hlen := h.len
  unfold ls2
  have e2 : (⟨#[10, 93]⟩ : ByteArray) = bs [10, 93] := rfl
  rw [e2, glue_big _ (by rw [List.length_cons]; show _ + 2 ≤ _; omega)]
  have hsz : (bs ((91 :: sepL 101 P) ++ [10, 93])).size = (sepL 101 P).length + 3 := by rw [bs_size, List.length_append, List.length_cons]; show _ + 1 + 2 = _; omega
  have hs16 : (bs ((91 :: sepL 101 P) ++ [10, 93])).size ≤ 16777216 := by rw [hsz]; omega
  rw [paK0_eq _ hs16]
  have hu : rest (bs ((91 :: sepL 101 P) ++ [10, 93])) 0 = 91 :: (sepL 101 P ++ ([10] ++ 93 :: [])) := rfl
  obtain ⟨p1, p2⟩ := list_read h hl hu
  by_cases hc : 0 ≤ cntG 100 1 (P.map (·.2)) 1
  · obtain ⟨e, f1, f2⟩ := p1 hc
    obtain ⟨hf, _⟩ := paO_all hs16 (by omega) (by omega) f1
    rw [f1]
    show ls3 (bs (91 :: sepL 101 P)) (P.map (·.2)) (sumI (P.map (·.2))) (nrm e) (((sepL 101 P).length + 3 : Nat) : Int) 0 = _
    unfold ls3
    have hn := sumI_cnt _ 1 h.itms (by omega) hc
    have hb : cntG 100 1 (P.map (·.2)) 1 ≤ 65536 := by
      have hb2 := (goodO_bd 101 (mkO 6 0 false ⟨#[]⟩ [] (P.map (·.2))) 0 0 (by omega)).2
      rw [want_good] at hb2
      exact hb2
    have h6 : sameO 101 (nrm e) (mkO 6 0 false ⟨#[]⟩ [] (P.map (·.2))) = true := by rw [sameO_nrm1]; exact f2
    rw [show ((0 : Int) != 0) = false from rfl, cond_false, sameQ_yes hf.1 h6, decide_eq_true (by omega), bs_size, List.length_cons, W_in (n := (((sepL 101 P).length + 1 : Nat) : Int) + 2) ⟨by omega, by omega⟩]
    have e3 : ((((sepL 101 P).length + 3 : Nat) : Int) == (((sepL 101 P).length + 1 : Nat) : Int) + 2) = true := by rw [beq_iff_eq]; omega
    rw [e3]
    rfl
  · rw [p2 (by omega)]
    show ls3 (bs (91 :: sepL 101 P)) (P.map (·.2)) (sumI (P.map (·.2))) (plO 0 0 false ⟨#[]⟩) 0 50 = _
    unfold ls3
    have hok : okG 101 [] (P.map (·.2)) 0 0 := ⟨fit_items h hl, by omega, by omega, by omega, by omega⟩
    rw [show ((50 : Int) != 0) = true from rfl, cond_true, decP_eq hok, cond_true, want_good, decide_eq_false (by omega)]
    rfl
theorem blk_ok {b : Int} (h0 : 0 ≤ b) (h1 : b ≤ 4) : okI blkT b = true ∧ ∃ c, bytesOf [.int (bt blkT b)] = bs [c] ∧ blkU c = true := by
  obtain ⟨n, rfl⟩ : ∃ n : Nat, b = (n : Int) := ⟨b.toNat, by omega⟩
  match n, h1 with
  | 0, _ => exact ⟨rfl, 9, rfl, by decide +kernel⟩
  | 1, _ => exact ⟨rfl, 10, rfl, by decide +kernel⟩
  | 2, _ => exact ⟨rfl, 12, rfl, by decide +kernel⟩
  | 3, _ => exact ⟨rfl, 13, rfl, by decide +kernel⟩
  | 4, _ => exact ⟨rfl, 32, rfl, by decide +kernel⟩
  | n + 5, h => omega
theorem mod_ok (x : Int) : 0 ≤ (W (x.tmod 5 + 5)).tmod 5 ∧ (W (x.tmod 5 + 5)).tmod 5 ≤ 4 := by
  have h1 : -5 < x.tmod 5 ∧ x.tmod 5 < 5 := ⟨by have := Int.lt_tmod_of_pos x (b := 5) (by omega); omega, Int.tmod_lt_of_pos x (by omega)⟩
  rw [W_in (n := x.tmod 5 + 5) ⟨by omega, by omega⟩]
  generalize x.tmod 5 = y at h1
  rw [Int.tmod_eq_emod_of_nonneg (by omega)]
  omega
section
variable {m : Nat} {l bl : List Dat} (hl : l.length ≤ 20) (hz : ∀ d ∈ l, ∀ k, fitZ k (d.at 3).toS (d.at 4).toL (d.at 5).toL)
include hl hz
theorem ls_run (hbl : (bl.length : Int) ≤ 1000000000000000) : ∀ (k r i : Nat) (P : List (List UInt8 × Dat)), i + k = l.length → k < r → Pre P → P.length = i → lsL m l bl r (bs (91 :: sepL 101 P)) (P.map (·.2)) (sumI (P.map (·.2))) (i : Int) = bT true
  | k, 0, i, P, _, h, _, _ => by omega
  | 0, r + 1, i, P, hi, _, hP, hp => by
    rw [ls_1, decide_eq_false (by omega), cond_false]
    exact ls2_yes hP (by omega)
  | k + 1, r + 1, i, P, hi, hr, hP, hp => by
    have hlt : i < l.length := by omega
    rw [ls_1, decide_eq_true (by omega), cond_true, idx_at hlt, Option.bind_some, Option.bind_some, Option.bind_some]
    have hzd := hz _ (List.getElem_mem hlt)
    have ih := ls_run hbl k r (i + 1)
    have hidx : idx l (i : Int) = some l[i] := idx_at hlt
    generalize l[i] = d at hzd hidx ⊢
    have z1 : zBD d = true := decP_eq ⟨by decide, by decide, by decide, by decide, by decide, hzd 102⟩
    rw [z1, cond_true]
    cases hb : bigD d
    · rw [cond_false]
      have hL := of_decide_eq_false hb
      have hL0 : 0 ≤ largeO 102 (nrm d) 0 0 := by
        have : ¬ largeO 102 (nrm d) 0 0 < 0 := hL
        omega
      have f1 : fitO 101 (d.at 4).toL (d.at 5).toL := (large_fit 101 102 (nrm d) 0 0 (by decide) (by decide) (by decide) hL0).2
      have c1 : fitO 101 (d.at 4).toL (cp (d.at 5).toL) := fitO_copy 101 (nrm d) f1
      have kz := keyZ_of 101 _ _ _ (hzd 101)
      have p1 : okPr (d.at 4).toL (cp (d.at 5).toL) := ⟨c1, keyZ_copy 101 100 _ _ kz⟩
      rw [fitB_eq f1, cond_true, decP_eq p1, cond_true]
      have e0 : cpD d = copyO 101 (nrm d) := rfl
      have eS : printS (cpD d) = printS (nrm d) := by rw [e0]; unfold printS; rw [goodO_copy, txtO_cp]
      have eF : printF (cpD d) = printF (nrm d) := by rw [e0]; unfold printF; rw [goodO_copy, txtO_cp]
      rw [eS, eF]
      cases hF : printF (nrm d) == 0
      · rw [show (printF (nrm d) != 0) = true by rw [bne, hF]; rfl]
        rfl
      · rw [show (printF (nrm d) != 0) = false by rw [bne, hF]; rfl, cond_false]
        obtain ⟨hg, hlen⟩ := printF_zero hF
        obtain ⟨q1, q2⟩ := printS_yes hg hlen
        obtain ⟨w1, w2⟩ := len_all 101 (nrm d) 0 0 (by omega) (by omega) 102 0 0 (by omega) hL0
        have hI : Itm (nrm d) := ⟨hg, by omega, f1⟩
        have hok : okG 101 (d.at 4).toL (d.at 5).toL 0 0 := ⟨f1, by omega, by omega, by omega, by omega⟩
        obtain ⟨s0, s1⟩ := sumI_bd _ hP.itms
        rw [List.length_map] at s1
        have hgb := (goodO_bd 101 (nrm d) 0 0 (by omega)).2
        rw [decP_eq hok, cond_true, q1, W_in (n := sumI (P.map (·.2)) + goodO 101 (nrm d) 0 0) ⟨by omega, by omega⟩]
        have key : ∀ b : Int, 0 ≤ b → b ≤ 4 → ls1 m l bl r (bs (91 :: sepL 101 P)) (bs (txtU 101 (nrm d))) (P.map (·.2)) (sumI (P.map (·.2)) + goodO 101 (nrm d) 0 0) (i : Int) b = bT true := fun b b0 b1 => by
          obtain ⟨k1, c, k2, k3⟩ := blk_ok b0 b1
          have hPl := hP.len
          have hP' : Pre (P ++ [([c], nrm d)]) := ⟨fun x hx => by
              rcases List.mem_append.1 hx with hx | hx
              · exact hP.blk x hx
              · rw [List.mem_singleton] at hx
                subst hx
                exact ⟨c, rfl, k3⟩, fun x hx => by
              rcases List.mem_append.1 hx with hx | hx
              · exact hP.itm x hx
              · rw [List.mem_singleton] at hx
                subst hx
                exact hI⟩
          unfold ls1
          rw [k1, cond_true, k2, glue_big _ (by rw [txtU_len]; show 1 + _ ≤ _; omega), glue_big _ (by rw [List.length_cons, List.length_append, txtU_len]; show _ + (1 + _) ≤ _; omega), hidx, Option.bind_some, fits_of (by rw [List.length_map]; omega), cond_true, W_in (n := (i : Int) + 1) ⟨by omega, by omega⟩]
          have := ih (P ++ [([c], nrm d)]) (by omega) (by omega) hP' (by rw [List.length_append, List.length_singleton]; omega)
          rw [sepL_app, List.map_append, List.map_cons, List.map_nil, sumI_app, show ((i + 1 : Nat) : Int) = (i : Int) + 1 by omega] at this
          exact this
        by_cases hi2 : (i : Int) < bl.length
        · rw [decide_eq_true hi2, cond_true, idx_at (by omega), Option.bind_some]
          obtain ⟨b0, b1⟩ := mod_ok ((bl[i].at 0).toI)
          exact key _ b0 b1
        · rw [decide_eq_false hi2, cond_false]
          exact key 0 (by omega) (by omega)
    · rfl
end
theorem list_run {m : Nat} (hm : 30 < m) {l bl : List Dat} (hz : ∀ d ∈ l, ∀ k, fitZ k (d.at 3).toS (d.at 4).toL (d.at 5).toL) (hbl : (bl.length : Int) ≤ 1000000000000000) :
    evFn PR TK callLs m 9 [.row none 43 l, .row none 3 bl] [none, none] = some (.ret (B true) [none, none]) := by
  rw [ls_0]
  by_cases h : (l.length : Int) > 20
  · rw [decide_eq_true h]; rfl
  · rw [decide_eq_false h, cond_false]
    have := ls_run (m := m) (bl := bl) (show l.length ≤ 20 by omega) hz hbl l.length m 0 [] (by omega) (by omega) ⟨fun x hx => (by cases hx), fun x hx => by cases hx⟩ rfl
    exact this
end Go.Proofs.YtckdgcpomkefpaaGreatDoor.En
end
section
set_option linter.unusedVariables false
set_option linter.unusedSimpArgs false
set_option maxRecDepth 100000
namespace Go.Proofs.YtckdgcpomkefpaaGreatDoor.En
open Go Go.RowKit
theorem kinds_LO : kinds PR 41 = some [.row 43] := by kernel_rfl
theorem kinds_LI : kinds PR 31 = some [.row 3] := by kernel_rfl
noncomputable def listE : List AV → Bx → Option (Bool × Out)
  | [.row none E l, .row none E' bl], [none, none] => some (decP (E = 43 ∧ E' = 3 ∧ (∀ d ∈ l, ∀ k, fitZ k (d.at 3).toS (d.at 4).toL (d.at 5).toL) ∧ (bl.length : Int) ≤ 1000000000000000), .ret (B true) [none, none])
  | _, _ => none
theorem list_sound : SoundCall PR (addF 9 listE callLs) := by
  refine sound_add (takes := TK) hmixP callLs_sound _ (fn := (PR.funcs[9]?).getD default) (by kernel_rfl) (by kernel_rfl) listE fun xs bs out h => ?_
  unfold listE at h
  split at h
  · injection h with h
    injection h with h1 h2
    subst h2
    obtain ⟨rfl, rfl, h3, h4⟩ := decP_of h1
    exact ⟨31, list_run (by omega) h3 h4⟩
  · cases h
theorem list_ent (l bl : List Dat) : addF 9 listE callLs 9 [.row none 43 l, .row none 3 bl] [none, none] =
    some (decP (43 = 43 ∧ 3 = 3 ∧ (∀ d ∈ l, ∀ k, fitZ k (d.at 3).toS (d.at 4).toL (d.at 5).toL) ∧ (bl.length : Int) ≤ 1000000000000000), .ret (B true) [none, none]) := by kernel_rfl
theorem bytes_I : PR.bytesOf 3 = 8 := by kernel_rfl
theorem list_calls {W : World} (hW : GW W) {ds ds' : List Dat} {v v' : Value} (h : Opn PR W [.row 43] ds [v]) (h' : Opn PR W [.row 3] ds' [v']) :
    Calls PR 9 #[v, v'] W fun e w' => e = .returned (.bool true) ∧ Below W.heap.size W w' := by
  obtain ⟨l, rfl, hr, hs⟩ := list_rep h
  obtain ⟨l', rfl, hr', hs'⟩ := list_rep h'
  have hz : ∀ d ∈ l.toL, ∀ k, fitZ k (d.at 3).toS (d.at 4).toL (d.at 5).toL := fun d hd k => by
    have := fitZ_of (s := ⟨#[]⟩) (ks := []) (by show 0 ≤ _; omega) ⟨(by show 0 ≤ _; omega), fun e he => by cases he⟩ (k + 1) l rfl hs
    exact this.2.2.2.2 d hd
  have hb : (l'.toL.length : Int) ≤ 1000000000000000 := by
    cases hs' with
    | row E ks d hk hl hc =>
      rw [bytes_I] at hl
      have := reach_le
      omega
  refine calls_v list_sound (f := 9) (xs := [.row none 43 l.toL, .row none 3 l'.toL]) (bs := [none, none]) (bs' := [none, none]) ?_ (by simp) rfl hW rfl (fun i x hi => ?_)
  · rw [list_ent, decP_eq ⟨rfl, rfl, hz, hb⟩]; rfl
  · match i, hi with
    | 0, hi => cases hi; exact ⟨_, rfl, hr⟩
    | 1, hi => cases hi; exact ⟨_, rfl, hr'⟩
end Go.Proofs.YtckdgcpomkefpaaGreatDoor.En
end
