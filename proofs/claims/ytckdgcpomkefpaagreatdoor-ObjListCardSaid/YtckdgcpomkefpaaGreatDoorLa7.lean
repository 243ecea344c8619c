/- Part 7 of a proof: what it needs of the program's functions as plain Lean functions, with the proof that the machine's calls come to them, and of plain laws; put together out of smaller texts. No conditions besides those that each statement names. -/
import Derived.Laws.BitsLemmas
import Derived.Laws.BytesArg
import Derived.Laws.RangeAny
import Derived.Laws.RangeString
import Derived.Lib.ConvBytes
import Derived.Lib.DecodeN
import Derived.Lib.Hide
import Derived.Lib.ItoaMem
import Derived.Lib.OthersKept
import Derived.Test.YtckdgcpomkefpaaGreatDoorLa0
import Derived.Test.YtckdgcpomkefpaaGreatDoorLa5
import Derived.Test.YtckdgcpomkefpaaGreatDoorLa6
import Derived.WalkKit
section
set_option linter.unusedVariables false
set_option linter.unusedSimpArgs false
set_option maxRecDepth 100000
namespace Go.Proofs.YtckdgcpomkefpaaGreatDoor.En
open Go
theorem obCo_of {k : Nat} {s : ByteArray} {a l deep : Int} (h0 : 0 ≤ a) (h1 : a ≤ s.size) (hs : s.size ≤ 16777216) (l0 : 0 ≤ l) (l1 : l ≤ 65536) (d0 : 0 ≤ deep) (d1 : deep ≤ 32) (d2 : deep < k) : obCo k s a l deep = true := by
  unfold obCo
  rw [rdOk_of h0 h1 hs, decide_eq_true l0, decide_eq_true l1, decide_eq_true d0, decide_eq_true d1, decide_eq_true d2]
  rfl
theorem obCo_eq {k : Nat} {s : ByteArray} {a l deep : Int} (h : obCo k s a l deep = true) : (0 ≤ a ∧ a ≤ s.size ∧ s.size ≤ 16777216) ∧ 0 ≤ l ∧ l ≤ 65536 ∧ 0 ≤ deep ∧ deep ≤ 32 ∧ deep < k := by
  unfold obCo at h
  simp only [Bool.and_eq_true, decide_eq_true_eq] at h
  exact ⟨rdOk_eq h.1, h.2⟩
theorem arCo_of {k : Nat} {s : ByteArray} {a l deep : Int} (h0 : 0 ≤ a) (h1 : a ≤ s.size) (hs : s.size ≤ 16777216) (l0 : 0 ≤ l) (l1 : l ≤ 65536) (d0 : 0 ≤ deep) (d1 : deep ≤ 32) (d2 : deep ≤ k) : arCo k s a l deep = true := by
  unfold arCo
  rw [rdOk_of h0 h1 hs, decide_eq_true l0, decide_eq_true l1, decide_eq_true d0, decide_eq_true d1, decide_eq_true d2]
  rfl
theorem arCo_eq {k : Nat} {s : ByteArray} {a l deep : Int} (h : arCo k s a l deep = true) : (0 ≤ a ∧ a ≤ s.size ∧ s.size ≤ 16777216) ∧ 0 ≤ l ∧ l ≤ 65536 ∧ 0 ≤ deep ∧ deep ≤ 32 ∧ deep ≤ k := by
  unfold arCo at h
  simp only [Bool.and_eq_true, decide_eq_true_eq] at h
  exact ⟨rdOk_eq h.1, h.2⟩
section
variable (f : ByteArray → Bool × Int) (k m : Nat) (s : ByteArray)
theorem ar_run {deep : Int} (hs : s.size ≤ 16777216) (hd1 : 1 ≤ deep) (hd2 : deep ≤ 32) (hk : deep ≤ k) : ∀ (q r : Nat) (a l : Int) (acc : List Dat), 0 ≤ a → a ≤ s.size → 0 ≤ l → l ≤ 65536 → l.toNat < q → q ≤ r → (acc.length : Int) + l ≤ 65536 →
    arL f k m s r a l deep acc = outO (arP s (fun a l => obP f s k a (deep - 1) l) q a l acc) s
  | 0, r, a, l, acc, _, _, _, _, h, _, _ => by omega
  | q + 1, 0, a, l, acc, _, _, _, _, _, h, _ => by omega
  | q + 1, r + 1, a, l, acc, h0, h1, l0, l1, hq, hr, hl => by
    rw [ar_1, rdOk_of h0 h1 hs, cond_true, beg_one s a 93 h0, W_in (n := deep - 1) ⟨by omega, by omega⟩]
    unfold arP
    show (bif isB s a 93 then _ else _) = outO (bif isB s a 93 then _ else _) s
    cases hb : isB s a 93
    · rw [cond_false, cond_false, obCo_of h0 h1 hs l0 l1 (by omega) (by omega) (by omega), cond_true]
      cases ho : obP f s k a (deep - 1) l with
      | none => rfl
      | some t =>
        obtain ⟨d, p, l'⟩ := t
        obtain ⟨e1, e2, e3, e4⟩ := obP_bd f s k (deep - 1) a l d p l' h0 h1 ho
        obtain ⟨b1, b2⟩ := blA_bd (s := s) (a := p) e2
        show (bif Nat.ble (acc.length + 1) fitsN then (bif rdOk s p then arL f k m s r (blA s p) l' deep (acc ++ [nrm d]) else none) else none) = _
        rw [fits_of (by omega), cond_true, rdOk_of (by omega) e2 hs, cond_true]
        exact ar_run hs hd1 hd2 hk q r (blA s p) l' _ (by omega) b2 e3 (by omega) (by omega) (by omega) (by simp; omega)
    · rfl
theorem dc_run {deep : Int} (hs : s.size ≤ 16777216) (hd1 : 1 ≤ deep) (hd2 : deep ≤ 32) (hk : deep ≤ k) : ∀ (q r : Nat) (a l : Int) (ks acc : List Dat), 0 ≤ a → a ≤ s.size → 0 ≤ l → l ≤ 65536 → l.toNat < q → q ≤ r → (acc.length : Int) + l ≤ 65536 → (ks.length : Int) + l ≤ 65536 →
    dcL f k m s r a l deep ks acc = outO (dcP s (fun a l => obP f s k a (deep - 1) l) q a l ks acc) s
  | 0, r, a, l, ks, acc, _, _, _, _, h, _, _, _ => by omega
  | q + 1, 0, a, l, ks, acc, _, _, _, _, _, h, _, _ => by omega
  | q + 1, r + 1, a, l, ks, acc, h0, h1, l0, l1, hq, hr, hl, hl2 => by
    rw [dc_1, rdOk_of h0 h1 hs, cond_true, cond_true, beg_two s a 62 62 h0, beg_one s a 47 h0, W_in (n := deep - 1) ⟨by omega, by omega⟩]
    unfold dcP
    show (bif isB s a 62 && isB s (a + 1) 62 then _ else _) = outO (bif isB s a 62 && isB s (a + 1) 62 then _ else _) s
    cases hb : isB s a 62 && isB s (a + 1) 62
    · rw [cond_false, cond_false]
      show (bif isB s a 47 then _ else _) = outO (bif isB s a 47 then _ else _) s
      cases hb2 : isB s a 47
      · rfl
      · have hlt : a < s.size := by
          unfold isB at hb2
          rw [Bool.and_eq_true, decide_eq_true_eq] at hb2
          exact hb2.1
        rw [cond_true, cond_true]
        show (bif rdOk s (a + 1) then _ else _) = _
        rw [rdOk_of (by omega) (by omega) hs, cond_true]
        show (bif (nmA s (a + 1)).isSome then _ else _) = _
        cases hn : nmA s (a + 1) with
        | none => rfl
        | some t =>
          obtain ⟨b, c⟩ := t
          obtain ⟨n1, n2⟩ := nmP_bd s _ _ _ _ _ (by omega) hn
          obtain ⟨m1, m2⟩ := blA_bd (s := s) (a := c) n2
          show (bif Nat.ble (ks.length + 1) fitsN then (bif rdOk s (getP (nmA s (a + 1))).2 then (bif obCo k s (blA s (getP (nmA s (a + 1))).2) l (deep - 1) then (bif (obP f s k (blA s (getP (nmA s (a + 1))).2) (deep - 1) l).isSome then (bif Nat.ble (acc.length + 1) fitsN then
            (bif rdOk s (rvO (obP f s k (blA s (getP (nmA s (a + 1))).2) (deep - 1) l)).2.1 then dcL f k m s r (blA s (rvO (obP f s k (blA s (getP (nmA s (a + 1))).2) (deep - 1) l)).2.1) (rvO (obP f s k (blA s (getP (nmA s (a + 1))).2) (deep - 1) l)).2.2 deep
              (ks ++ [Dat.str (bytesOf (getP (nmA s (a + 1))).1)]) (acc ++ [nrm (rvO (obP f s k (blA s (getP (nmA s (a + 1))).2) (deep - 1) l)).1]) else none) else none) else thrR) else none) else none) else none) = _
          rw [hn]
          show (bif Nat.ble (ks.length + 1) fitsN then (bif rdOk s c then (bif obCo k s (blA s c) l (deep - 1) then (bif (obP f s k (blA s c) (deep - 1) l).isSome then (bif Nat.ble (acc.length + 1) fitsN then
            (bif rdOk s (rvO (obP f s k (blA s c) (deep - 1) l)).2.1 then dcL f k m s r (blA s (rvO (obP f s k (blA s c) (deep - 1) l)).2.1) (rvO (obP f s k (blA s c) (deep - 1) l)).2.2 deep
              (ks ++ [Dat.str (bytesOf b)]) (acc ++ [nrm (rvO (obP f s k (blA s c) (deep - 1) l)).1]) else none) else none) else thrR) else none) else none) else none) = outO (match obP f s k (blA s c) (deep - 1) l with | none => none | some (d, p, l') => dcP s (fun a l => obP f s k a (deep - 1) l) q (blA s p) l' (ks ++ [Dat.str (bytesOf b)]) (acc ++ [nrm d])) s
          rw [fits_of (by omega), cond_true, rdOk_of (by omega) n2 hs, cond_true, obCo_of (by omega) m2 hs l0 l1 (by omega) (by omega) (by omega), cond_true]
          cases ho : obP f s k (blA s c) (deep - 1) l with
          | none => rfl
          | some t =>
            obtain ⟨d, p, l'⟩ := t
            obtain ⟨e1, e2, e3, e4⟩ := obP_bd f s k (deep - 1) (blA s c) l d p l' (by omega) m2 ho
            obtain ⟨b1, b2⟩ := blA_bd (s := s) (a := p) e2
            show (bif Nat.ble (acc.length + 1) fitsN then (bif rdOk s p then dcL f k m s r (blA s p) l' deep (ks ++ [Dat.str (bytesOf b)]) (acc ++ [nrm d]) else none) else none) = _
            rw [fits_of (by omega), cond_true, rdOk_of (by omega) e2 hs, cond_true]
            exact dc_run hs hd1 hd2 hk q r (blA s p) l' _ _ (by omega) b2 e3 (by omega) (by omega) (by omega) (by simp; omega) (by simp; omega)
    · rfl
theorem obQ_eq (o : Option ObR) : obQ o s = outO o s := by
  cases o with
  | none => rfl
  | some t => obtain ⟨d, p, l⟩ := t; rfl
theorem txQ_eq (n : Int) (o : Option (List Dat × Int)) (l : Int) : txQ n o s l = outO (txR n o l) s := by
  cases o with
  | none => rfl
  | some t => obtain ⟨b, p⟩ := t; rfl
theorem ob_run {a l deep : Int} (h : obCo (k + 1) s a l deep = true) : evFn PR TK (oC2 f k) 0 51 [.box 0 0, I deep] [some (rd s a l), none] = outO (obP f s (k + 1) a deep l) s := by
  obtain ⟨⟨h0, h1, hs⟩, l0, l1, d0, d1, d2⟩ := obCo_eq h
  rw [ob_0, W_in (n := l - 1) ⟨by omega, by omega⟩, rdOk_of h0 h1 hs, beg_two s a 60 60 h0, beg_one s a 60 h0, beg_one s a 40 h0, beg_one s a 47 h0, beg_one s a 91 h0]
  simp only [cond_true, obQ_eq, txQ_eq]
  show _ = outO (obB f s (fun a l => obP f s k a (deep - 1) l) a deep (l - 1)) s
  unfold obB
  by_cases hl : l - 1 ≥ 0
  · rw [decide_eq_true hl, cond_true, cond_true]
    have hB : ∀ b c, isB s b c = true → b < s.size := fun b c hb => by
      unfold isB at hb
      rw [Bool.and_eq_true, decide_eq_true_eq] at hb
      exact hb.1
    show (bif isB s a 60 && isB s (a + 1) 60 then _ else _) = _
    cases c1 : isB s a 60 && isB s (a + 1) 60
    · rw [cond_false, cond_false]
      show (bif isB s a 60 then _ else _) = _
      cases c2 : isB s a 60
      · rw [cond_false, cond_false]
        show (bif isB s a 40 then _ else _) = _
        cases c3 : isB s a 40
        · rw [cond_false, cond_false]
          show (bif isB s a 47 then _ else _) = _
          cases c4 : isB s a 47
          · rw [cond_false, cond_false]
            show (bif isB s a 91 then _ else _) = _
            cases c5 : isB s a 91
            · have hw1 : a ≤ wdA s a := skA_ge _ _ _
              have hw2 : wdA s a ≤ s.size := skA_le _ _ _ h1
              have hsz : (sub' s a (wdA s a)).size ≤ 16777216 := by
                unfold sub'
                rw [ByteArray.size_extract]
                omega
              rw [cond_false, cond_false, rdOk_of (by omega) hw2 hs, Nat.ble_eq_true_of_le hsz]
              rfl
            · have := hB _ _ c5
              rw [cond_true, cond_true]
              show (bif arCo k s (a + 1) (l - 1) deep then _ else _) = _
              rw [arCo_of (by omega) (by omega) hs hl (by omega) d0 d1 (by omega)]
              rfl
          · have := hB _ _ c4
            rw [cond_true, cond_true]
            show (bif rdOk s (a + 1) then _ else _) = _
            rw [rdOk_of (by omega) (by omega) hs]
            rfl
        · have := hB _ _ c3
          rw [cond_true, cond_true]
          show (bif rdOk s (a + 1) then _ else _) = _
          rw [rdOk_of (by omega) (by omega) hs]
          rfl
      · have := hB _ _ c2
        rw [cond_true, cond_true]
        show (bif rdOk s (a + 1) then _ else _) = _
        rw [rdOk_of (by omega) (by omega) hs]
        rfl
    · have hc := c1
      rw [Bool.and_eq_true] at hc
      have := hB _ _ hc.2
      rw [cond_true, cond_true]
      show (bif arCo k s (a + 2) (l - 1) deep then _ else _) = _
      rw [arCo_of (by omega) (by omega) hs hl (by omega) d0 d1 (by omega)]
      rfl
  · rw [decide_eq_false hl]
    rfl
end
theorem obE_sound (f : ByteArray → Bool × Int) (hd : SoundCall PR (addF 110 (dpE f) fun _ _ _ => none)) : ∀ k, SoundCall PR (addF 51 (obE f k) fun _ _ _ => none)
  | 0 => sound_both (sound_le0 fun xs bs out h => by
      unfold obE at h
      split at h
      · injection h with h
        injection h with h _
        have := obCo_eq h
        omega
      · cases h) sound_none
  | k + 1 => by
    have ih := obE_sound f hd k
    have hC : SoundCall PR (arC f k fun _ _ _ => none) := beg_sound (bls_sound (want_sound (nm_sound ih)))
    have har : SoundCall PR (addF 83 (arE f k) (arC f k fun _ _ _ => none)) := sound_addF (takes := TK) hmixP hC _ (fn := (PR.funcs[83]?).getD default) (by kernel_rfl) (by kernel_rfl) (arE f k) fun xs bs out h => by
      unfold arE at h
      split at h
      · rename_i deep s a l
        injection h with h
        injection h with h1 h2
        subst h2
        obtain ⟨⟨h0, h1, hs⟩, l0, l1, d0, d1, d2⟩ := arCo_eq h1
        obtain ⟨x, e1, e2⟩ := outO_flat (arR s (fun a l => obP f s k a (deep - 1) l) a deep l) s
        refine ⟨70000, x, ?_, e2⟩
        rw [← e1]
        refine (ar_0 f k 70000 s a l deep).trans ?_
        unfold arR
        by_cases hp : deep > 0
        · obtain ⟨b1, b2⟩ := blA_bd (s := s) (a := a) h1
          rw [decide_eq_true hp, cond_true, cond_true, rdOk_of h0 h1 hs, cond_true]
          exact ar_run f k 70000 s hs (by omega) d1 d2 (l.toNat + 2) 70000 (blA s a) l [] (by omega) b2 l0 l1 (by omega) (by omega) (by simpa using l1)
        · rw [decide_eq_false hp]
          rfl
      · cases h
    have hdc : SoundCall PR (addF 79 (dcE f k) (arC f k fun _ _ _ => none)) := sound_addF (takes := TK) hmixP hC _ (fn := (PR.funcs[79]?).getD default) (by kernel_rfl) (by kernel_rfl) (dcE f k) fun xs bs out h => by
      unfold dcE at h
      split at h
      · rename_i deep s a l
        injection h with h
        injection h with h1 h2
        subst h2
        obtain ⟨⟨h0, h1, hs⟩, l0, l1, d0, d1, d2⟩ := arCo_eq h1
        obtain ⟨x, e1, e2⟩ := outO_flat (dcR s (fun a l => obP f s k a (deep - 1) l) a deep l) s
        refine ⟨70000, x, ?_, e2⟩
        rw [← e1]
        refine (dc_0 f k 70000 s a l deep).trans ?_
        unfold dcR
        by_cases hp : deep > 0
        · obtain ⟨b1, b2⟩ := blA_bd (s := s) (a := a) h1
          rw [decide_eq_true hp, cond_true, cond_true, rdOk_of h0 h1 hs, cond_true]
          exact dc_run f k 70000 s hs (by omega) d1 d2 (l.toNat + 2) 70000 (blA s a) l [] [] (by omega) b2 l0 l1 (by omega) (by omega) (by simpa using l1) (by simpa using l1)
        · rw [decide_eq_false hp]
          rfl
      · cases h
    have h2 : SoundCall PR (oC2 f k) := sound_both hdc (sound_both har (hx_sound (tx_sound (nm_sound (wd_sound (sd_sound f hd (beg_sound (want_sound sound_none))))))))
    refine sound_both (sound_addF (takes := TK) hmixP h2 _ (fn := (PR.funcs[51]?).getD default) (by kernel_rfl) (by kernel_rfl) (obE f (k + 1)) fun xs bs out h => ?_) sound_none
    unfold obE at h
    split at h
    · rename_i deep s a l
      injection h with h
      injection h with h1 h2
      subst h2
      obtain ⟨x, e1, e2⟩ := outO_flat (obP f s (k + 1) a deep l) s
      exact ⟨0, x, (ob_run f k s h1).trans e1, e2⟩
    · cases h
end Go.Proofs.YtckdgcpomkefpaaGreatDoor.En
end
section
set_option linter.unusedVariables false
set_option linter.unusedSimpArgs false
set_option maxRecDepth 100000
namespace Go.Proofs.YtckdgcpomkefpaaGreatDoor.En
open Go
section
variable (f : ByteArray → Bool × Int)
noncomputable def paC : CallF := addF 50 blsE (addF 51 (obE f 33) (addF 24 GoodE fun _ _ _ => none))
def paR (k n : Int) (b : Bool) (t : ByteArray) (ks l : List Dat) (e r : Int) : Option Out := some (.ret (.tup [.agg (obA k n b t ks l), I e, I r]) [none, none])
def paN (r : Int) : Option Out := paR 0 0 false ⟨#[]⟩ [] [] 0 r
noncomputable def paK (s : ByteArray) (o : Option ObR) : Option Out := bif o.isSome then
  (bif decP (okO' 101 ((rvO o).1.at 4).toL ((rvO o).1.at 5).toL 32 65536) then
    (bif !(ogO 101 (nrm (rvO o).1) 32 65536).1 then paN 50 else
      paR ((rvO o).1.at 0).toI ((rvO o).1.at 2).toI ((rvO o).1.at 1).toB ((rvO o).1.at 3).toS ((rvO o).1.at 4).toL ((rvO o).1.at 5).toL (rvO o).2.1 0) else none) else paN 50
theorem pa_0 (m : Nat) (s : ByteArray) (a : Int) : evFnD PR TK (paC f) m 31 [S s, I a] [none, none] =
  bif decide ((s.size : Int) > 16777216) then paN 2 else orK (decide (a < 0)) (decide (a > (s.size : Int))) fun t => bif t then paN 1 else
    bif rdOk s a then (bif obCo 33 s (blA s a) 65536 32 then paK s (obP f s 33 (blA s a) 32 65536) else none) else none := by kernel_rfl
end
def Fit (k : Nat) (d : Dat) : Prop := fitO k (d.at 4).toL (d.at 5).toL ∧ keyZ k (d.at 4).toL (d.at 5).toL
theorem fit_nil (k : Nat) : fitO (k + 1) [] [] ∧ keyZ (k + 1) [] [] := ⟨⟨by simp, by simp, fun d hd => by cases hd⟩, fun d hd => (by cases hd), fun d hd => by cases hd⟩
theorem fit_up : ∀ (k : Nat) (ks l : List Dat), fitO k ks l ∧ keyZ k ks l → fitO (k + 1) ks l ∧ keyZ (k + 1) ks l
  | 0, ks, l, h => h.1.elim
  | k + 1, ks, l, ⟨⟨h1, h2, h3⟩, h4, h5⟩ => ⟨⟨h1, h2, fun d hd => (fit_up k _ _ ⟨h3 d hd, h5 d hd⟩).1⟩, h4, fun d hd => (fit_up k _ _ ⟨h3 d hd, h5 d hd⟩).2⟩
theorem fit_le {k n : Nat} (h : k ≤ n) {ks l : List Dat} (hf : fitO k ks l ∧ keyZ k ks l) : fitO n ks l ∧ keyZ n ks l := by
  induction h with
  | refl => exact hf
  | step _ ih => exact fit_up _ _ _ ih
theorem Fit.nrm {k : Nat} {d : Dat} (h : Fit k d) : Fit k (nrm d) := h
def ObFit (s : ByteArray) (k : Nat) (ob : Int → Int → Option ObR) : Prop := ∀ (a l : Int) (d : Dat) (p l' : Int), 0 ≤ a → a ≤ s.size → l ≤ 65536 → ob a l = some (d, p, l') → Fit k d
theorem nmP_len (s : ByteArray) : ∀ (k : Nat) (a : Int) (acc x : List Dat) (b : Int), a ≤ s.size → (acc.length : Int) ≤ a → nmP s k a acc = some (x, b) → (x.length : Int) ≤ b
  | 0, a, acc, x, b, _, _, h => by cases h
  | k + 1, a, acc, x, b, ha, hl, h => by
    unfold nmP at h
    cases hc : decide (a < s.size) && wordB (bt s a) <;> rw [hc] at h
    · cases h; exact hl
    · rw [Bool.and_eq_true, decide_eq_true_eq] at hc
      cases h3 : bt s a == 35 <;> rw [h3] at h
      · obtain ⟨_, h⟩ := bif_some h
        exact nmP_len s k (a + 1) _ x b (by omega) (by simp; omega) h
      · obtain ⟨hp, h⟩ := bif_some h
        unfold pairB at hp
        rw [Bool.and_eq_true, decide_eq_true_eq] at hp
        exact nmP_len s k (a + 3) _ x b (by omega) (by simp; omega) h
theorem bytesOf_sz (l : List Dat) : (bytesOf l).size = l.length := by
  unfold bytesOf
  show (List.map _ l).toArray.size = _
  simp
theorem arP_fit {s : ByteArray} {ob : Int → Int → Option ObR} {j : Nat} (hob : ObBd s ob) (hf : ObFit s j ob) : ∀ (q : Nat) (a l : Int) (acc : List Dat) (d : Dat) (p l' : Int), 0 ≤ a → a ≤ s.size → 0 ≤ l → l ≤ 65536 → acc.length + q ≤ 1000000 → (∀ x ∈ acc, Fit j x) → arP s ob q a l acc = some (d, p, l') → Fit (j + 1) d
  | 0, a, l, acc, d, p, l', _, _, _, _, _, _, h => by cases h
  | q + 1, a, l, acc, d, p, l', h0, h1, l0, l1, hq, hacc, h => by
    unfold arP at h
    cases hc : isB s a 93 <;> rw [hc] at h
    · rw [cond_false] at h
      split at h
      · cases h
      · rename_i d' p' l2 he
        obtain ⟨e1, e2, e3, e4⟩ := hob a l _ _ _ h0 h1 he
        obtain ⟨b1, b2⟩ := blA_bd (s := s) (a := p') e2
        refine arP_fit hob hf q _ _ _ d p l' (by omega) b2 e3 (by omega) (by simp; omega) (fun x hx => ?_) h
        rcases List.mem_append.1 hx with hx | hx
        · exact hacc x hx
        · rw [List.mem_singleton] at hx
          subst hx
          exact (hf a l _ _ _ h0 h1 l1 he).nrm
    · cases h
      exact ⟨⟨by show (0 : Nat) ≤ _; omega, by show acc.length ≤ _; omega, fun x hx => (hacc x hx).1⟩, fun x hx => (by cases hx), fun x hx => (hacc x hx).2⟩
theorem dcP_fit {s : ByteArray} {ob : Int → Int → Option ObR} {j : Nat} (hs : s.size ≤ 16777216) (hob : ObBd s ob) (hf : ObFit s j ob) : ∀ (q : Nat) (a l : Int) (ks acc : List Dat) (d : Dat) (p l' : Int), 0 ≤ a → a ≤ s.size → 0 ≤ l → l ≤ 65536 → acc.length + q ≤ 1000000 → ks.length + q ≤ 1000000 → (∀ x ∈ acc, Fit j x) → (∀ x ∈ ks, (x.at 0).toS.size ≤ maxLen) → dcP s ob q a l ks acc = some (d, p, l') → Fit (j + 1) d
  | 0, a, l, ks, acc, d, p, l', _, _, _, _, _, _, _, _, h => by cases h
  | q + 1, a, l, ks, acc, d, p, l', h0, h1, l0, l1, hq, hq2, hacc, hks, h => by
    unfold dcP at h
    cases hc : isB s a 62 && isB s (a + 1) 62 <;> rw [hc] at h
    · rw [cond_false] at h
      obtain ⟨h47, h⟩ := bif_some h
      unfold isB at h47
      rw [Bool.and_eq_true, decide_eq_true_eq] at h47
      split at h
      · cases h
      · rename_i b c hn
        obtain ⟨n1, n2⟩ := nmP_bd s _ _ _ _ _ (by omega) hn
        have n3 := nmP_len s _ _ _ _ _ (by omega) (by simp; omega) hn
        obtain ⟨m1, m2⟩ := blA_bd (s := s) (a := c) n2
        split at h
        · cases h
        · rename_i d' p' l2 he
          obtain ⟨e1, e2, e3, e4⟩ := hob _ l _ _ _ (by omega) m2 he
          obtain ⟨b1, b2⟩ := blA_bd (s := s) (a := p') e2
          refine dcP_fit hs hob hf q _ _ _ _ d p l' (by omega) b2 e3 (by omega) (by simp; omega) (by simp; omega) (fun x hx => ?_) (fun x hx => ?_) h
          · rcases List.mem_append.1 hx with hx | hx
            · exact hacc x hx
            · rw [List.mem_singleton] at hx
              subst hx
              exact (hf _ l _ _ _ (by omega) m2 l1 he).nrm
          · rcases List.mem_append.1 hx with hx | hx
            · exact hks x hx
            · rw [List.mem_singleton] at hx
              subst hx
              show (bytesOf b).size ≤ maxLen
              rw [bytesOf_sz]
              have : (16777216 : Nat) ≤ maxLen := by decide
              omega
    · cases h
      exact ⟨⟨by show ks.length ≤ _; omega, by show acc.length ≤ _; omega, fun x hx => (hacc x hx).1⟩, hks, fun x hx => (hacc x hx).2⟩
theorem obP_fit (f : ByteArray → Bool × Int) (s : ByteArray) (hs : s.size ≤ 16777216) : ∀ (k : Nat) (deep : Int), ObFit s (k + 1) fun a l => obP f s k a deep l
  | 0, deep => fun a l d p l' _ _ _ h => by cases h
  | k + 1, deep => fun a l d p l' h0 h1 hl h => by
    have hob := obP_bd f s k (deep - 1)
    have hft := obP_fit f s hs k (deep - 1)
    have h : obB f s (fun a l => obP f s k a (deep - 1) l) a deep (l - 1) = some (d, p, l') := h
    unfold obB at h
    obtain ⟨hl2, h⟩ := bif_some h
    rw [decide_eq_true_eq] at hl2
    have hB : ∀ b c, isB s b c = true → b < s.size := fun b c hb => by
      unfold isB at hb
      rw [Bool.and_eq_true, decide_eq_true_eq] at hb
      exact hb.1
    have ht : ∀ (n : Int) (o : Option (List Dat × Int)), txR n o (l - 1) = some (d, p, l') → Fit (k + 2) d := fun n o e => by
      obtain ⟨⟨x, b⟩, hx, e⟩ := Option.map_eq_some_iff.1 e
      cases e
      exact fit_nil _
    cases c1 : isB s a 60 && isB s (a + 1) 60 <;> rw [c1] at h
    · cases c2 : isB s a 60 <;> rw [c2] at h
      · cases c3 : isB s a 40 <;> rw [c3] at h
        · cases c4 : isB s a 47 <;> rw [c4] at h
          · cases c5 : isB s a 91 <;> rw [c5] at h
            · revert h
              unfold sdS
              cases isT (sub' s a (wdA s a)) nulT
              · cases isT (sub' s a (wdA s a)) trueT
                · cases isT (sub' s a (wdA s a)) falseT
                  · cases isI (sub' s a (wdA s a))
                    · cases (f (sub' s a (wdA s a))).1
                      · intro h; cases h
                      · intro h; cases h; exact fit_nil _
                    · cases rfB s (wdA s a) <;> (intro h; cases h; exact fit_nil _)
                  · intro h; cases h; exact fit_nil _
                · intro h; cases h; exact fit_nil _
              · intro h; cases h; exact fit_nil _
            · have := hB _ _ c5
              have h : arR s (fun a l => obP f s k a (deep - 1) l) (a + 1) deep (l - 1) = some (d, p, l') := h
              unfold arR at h
              obtain ⟨_, h⟩ := bif_some h
              obtain ⟨b1, b2⟩ := blA_bd (s := s) (a := a + 1) (by omega)
              exact arP_fit hob hft _ _ _ _ _ _ _ (by omega) b2 hl2 (by omega) (by simp; omega) (by simp) h
          · exact ht 4 _ h
        · exact ht 5 _ h
      · exact ht 5 _ h
    · rw [Bool.and_eq_true] at c1
      have := hB _ _ c1.2
      have h : dcR s (fun a l => obP f s k a (deep - 1) l) (a + 2) deep (l - 1) = some (d, p, l') := h
      unfold dcR at h
      obtain ⟨_, h⟩ := bif_some h
      obtain ⟨b1, b2⟩ := blA_bd (s := s) (a := a + 2) (by omega)
      exact dcP_fit hs hob hft _ _ _ _ _ _ _ _ (by omega) b2 hl2 (by omega) (by simp; omega) (by simp; omega) (by simp) (by simp) h
def paO (f : ByteArray → Bool × Int) (s : ByteArray) (a : Int) : Option (Dat × Int) := (obP f s 33 (blA s a) 32 65536).bind fun t => bif (ogO 101 (nrm t.1) 32 65536).1 then some (nrm t.1, t.2.1) else none
def rvP (o : Option (Dat × Int)) : Dat × Int := o.getD (.int 0, 0)
def paT (d : Dat) (e r : Int) : Out := .ret (.tup [.agg (obD d), I e, I r]) [none, none]
def paZ (r : Int) : Out := .ret (.tup [.agg (obA 0 0 false ⟨#[]⟩ [] []), I 0, I r]) [none, none]
def paX (o : Option (Dat × Int)) : Out := .alt o.isSome (paT (rvP o).1 (rvP o).2 0) (paZ 50)
def paE (f : ByteArray → Bool × Int) : List AV → Bx → Option (Bool × Out)
  | [.v (.string s), .v (.int .i64 a)], [none, none] => some (Nat.ble s.size 16777216, .alt (decide (a < 0) || decide (a > (s.size : Int))) (paZ 1) (paX (paO f s a)))
  | _, _ => none
theorem pa_sound (f : ByteArray → Bool × Int) (hd : SoundCall PR (addF 110 (dpE f) fun _ _ _ => none)) {ext : CallF} (hext : SoundCall PR ext) : SoundCall PR (addF 31 (paE f) ext) := by
  have hC : SoundCall PR (paC f) := bls_sound (sound_both (obE_sound f hd 33) Good_sound)
  refine sound_both (sound_addDF (takes := TK) hmixP hC _ (fn := (PR.funcs[31]?).getD default) (by kernel_rfl) (by kernel_rfl) (paE f) fun xs bs out h => ?_) hext
  unfold paE at h
  split at h
  · rename_i s a
    injection h with h
    injection h with h1 h2
    subst h2
    have hs := Nat.le_of_ble_eq_true h1
    have e := pa_0 f 0 s a
    rw [decide_eq_false (p := (s.size : Int) > 16777216) (by omega), cond_false, orK_eq] at e
    cases hc : decide (a < 0) || decide (a > (s.size : Int)) <;> rw [hc] at e
    · rw [Bool.or_eq_false_iff, decide_eq_false_iff_not, decide_eq_false_iff_not] at hc
      obtain ⟨b1, b2⟩ := blA_bd (s := s) (a := a) (by omega)
      rw [cond_false, rdOk_of (by omega) (by omega) hs, cond_true, obCo_of (by omega) b2 hs (by omega) (by omega) (by omega) (by omega) (by decide), cond_true] at e
      unfold paK at e
      cases ho : obP f s 33 (blA s a) 32 65536 with
      | none =>
        rw [ho] at e
        refine ⟨0, _, e, ?_⟩
        unfold paO
        rw [ho]
        rfl
      | some t =>
        obtain ⟨d, p, l'⟩ := t
        have hft := obP_fit f s hs 33 32 (blA s a) 65536 d p l' (by omega) b2 (by omega) ho
        have hf2 := fit_le (k := 34) (n := 101) (by omega) hft
        rw [ho] at e
        have hok : decP (okO' 101 ((rvO (some (d, p, l'))).1.at 4).toL ((rvO (some (d, p, l'))).1.at 5).toL 32 65536) = true := decP_eq ⟨hf2.1, hf2.2, by omega, by omega, by omega, by omega⟩
        rw [hok] at e
        have e : evFnD PR TK (paC f) 0 31 [S s, I a] [none, none] = bif !(ogO 101 (nrm d) 32 65536).1 then paN 50 else paR (d.at 0).toI (d.at 2).toI (d.at 1).toB (d.at 3).toS (d.at 4).toL (d.at 5).toL p 0 := e
        cases hg : (ogO 101 (nrm d) 32 65536).1 <;> rw [hg] at e <;> refine ⟨0, _, e, ?_⟩ <;> unfold paO <;> rw [ho] <;> show _ = Out.flat (.alt _ _ (paX ((Option.some (d, p, l')).bind fun t => bif (ogO 101 (nrm t.1) 32 65536).1 then some (nrm t.1, t.2.1) else none))) <;> simp only [Option.bind_some] <;> rw [hg] <;> rfl
    · exact ⟨0, _, e, by rfl⟩
  · cases h
end Go.Proofs.YtckdgcpomkefpaaGreatDoor.En
end
section
set_option linter.unusedVariables false
set_option linter.unusedSimpArgs false
set_option maxRecDepth 100000
namespace Go.Proofs.YtckdgcpomkefpaaGreatDoor.En
open Go
section
variable (f : ByteArray → Bool × Int)
@[irreducible] def fuN : Nat := 65540
end
section
variable (f : ByteArray → Bool × Int) (k : Nat)
variable (m : Nat) (s : ByteArray)
end
end Go.Proofs.YtckdgcpomkefpaaGreatDoor.En
end
section
set_option linter.unusedVariables false
set_option linter.unusedSimpArgs false
set_option maxRecDepth 100000
namespace Go.Proofs.YtckdgcpomkefpaaGreatDoor.En
open Go
theorem isB_lt {s : ByteArray} {b c : Int} (hb : isB s b c = true) : b < s.size := by
  unfold isB at hb
  rw [Bool.and_eq_true, decide_eq_true_eq] at hb
  exact hb.1
section
variable (f : ByteArray → Bool × Int) (k m : Nat) (s : ByteArray)
end
end Go.Proofs.YtckdgcpomkefpaaGreatDoor.En
end
section
set_option linter.unusedVariables false
set_option linter.unusedSimpArgs false
set_option maxRecDepth 100000
namespace Go.Proofs.YtckdgcpomkefpaaGreatDoor.En
open Go
theorem keysEq_nil (ks : List Dat) : keysEq ks [] = ks.isEmpty := by cases ks <;> rfl
theorem allEq_nil (f : Dat → Dat → Bool) (l : List Dat) : allEq f l [] = l.isEmpty := by cases l <;> rfl
def eS (s : ByteArray) : Bool := s.toList == (⟨#[]⟩ : ByteArray).toList
theorem sm_eq (k : Nat) (n : Int) (b : Bool) (s : ByteArray) (ks l : List Dat) : sm (k + 1) n b s ks l = (!b && ((n == 0) && (eS s && (ks.isEmpty && l.isEmpty)))) := by
  have : sm (k + 1) n b s ks l = (((0 : Int) == 0) && ((b == false) && ((n == 0) && (eS s && (keysEq ks [] && allEq (sameO k) l []))))) := rfl
  rw [this, keysEq_nil, allEq_nil]
  cases b <;> rfl
theorem len_pos (l : List Dat) : decide ((l.length : Int) > 0) = !l.isEmpty := by
  cases l with
  | nil => rfl
  | cons d l =>
    have : ((d :: l).length : Int) > 0 := by rw [List.length_cons]; omega
    rw [decide_eq_true this]; rfl
def bareN (k1 : Int) (b A E X Y : Bool) : Bool := ((((b && k1 != 1) || (((!A && k1 != 2) && k1 != 3) && k1 != 8)) || ((!E && k1 != 4) && k1 != 5)) || (!X && k1 != 7)) || ((!Y && k1 != 6) && k1 != 7)
theorem bareN_eq (k1 n1 : Int) (b1 : Bool) (s1 : ByteArray) (ks1 l1 : List Dat) : bareB k1 n1 b1 s1 ks1 l1 = bareN k1 b1 (n1 == 0) (eS s1) ks1.isEmpty l1.isEmpty := by
  unfold bareB bareN
  rw [len_pos, len_pos]
  rfl
theorem eS_nil : eS ⟨#[]⟩ = true := by unfold eS; simp
def rel (x : Bool × Int) (n : Int) : Prop := (x.1 = true ↔ 0 ≤ n) ∧ (x.1 = true → x.2 = 65536 - n)
theorem rel_no {left : Int} : rel (false, left) (-1) := ⟨⟨fun h => (by cases h), fun h => (by omega)⟩, fun h => (by cases h)⟩
theorem bn0 (b A E X Y : Bool) : (!bareN 0 b A E X Y) = (!b && (A && (E && (X && Y)))) := by cases b <;> cases A <;> cases E <;> cases X <;> cases Y <;> rfl
theorem bn1 (b A E X Y : Bool) : (!bareN 1 b A E X Y) = (A && (E && (X && Y))) := by cases b <;> cases A <;> cases E <;> cases X <;> cases Y <;> rfl
theorem bn2 (b A E X Y : Bool) : (!bareN 2 b A E X Y) = (!b && (E && (X && Y))) := by cases b <;> cases A <;> cases E <;> cases X <;> cases Y <;> rfl
theorem bn3 (b A E X Y : Bool) : (!bareN 3 b A E X Y) = (!b && (E && (X && Y))) := by cases b <;> cases A <;> cases E <;> cases X <;> cases Y <;> rfl
theorem bn4 (b A E X Y : Bool) : (!bareN 4 b A E X Y) = (!b && (A && (X && Y))) := by cases b <;> cases A <;> cases E <;> cases X <;> cases Y <;> rfl
theorem bn5 (b A E X Y : Bool) : (!bareN 5 b A E X Y) = (!b && (A && (X && Y))) := by cases b <;> cases A <;> cases E <;> cases X <;> cases Y <;> rfl
theorem bn6 (b A E X Y : Bool) : (!bareN 6 b A E X Y) = (!b && (A && (E && X))) := by cases b <;> cases A <;> cases E <;> cases X <;> cases Y <;> rfl
theorem bn7 (b A E X Y : Bool) : (!bareN 7 b A E X Y) = (!b && (A && E)) := by cases b <;> cases A <;> cases E <;> cases X <;> cases Y <;> rfl
theorem bn8 (b A E X Y : Bool) : (!bareN 8 b A E X Y) = (!b && (E && (X && Y))) := by cases b <;> cases A <;> cases E <;> cases X <;> cases Y <;> rfl
theorem ogI_rel {k : Nat} (hk : ∀ (d : Dat) (deep left nest ahead : Int), left + ahead = 65536 → deep + nest = 32 → 0 ≤ ahead → ahead ≤ 65536 → 0 ≤ deep → rel (ogO k d deep left) (goodO k d nest ahead)) {deep nest : Int} (hdn : deep + nest = 33) (hd : 1 ≤ deep) :
    ∀ (l : List Dat) (left ahead : Int), left + ahead = 65536 → 0 ≤ ahead → ahead ≤ 65536 → rel (ogI (ogO k) deep l left) (itemsG (fun e n => goodO k e nest n) l ahead)
  | [], left, ahead, h1, h2, h3 => ⟨⟨fun _ => h2, fun _ => rfl⟩, fun _ => by show left = 65536 - ahead; omega⟩
  | d :: l, left, ahead, h1, h2, h3 => by
    obtain ⟨r1, r2⟩ := hk d (deep - 1) left nest ahead h1 (by omega) h2 h3 (by omega)
    have hb := goodO_bd k d nest ahead h2
    unfold ogI itemsG
    cases hq : (ogO k d (deep - 1) left).1
    · have : goodO k d nest ahead < 0 := by
        rcases Int.lt_or_le (goodO k d nest ahead) 0 with h | h
        · exact h
        · rw [r1.2 h] at hq; cases hq
      rw [decide_eq_true this]
      exact rel_no
    · have h4 := r1.1 hq
      have h5 := r2 hq
      rw [Bool.not_true, cond_false, decide_eq_false (by omega), cond_false]
      exact ogI_rel hk hdn hd l _ _ (by omega) h4 hb.2
theorem allO_rel {k : Nat} (hk : ∀ (d : Dat) (deep left nest ahead : Int), left + ahead = 65536 → deep + nest = 32 → 0 ≤ ahead → ahead ≤ 65536 → 0 ≤ deep → rel (ogO k d deep left) (goodO k d nest ahead)) {deep nest : Int} (hdn : deep + nest = 32) (hd : 0 ≤ deep)
    (l : List Dat) (left ahead : Int) (h1 : left + ahead = 65536) (h2 : 0 ≤ ahead) (h3 : ahead ≤ 65536) : rel (allO (ogO k) l deep left) (bif decide (nest + 1 > 32) then -1 else itemsG (fun e n => goodO k e (nest + 1) n) l ahead) := by
  unfold allO
  by_cases h : deep < 1
  · rw [decide_eq_true h, decide_eq_true (show nest + 1 > 32 by omega)]; exact rel_no
  · rw [decide_eq_false h, decide_eq_false (show ¬ nest + 1 > 32 by omega)]
    exact ogI_rel hk (by omega) (by omega) l left ahead h1 h2 h3
theorem itemsG_ne {f : Dat → Int → Int} (hf : ∀ d n, 0 ≤ n → f d n ≠ 0) : ∀ (l : List Dat) (n : Int), 0 < n → itemsG f l n ≠ 0
  | [], n, h => by unfold itemsG; omega
  | d :: l, n, h => by
    unfold itemsG
    by_cases hn : f d n < 0
    · rw [decide_eq_true hn]; simp
    · rw [decide_eq_false hn, cond_false]
      have := hf d n (by omega)
      exact itemsG_ne hf l _ (by omega)
theorem goodO_ne : ∀ (k : Nat) (d : Dat) (nest ahead : Int), 0 ≤ ahead → goodO k d nest ahead ≠ 0
  | 0, d, nest, ahead, _ => by simp [goodO]
  | k + 1, d, nest, ahead, h => by
    unfold goodO
    cases decide (ahead + 1 > 65536) || !flatD d
    · cases (d.at 0).toI == 6 || (d.at 0).toI == 7
      · exact itemsG_ne (fun e n hn => goodO_ne k e nest n hn) _ _ (by omega)
      · cases decide (nest + 1 > 32)
        · exact itemsG_ne (fun e n hn => goodO_ne k e (nest + 1) n hn) _ _ (by omega)
        · simp
    · simp
theorem og_good : ∀ (k : Nat) (d : Dat) (deep left nest ahead : Int), left + ahead = 65536 → deep + nest = 32 → 0 ≤ ahead → ahead ≤ 65536 → 0 ≤ deep → rel (ogO k d deep left) (goodO k d nest ahead)
  | 0, d, deep, left, nest, ahead, _, _, _, _, _ => rel_no
  | k + 1, d, deep, left, nest, ahead, h1, h2, h3, h4, h5 => by
    have hk := og_good k
    unfold ogO goodO
    by_cases hl : left - 1 < 0
    · rw [decide_eq_true hl, decide_eq_true (show ahead + 1 > 65536 by omega)]; exact rel_no
    rw [decide_eq_false hl, decide_eq_false (show ¬ ahead + 1 > 65536 by omega), cond_false, Bool.false_or]
    have hfl : flatD d = (!bareN (d.at 0).toI (d.at 1).toB ((d.at 2).toI == 0) (eS (d.at 3).toS) (d.at 4).toL.isEmpty (d.at 5).toL.isEmpty && kindB (d.at 0).toI (d.at 2).toI (d.at 3).toS (d.at 4).toL (d.at 5).toL) := by
      unfold flatD flatB
      rw [bareN_eq]
    rw [hfl]
    have hall := allO_rel hk h2 h5 (d.at 5).toL (left - 1) (ahead + 1) (by omega) (by omega) (by omega)
    generalize hK : (d.at 0).toI = K
    generalize (d.at 1).toB = b
    generalize hn : (d.at 2).toI = n
    generalize hs : (d.at 3).toS = s
    generalize (d.at 4).toL = ks
    revert hall
    generalize hlst : (d.at 5).toL = l
    intro hall
    -- a kind without items
    have plain : ∀ (c : Bool) (g : Dat → Int → Int), (c = true → l.isEmpty = true) → rel (c, left - 1) (bif !c then -1 else itemsG g l (ahead + 1)) := fun c g hc => by
      cases c
      · exact rel_no
      · have : l = [] := by simpa using hc rfl
        subst this
        exact ⟨⟨fun _ => (by show 0 ≤ ahead + 1; omega), fun _ => rfl⟩, fun _ => (by show left - 1 = 65536 - (ahead + 1); omega)⟩
    have smE : ∀ (n : Int) (b : Bool) (s : ByteArray) (ok : Bool), (ok && sm (k + 1) n b s ks l) = true → l.isEmpty = true := fun n b s ok h => by
      rw [sm_eq] at h
      cases hq : l.isEmpty
      · rw [hq] at h; simp at h
      · rfl
    by_cases hk0 : K = 0
    · subst hk0
      have hc : (!bareN 0 b (n == 0) (eS s) ks.isEmpty l.isEmpty && true) = sm (k + 1) n b s ks l := by
        rw [bn0, sm_eq, Bool.and_true]
      show rel (sm (k + 1) n b s ks l, left - 1) (bif !(!bareN 0 b (n == 0) (eS s) ks.isEmpty l.isEmpty && true) then -1 else itemsG (fun e n => goodO k e nest n) l (ahead + 1))
      rw [hc]
      exact plain _ _ fun h => smE n b s true (by rw [h]; rfl)
    by_cases hk1 : K = 1
    · subst hk1
      have hc : (!bareN 1 b (n == 0) (eS s) ks.isEmpty l.isEmpty && true) = sm (k + 1) n false s ks l := by
        rw [bn1, sm_eq, Bool.and_true]; rfl
      show rel (sm (k + 1) n false s ks l, left - 1) (bif !(!bareN 1 b (n == 0) (eS s) ks.isEmpty l.isEmpty && true) then -1 else itemsG (fun e n => goodO k e nest n) l (ahead + 1))
      rw [hc]
      exact plain _ _ fun h => smE n false s true (by rw [h]; rfl)
    by_cases hk2 : K = 2
    · subst hk2
      have hc : (!bareN 2 b (n == 0) (eS s) ks.isEmpty l.isEmpty && inB n) = (inB n && sm (k + 1) 0 b s ks l) := by
        rw [bn2, sm_eq]
        cases inB n <;> cases b <;> cases (n == 0) <;> cases eS s <;> cases ks.isEmpty <;> cases l.isEmpty <;> rfl
      show rel (inB n && sm (k + 1) 0 b s ks l, left - 1) (bif !(!bareN 2 b (n == 0) (eS s) ks.isEmpty l.isEmpty && inB n) then -1 else itemsG (fun e n => goodO k e nest n) l (ahead + 1))
      rw [hc]
      exact plain _ _ (smE _ _ _ _)
    by_cases hk3 : K = 3
    · subst hk3
      have hc : (!bareN 3 b (n == 0) (eS s) ks.isEmpty l.isEmpty && (inB n && (n.tmod 65536) != 0)) = ((inB n && (n.tmod 65536) != 0) && sm (k + 1) 0 b s ks l) := by
        rw [bn3, sm_eq]
        cases (inB n && (n.tmod 65536) != 0) <;> cases b <;> cases (n == 0) <;> cases eS s <;> cases ks.isEmpty <;> cases l.isEmpty <;> rfl
      show rel ((inB n && (n.tmod 65536) != 0) && sm (k + 1) 0 b s ks l, left - 1) (bif !(!bareN 3 b (n == 0) (eS s) ks.isEmpty l.isEmpty && (inB n && (n.tmod 65536) != 0)) then -1 else itemsG (fun e n => goodO k e nest n) l (ahead + 1))
      rw [hc]
      exact plain _ _ (smE _ _ _ _)
    by_cases hk4 : K = 4
    · subst hk4
      have hc : (!bareN 4 b (n == 0) (eS s) ks.isEmpty l.isEmpty && namedB s) = (namedB s && sm (k + 1) n b ⟨#[]⟩ ks l) := by
        rw [bn4, sm_eq, eS_nil]
        cases namedB s <;> cases b <;> cases (n == 0) <;> cases eS s <;> cases ks.isEmpty <;> cases l.isEmpty <;> rfl
      show rel (namedB s && sm (k + 1) n b ⟨#[]⟩ ks l, left - 1) (bif !(!bareN 4 b (n == 0) (eS s) ks.isEmpty l.isEmpty && namedB s) then -1 else itemsG (fun e n => goodO k e nest n) l (ahead + 1))
      rw [hc]
      exact plain _ _ (smE _ _ _ _)
    by_cases hk5 : K = 5
    · subst hk5
      have hc : (!bareN 5 b (n == 0) (eS s) ks.isEmpty l.isEmpty && decide ((s.size : Int) ≤ 65536)) = (decide ((s.size : Int) ≤ 65536) && sm (k + 1) n b ⟨#[]⟩ ks l) := by
        rw [bn5, sm_eq, eS_nil]
        cases decide ((s.size : Int) ≤ 65536) <;> cases b <;> cases (n == 0) <;> cases eS s <;> cases ks.isEmpty <;> cases l.isEmpty <;> rfl
      show rel (decide ((s.size : Int) ≤ 65536) && sm (k + 1) n b ⟨#[]⟩ ks l, left - 1) (bif !(!bareN 5 b (n == 0) (eS s) ks.isEmpty l.isEmpty && decide ((s.size : Int) ≤ 65536)) then -1 else itemsG (fun e n => goodO k e nest n) l (ahead + 1))
      rw [hc]
      exact plain _ _ (smE _ _ _ _)
    by_cases hk6 : K = 6
    · subst hk6
      have hc : (!bareN 6 b (n == 0) (eS s) ks.isEmpty l.isEmpty && true) = sm (k + 1) n b s ks [] := by
        rw [bn6, sm_eq, Bool.and_true]
        cases b <;> cases (n == 0) <;> cases eS s <;> cases ks.isEmpty <;> rfl
      show rel ((allO (ogO k) l deep (left - 1)).1 && sm (k + 1) n b s ks [], (allO (ogO k) l deep (left - 1)).2) (bif !(!bareN 6 b (n == 0) (eS s) ks.isEmpty l.isEmpty && true) then -1 else (bif decide (nest + 1 > 32) then -1 else itemsG (fun e n => goodO k e (nest + 1) n) l (ahead + 1)))
      rw [hc]
      cases sm (k + 1) n b s ks []
      · rw [Bool.and_false]; exact rel_no
      · rw [Bool.and_true]; exact hall
    by_cases hk7 : K = 7
    · subst hk7
      have hc : (!bareN 7 b (n == 0) (eS s) ks.isEmpty l.isEmpty) = sm (k + 1) n b s [] [] := by
        rw [bn7, sm_eq]
        cases b <;> cases (n == 0) <;> cases eS s <;> rfl
      show rel (bif keysR [] ks && ((ks.length : Int) == l.length) then ((allO (ogO k) l deep (left - 1)).1 && sm (k + 1) n b s [] [], (allO (ogO k) l deep (left - 1)).2) else (false, left - 1)) (bif !(!bareN 7 b (n == 0) (eS s) ks.isEmpty l.isEmpty && (bif !((ks.length : Int) == l.length) then false else keysR [] ks)) then -1 else (bif decide (nest + 1 > 32) then -1 else itemsG (fun e n => goodO k e (nest + 1) n) l (ahead + 1)))
      rw [hc]
      cases sm (k + 1) n b s [] []
      · rw [Bool.and_false, Bool.false_and]
        cases keysR [] ks && ((ks.length : Int) == l.length) <;> exact rel_no
      · rw [Bool.and_true, Bool.true_and]
        cases keysR [] ks
        · cases ((ks.length : Int) == l.length) <;> exact rel_no
        · cases ((ks.length : Int) == l.length)
          · exact rel_no
          · exact hall
    by_cases hk8 : K = 8
    · subst hk8
      have hc : (!bareN 8 b (n == 0) (eS s) ks.isEmpty l.isEmpty && (decide (n ≥ 1) && decide (n ≤ 4096))) = ((decide (n ≥ 1) && decide (n ≤ 4096)) && sm (k + 1) 0 b s ks l) := by
        rw [bn8, sm_eq]
        cases (decide (n ≥ 1) && decide (n ≤ 4096)) <;> cases b <;> cases (n == 0) <;> cases eS s <;> cases ks.isEmpty <;> cases l.isEmpty <;> rfl
      show rel ((decide (n ≥ 1) && decide (n ≤ 4096)) && sm (k + 1) 0 b s ks l, left - 1) (bif !(!bareN 8 b (n == 0) (eS s) ks.isEmpty l.isEmpty && (decide (n ≥ 1) && decide (n ≤ 4096))) then -1 else itemsG (fun e n => goodO k e nest n) l (ahead + 1))
      rw [hc]
      exact plain _ _ (smE _ _ _ _)
    have c0 : (K == 0) = false := by simpa using hk0
    have c1 : (K == 1) = false := by simpa using hk1
    have c2 : (K == 2) = false := by simpa using hk2
    have c3 : (K == 3) = false := by simpa using hk3
    have c4 : (K == 4) = false := by simpa using hk4
    have c5 : (K == 5) = false := by simpa using hk5
    have c6 : (K == 6) = false := by simpa using hk6
    have c7 : (K == 7) = false := by simpa using hk7
    have c8 : (K == 8) = false := by simpa using hk8
    unfold ogS kindB
    rw [c0, c1, c2, c3, c4, c5, c6, c7, c8]
    simp only [cond_false, Bool.or_self, Bool.and_false, Bool.not_false, cond_true]
    exact rel_no
theorem Good_eq {k1 n1 : Int} {b1 : Bool} {s1 : ByteArray} {ks1 l1 : List Dat} : (ogO 101 (mkO k1 n1 b1 s1 ks1 l1) 32 65536).1 = decide (goodO 101 (mkO k1 n1 b1 s1 ks1 l1) 0 0 > 0) := by
  have h := (og_good 101 (mkO k1 n1 b1 s1 ks1 l1) 32 65536 0 0 (by decide) (by decide) (by decide) (by decide) (by decide)).1
  have hne := goodO_ne 101 (mkO k1 n1 b1 s1 ks1 l1) 0 0 (by decide)
  rw [Bool.eq_iff_iff, decide_eq_true_eq, h]
  omega
end Go.Proofs.YtckdgcpomkefpaaGreatDoor.En
end
section
set_option linter.unusedVariables false
set_option linter.unusedSimpArgs false
set_option maxRecDepth 100000
namespace Go.Proofs.YtckdgcpomkefpaaGreatDoor.En
open Go
section
variable (f : ByteArray → Bool × Int)
end
theorem fitR_up : ∀ (k : Nat) (ks l : List Dat), fitO k ks l → fitO (k + 1) ks l
  | 0, ks, l, h => h.elim
  | k + 1, ks, l, ⟨h1, h2, h3⟩ => ⟨h1, h2, fun d hd => fitR_up k _ _ (h3 d hd)⟩
theorem fitR_le {k n : Nat} (h : k ≤ n) {ks l : List Dat} (hf : fitO k ks l) : fitO n ks l := by
  induction h with
  | refl => exact hf
  | step _ ih => exact fitR_up _ _ _ ih
end Go.Proofs.YtckdgcpomkefpaaGreatDoor.En
end
section
set_option linter.unusedVariables false
set_option linter.unusedSimpArgs false
set_option maxRecDepth 100000
namespace Go.Proofs.YtckdgcpomkefpaaGreatDoor.En
open Go
theorem keysR_nm : ∀ (ks pre : List Dat), keysR pre ks = true → ∀ x ∈ ks, namedB (x.at 0).toS = true
  | [], pre, _, x, hx => by cases hx
  | d :: r, pre, h, x, hx => by
    unfold keysR at h
    simp only [Bool.and_eq_true] at h
    rcases List.mem_cons.1 hx with rfl | hx
    · exact h.1
    · exact keysR_nm r _ h.2.2 x hx
structure FOk (f : ByteArray → Bool × Int) : Prop where
  nil : ∀ w : ByteArray, w.size = 0 → (f w).1 = false
  int : ∀ w, isI w = true → (f w).1 = true → (f w).2.tmod 65536 = 0
section
variable {f : ByteArray → Bool × Int} {s : ByteArray}
def ObPr (s : ByteArray) (ob : Int → Int → Option ObR) : Prop := ∀ (a l : Int) (d : Dat) (p l' : Int), 0 ≤ a → a ≤ s.size → ob a l = some (d, p, l') → a < p ∧ l - l' ≤ p - a
theorem arP_pr {ob : Int → Int → Option ObR} (hob : ObBd s ob) (hp : ObPr s ob) : ∀ (k : Nat) (a l : Int) (acc : List Dat) (d : Dat) (p l' : Int), 0 ≤ a → a ≤ s.size → arP s ob k a l acc = some (d, p, l') → a < p ∧ l - l' ≤ p - a
  | 0, a, l, acc, d, p, l', _, _, h => by cases h
  | k + 1, a, l, acc, d, p, l', h0, h1, h => by
    unfold arP at h
    cases hc : isB s a 93 <;> rw [hc] at h
    · rw [cond_false] at h
      split at h
      · cases h
      · rename_i d' p' l2 he
        obtain ⟨e1, e2, e3, e4⟩ := hob a l _ _ _ h0 h1 he
        obtain ⟨f1, f2⟩ := hp a l _ _ _ h0 h1 he
        obtain ⟨b1, b2⟩ := blA_bd (s := s) (a := p') e2
        have := arP_pr hob hp k _ _ _ d p l' (by omega) b2 h
        omega
    · cases h
      omega
theorem dcP_pr {ob : Int → Int → Option ObR} (hob : ObBd s ob) (hp : ObPr s ob) : ∀ (k : Nat) (a l : Int) (ks acc : List Dat) (d : Dat) (p l' : Int), 0 ≤ a → a ≤ s.size → dcP s ob k a l ks acc = some (d, p, l') → a < p ∧ l - l' ≤ p - a
  | 0, a, l, ks, acc, d, p, l', _, _, h => by cases h
  | k + 1, a, l, ks, acc, d, p, l', h0, h1, h => by
    unfold dcP at h
    cases hc : isB s a 62 && isB s (a + 1) 62 <;> rw [hc] at h
    · rw [cond_false] at h
      obtain ⟨h47, h⟩ := bif_some h
      have hlt := isB_lt h47
      split at h
      · cases h
      · rename_i b q hq
        obtain ⟨n1, n2⟩ := nmP_bd s _ _ _ _ _ (by omega) hq
        obtain ⟨m1, m2⟩ := blA_bd (s := s) (a := q) n2
        split at h
        · cases h
        · rename_i d' p' l2 he
          obtain ⟨e1, e2, e3, e4⟩ := hob _ l _ _ _ (by omega) m2 he
          obtain ⟨f1, f2⟩ := hp _ l _ _ _ (by omega) m2 he
          obtain ⟨b1, b2⟩ := blA_bd (s := s) (a := p') e2
          have := dcP_pr hob hp k _ _ _ _ d p l' (by omega) b2 h
          omega
    · cases h
      omega
theorem sub_nil (s : ByteArray) (a : Int) : (sub' s a a).size = 0 := by
  unfold sub'
  rw [ByteArray.size_extract]
  omega
theorem sdS_nil (hF : FOk f) {w : ByteArray} (hw : w.size = 0) (a l : Int) : sdS f s w a l = none := by
  have hl : w.toList = [] := by
    rw [Lib.toList_data]
    have : w.data.toList.length = 0 := hw
    exact List.length_eq_zero_iff.1 this
  have hd : w.data.toList = [] := by rw [← Lib.toList_data]; exact hl
  have h1 : ∀ t : ByteArray, (match t.toList with | [] => false | _ => true) = true → isT w t = false := fun t ht => by
    unfold isT
    rw [hl]
    cases h : t.toList with
    | nil => rw [h] at ht; cases ht
    | cons x y => rfl
  have hk : isI w = false := by
    unfold isI atK
    rw [hd]
    rfl
  unfold sdS
  rw [h1 nulT (by rw [Lib.toList_data]; rfl), h1 trueT (by rw [Lib.toList_data]; rfl), h1 falseT (by rw [Lib.toList_data]; rfl), hk, hF.nil w hw]
  rfl
theorem obB_pr (hF : FOk f) {ob : Int → Int → Option ObR} (hob : ObBd s ob) (hp : ObPr s ob) {a deep l : Int} {d : Dat} {p l' : Int} (h0 : 0 ≤ a) (h1 : a ≤ s.size) (h : obB f s ob a deep l = some (d, p, l')) : a < p ∧ l + 1 - l' ≤ p - a := by
  have ht : ∀ (n : Int) (o : Option (List Dat × Int)), (∀ x b, o = some (x, b) → a < b) → txR n o l = some (d, p, l') → a < p ∧ l + 1 - l' ≤ p - a := fun n o ho e => by
    obtain ⟨⟨x, b⟩, hx, e⟩ := Option.map_eq_some_iff.1 e
    cases e
    have := ho x b hx
    exact ⟨this, by show l + 1 - l ≤ b - a; omega⟩
  unfold obB at h
  obtain ⟨hl, h⟩ := bif_some h
  cases c1 : isB s a 60 && isB s (a + 1) 60 <;> rw [c1] at h
  · cases c2 : isB s a 60 <;> rw [c2] at h
    · cases c3 : isB s a 40 <;> rw [c3] at h
      · cases c4 : isB s a 47 <;> rw [c4] at h
        · cases c5 : isB s a 91 <;> rw [c5] at h
          · have hw1 : a ≤ wdA s a := skA_ge _ _ _
            have hw2 : wdA s a ≤ s.size := skA_le _ _ _ h1
            have h : sdS f s (sub' s a (wdA s a)) (wdA s a) l = some (d, p, l') := h
            obtain ⟨e1, e2, e3⟩ := sdS_bd f (by omega) hw2 h
            have : a ≠ wdA s a := fun e => by
              rw [← e, sdS_nil hF (sub_nil s a)] at h
              cases h
            omega
          · have := isB_lt c5
            have h : arR s ob (a + 1) deep l = some (d, p, l') := h
            unfold arR at h
            obtain ⟨_, h⟩ := bif_some h
            obtain ⟨b1, b2⟩ := blA_bd (s := s) (a := a + 1) (by omega)
            have := arP_pr hob hp _ _ _ _ _ _ _ (by omega) b2 h
            omega
        · have := isB_lt c4
          exact ht 4 _ (fun x b e => by have := nmP_bd s _ _ _ _ _ (by omega) e; omega) h
      · exact ht 5 _ (fun x b e => by have := quP_bd s _ _ _ _ _ _ e; omega) h
    · exact ht 5 _ (fun x b e => by have := hxP_bd s _ _ _ _ _ e; omega) h
  · rw [Bool.and_eq_true] at c1
    have := isB_lt c1.2
    have h : dcR s ob (a + 2) deep l = some (d, p, l') := h
    unfold dcR at h
    obtain ⟨_, h⟩ := bif_some h
    obtain ⟨b1, b2⟩ := blA_bd (s := s) (a := a + 2) (by omega)
    have := dcP_pr hob hp _ _ _ _ _ _ _ _ (by omega) b2 h
    omega
theorem obP_pr (hF : FOk f) : ∀ (k : Nat) (deep : Int), ObPr s fun a l => obP f s k a deep l
  | 0, deep => fun a l d p l' _ _ h => by cases h
  | k + 1, deep => fun a l d p l' h0 h1 h => by
    have h : obB f s (fun a l => obP f s k a (deep - 1) l) a deep (l - 1) = some (d, p, l') := h
    have := obB_pr hF (obP_bd f s k (deep - 1)) (obP_pr hF k (deep - 1)) h0 h1 h
    omega
end
end Go.Proofs.YtckdgcpomkefpaaGreatDoor.En
end
section
set_option linter.unusedVariables false
set_option linter.unusedSimpArgs false
set_option maxRecDepth 100000
namespace Go.Proofs.YtckdgcpomkefpaaGreatDoor.En
open Go
section
variable {f : ByteArray → Bool × Int} {s : ByteArray}
theorem isB_eq {a c : Int} (h : a < s.size) : isB s a c = (bt s a == c) := by
  unfold isB
  rw [decide_eq_true h]
  rfl
theorem obP_succ (f : ByteArray → Bool × Int) (s : ByteArray) (k : Nat) (a deep l : Int) : obP f s (k + 1) a deep l = obB f s (fun a l => obP f s k a (deep - 1) l) a deep (l - 1) := rfl
end
end Go.Proofs.YtckdgcpomkefpaaGreatDoor.En
end
section
set_option linter.unusedVariables false
set_option linter.unusedSimpArgs false
set_option maxRecDepth 100000
namespace Go.Proofs.YtckdgcpomkefpaaGreatDoor.En
open Go
section
variable {f : ByteArray → Bool × Int} {s : ByteArray}
theorem obB_name {ob : Int → Int → Option ObR} {a deep l : Int} (hlt : a < s.size) (hl : 0 ≤ l) (e : bt s a = 47) : obB f s ob a deep l = txR 4 (nmA s (a + 1)) l := by
  unfold obB
  rw [decide_eq_true (p := l ≥ 0) hl, isB_eq (c := 60) hlt, isB_eq (c := 40) hlt, isB_eq (c := 47) hlt, isB_eq (c := 91) hlt, e]
  simp only [show ((47 : Int) == 60) = false from rfl, show ((47 : Int) == 40) = false from rfl, show ((47 : Int) == 47) = true from rfl, show ((47 : Int) == 91) = false from rfl, Bool.false_and, Bool.true_and, cond_true, cond_false]
theorem obB_text {ob : Int → Int → Option ObR} {a deep l : Int} (hlt : a < s.size) (hl : 0 ≤ l) (e : bt s a = 40) : obB f s ob a deep l = txR 5 (txA s (a + 1)) l := by
  unfold obB
  rw [decide_eq_true (p := l ≥ 0) hl, isB_eq (c := 60) hlt, isB_eq (c := 40) hlt, isB_eq (c := 47) hlt, isB_eq (c := 91) hlt, e]
  simp only [show ((40 : Int) == 60) = false from rfl, show ((40 : Int) == 40) = true from rfl, show ((40 : Int) == 47) = false from rfl, show ((40 : Int) == 91) = false from rfl, Bool.false_and, Bool.true_and, cond_true, cond_false]
theorem obB_list {ob : Int → Int → Option ObR} {a deep l : Int} (hlt : a < s.size) (hl : 0 ≤ l) (e : bt s a = 91) : obB f s ob a deep l = arR s ob (a + 1) deep l := by
  unfold obB
  rw [decide_eq_true (p := l ≥ 0) hl, isB_eq (c := 60) hlt, isB_eq (c := 40) hlt, isB_eq (c := 47) hlt, isB_eq (c := 91) hlt, e]
  simp only [show ((91 : Int) == 60) = false from rfl, show ((91 : Int) == 40) = false from rfl, show ((91 : Int) == 47) = false from rfl, show ((91 : Int) == 91) = true from rfl, Bool.false_and, Bool.true_and, cond_true, cond_false]
theorem obB_dict {ob : Int → Int → Option ObR} {a deep l : Int} (hlt : a < s.size) (hl : 0 ≤ l) (e : bt s a = 60) (e2 : isB s (a + 1) 60 = true) : obB f s ob a deep l = dcR s ob (a + 2) deep l := by
  unfold obB
  rw [decide_eq_true (p := l ≥ 0) hl, isB_eq (c := 60) hlt, isB_eq (c := 40) hlt, isB_eq (c := 47) hlt, isB_eq (c := 91) hlt, e]
  simp only [e2, show ((60 : Int) == 60) = true from rfl, show ((60 : Int) == 40) = false from rfl, show ((60 : Int) == 47) = false from rfl, show ((60 : Int) == 91) = false from rfl, Bool.false_and, Bool.true_and, cond_true, cond_false]
theorem obB_hex {ob : Int → Int → Option ObR} {a deep l : Int} (hlt : a < s.size) (hl : 0 ≤ l) (e : bt s a = 60) (e2 : isB s (a + 1) 60 = false) : obB f s ob a deep l = txR 5 (hxA s (a + 1)) l := by
  unfold obB
  rw [decide_eq_true (p := l ≥ 0) hl, isB_eq (c := 60) hlt, isB_eq (c := 40) hlt, isB_eq (c := 47) hlt, isB_eq (c := 91) hlt, e]
  simp only [e2, show ((60 : Int) == 60) = true from rfl, show ((60 : Int) == 40) = false from rfl, show ((60 : Int) == 47) = false from rfl, show ((60 : Int) == 91) = false from rfl, Bool.false_and, Bool.true_and, cond_true, cond_false]
theorem obB_atom {ob : Int → Int → Option ObR} {a deep l : Int} (hlt : a < s.size) (hl : 0 ≤ l) (e1 : (bt s a == 47) = false) (e2 : (bt s a == 40) = false) (e3 : (bt s a == 91) = false) (e4 : (bt s a == 60) = false) : obB f s ob a deep l = sdS f s (sub' s a (wdA s a)) (wdA s a) l := by
  unfold obB
  rw [decide_eq_true (p := l ≥ 0) hl, isB_eq (c := 60) hlt, isB_eq (c := 40) hlt, isB_eq (c := 47) hlt, isB_eq (c := 91) hlt]
  simp only [e1, e2, e3, e4, Bool.false_and, Bool.true_and, cond_true, cond_false]
theorem good_mk (d : Dat) : (ogO 101 (nrm d) 32 65536).1 = decide (goodO 101 (nrm d) 0 0 > 0) := Good_eq
end
end Go.Proofs.YtckdgcpomkefpaaGreatDoor.En
end
section
set_option linter.unusedVariables false
set_option linter.unusedSimpArgs false
set_option maxRecDepth 100000
namespace Go.Proofs.YtckdgcpomkefpaaGreatDoor.En
open Go
def valF : Nat → List UInt8 → Nat
  | n, [] => n
  | n, c :: r => valF (n * 10 + (c.toNat - 48)) r
def digC (c : UInt8) : Prop := 48 ≤ c.toNat ∧ c.toNat ≤ 57
theorem valF_le : ∀ (l : List UInt8) (n : Nat), n ≤ valF n l
  | [], n => Nat.le_refl _
  | c :: r, n => by
    have := valF_le r (n * 10 + (c.toNat - 48))
    unfold valF
    omega
theorem valF_app : ∀ (l m : List UInt8) (n : Nat), valF n (l ++ m) = valF (valF n l) m
  | [], m, n => rfl
  | c :: r, m, n => valF_app r m _
theorem parse_val : ∀ (l : List UInt8) (n : Nat), (∀ c ∈ l, digC c) → valF n l < 18446744073709551616 → Lib.parseUint10 n l = .ok (valF n l)
  | [], n, _, _ => rfl
  | c :: r, n, h, hv => by
    have hc := h c (by simp)
    have h2 := valF_le r (n * 10 + (c.toNat - 48))
    have hv : valF (n * 10 + (c.toNat - 48)) r < 18446744073709551616 := hv
    unfold digC at hc
    unfold Lib.parseUint10
    rw [if_pos hc, if_neg (by omega), if_neg (by omega), parse_val r _ (fun x hx => h x (by simp [hx])) hv]
    rfl
theorem mag_val {l : List UInt8} (hl : l ≠ []) (h : ∀ c ∈ l, digC c) (hv : valF 0 l < 18446744073709551616) : Lib.parseMag l = .ok (valF 0 l) := by
  unfold Lib.parseMag
  rw [if_neg hl, parse_val l 0 h hv]
theorem digit_nat {u : Nat} (h : u < 10) : (UInt8.ofNat (48 + u)).toNat = 48 + u := by
  have : ∀ u : Fin 10, (UInt8.ofNat (48 + u.val)).toNat = 48 + u.val := by decide
  exact this ⟨u, h⟩
theorem dec_all (u : Nat) : (∀ c ∈ Lib.decDigits u, digC c) ∧ valF 0 (Lib.decDigits u) = u ∧ Lib.decDigits u ≠ [] ∧ (1 ≤ u → (Lib.decDigits u).head? ≠ some 48) := by
  induction u using Nat.strongRecOn with
  | _ u ih =>
    rw [Lib.decDigits]
    by_cases h : u < 10
    · rw [dif_pos h]
      have e := digit_nat h
      refine ⟨fun c hc => ?_, ?_, by simp, fun hu => ?_⟩
      · rw [List.mem_singleton] at hc
        subst hc
        exact ⟨by omega, by omega⟩
      · show 0 * 10 + ((UInt8.ofNat (48 + u)).toNat - 48) = u
        rw [e]
        omega
      · rw [List.head?_cons]
        intro hq
        injection hq with hq
        rw [hq] at e
        have : (48 : UInt8).toNat = 48 := rfl
        omega
    · rw [dif_neg h]
      obtain ⟨h1, h2, h3, h4⟩ := ih (u / 10) (by omega)
      have e := digit_nat (u := u % 10) (by omega)
      refine ⟨fun c hc => ?_, ?_, by simp, fun hu => ?_⟩
      · rw [List.mem_append] at hc
        rcases hc with hc | hc
        · exact h1 c hc
        · rw [List.mem_singleton] at hc
          subst hc
          exact ⟨by omega, by omega⟩
      · rw [valF_app, h2]
        show u / 10 * 10 + ((UInt8.ofNat (48 + u % 10)).toNat - 48) = u
        rw [e]
        omega
      · have h4 := h4 (by omega)
        generalize Lib.decDigits (u / 10) = l at h3 h4
        cases l with
        | nil => exact (h3 rfl).elim
        | cons x y => exact h4
theorem isT_itT {w : ByteArray} {v : Int} (h0 : -9223372036854775808 ≤ v) (h1 : v ≤ 9223372036854775807) : isT (itT v) w = decide (Lib.itoa v = w.data.toList) := by
  unfold isT itT
  rw [Lib.toList_data, Lib.toList_data, itoaF_eq h0 h1, Bool.eq_iff_iff, beq_iff_eq, decide_eq_true_iff]
theorem plain_head {c : UInt8} {r : List UInt8} (h : digC c) : Lib.atoiAll (c :: r) = Lib.signless (Lib.parseMag (c :: r)) := by
  unfold digC at h
  exact Lib.atoiAll_plain c r (by omega) (by omega)
theorem inB_bd {n : Int} (h : inB n = true) : -1099511627776 ≤ n ∧ n ≤ 1099511627776 := by
  unfold inB at h
  simpa only [Bool.and_eq_true, decide_eq_true_eq] using h
end Go.Proofs.YtckdgcpomkefpaaGreatDoor.En
end
section
set_option linter.unusedVariables false
set_option linter.unusedSimpArgs false
set_option maxRecDepth 100000
namespace Go.Proofs.YtckdgcpomkefpaaGreatDoor.En
open Go
noncomputable def wbC (ext : CallF) : CallF := addF 71 wbE ext
noncomputable def txS (call : CallF) (m r : Nat) (l : List Dat) (s : ByteArray) (t : Bool) (i : Int) := loopF PR TK call m 70 [some (bu l), none] [true, false, true] r (sp 84 [(0, .box 0 0), (1, S s), (4, B t), (10, I s.size), (11, I i)] [(0, bu l)])
noncomputable def txH (call : CallF) (m r : Nat) (l : List Dat) (s : ByteArray) (i : Int) := loopF PR TK call m 70 [some (bu l), none] [true, true, false, true, false, true, false, true] r (sp 84 [(0, .box 0 0), (1, S s), (33, I s.size), (34, I i)] [(0, bu l)])
noncomputable def txP (call : CallF) (m r : Nat) (l : List Dat) (s : ByteArray) (i : Int) := loopF PR TK call m 70 [some (bu l), none] [true, true, true, true, false, true] r (sp 84 [(0, .box 0 0), (1, S s), (57, I s.size), (58, I i)] [(0, bu l)])
theorem otx_0 (ext : CallF) (m : Nat) (l : List Dat) (s : ByteArray) : evFn PR TK (wbC ext) m 70 [.box 0 0, S s] [some (bu l), none] = txS (wbC ext) m m l s true 0 := by kernel_rfl
theorem otx_1 (ext : CallF) (m r : Nat) (l : List Dat) (s : ByteArray) (t : Bool) (i : Int) : txS (wbC ext) m (r + 1) l s t i =
  bif decide (i < s.size) then
    andO t (bif okI s i then some (decide (32 ≤ bt s i)) else none) fun t => andO t (bif okI s i then some (decide (bt s i ≤ 126)) else none) fun t => txS (wbC ext) m r l s t (W (i + 1))
  else bif !t then (bif Nat.ble (l.length + 1) fitsN then txH (wbC ext) m m (l ++ [.int 60]) s 0 else none) else (bif Nat.ble (l.length + 1) fitsN then txP (wbC ext) m m (l ++ [.int 40]) s 0 else none) := by kernel_rfl
theorem otx_2 (ext : CallF) (m r : Nat) (l : List Dat) (s : ByteArray) (i : Int) : txH (wbC ext) m (r + 1) l s i =
  bif decide (i < s.size) then
    (bif okI s i then (bif okI figs (hi4 (bt s i)) then
      (bif Nat.ble (l.length + 1) fitsN then (bif okI s i then (bif okI figs (lo4 (bt s i)) then
          (bif Nat.ble ((l ++ [Dat.int (bt figs (hi4 (bt s i)))]).length + 1) fitsN then txH (wbC ext) m r ((l ++ [Dat.int (bt figs (hi4 (bt s i)))]) ++ [Dat.int (bt figs (lo4 (bt s i)))]) s (W (i + 1)) else none) else none) else none) else none) else none) else none)
  else bif Nat.ble (l.length + 1) fitsN then tR0 (l ++ [.int 62]) else none := by kernel_rfl
theorem otx_3 (ext : CallF) (m r : Nat) (l : List Dat) (s : ByteArray) (i : Int) : txP (wbC ext) m (r + 1) l s i =
  bif decide (i < s.size) then
    (bif okI s i then orK (bt s i == 40) (bt s i == 41) fun t => orK t (bt s i == 92) fun t =>
      bif t then (bif Nat.ble (l.length + 1) fitsN then (bif okI s i then
        (bif Nat.ble ((l ++ [Dat.int 92]).length + 1) fitsN then txP (wbC ext) m r ((l ++ [Dat.int 92]) ++ [Dat.int (bt s i)]) s (W (i + 1)) else none) else none) else none)
      else (bif okI s i then (bif Nat.ble (l.length + 1) fitsN then txP (wbC ext) m r (l ++ [Dat.int (bt s i)]) s (W (i + 1)) else none) else none) else none)
  else bif Nat.ble (l.length + 1) fitsN then tR0 (l ++ [.int 41]) else none := by kernel_rfl
end Go.Proofs.YtckdgcpomkefpaaGreatDoor.En
end
section
set_option linter.unusedVariables false
set_option linter.unusedSimpArgs false
set_option maxRecDepth 100000
namespace Go.Proofs.YtckdgcpomkefpaaGreatDoor.En
open Go
def shB (b : UInt8) : Bool := decide (32 ≤ (b.toNat : Int)) && decide ((b.toNat : Int) ≤ 126)
def escP (b : UInt8) : List Dat := bif ((b.toNat : Int) == 40 || (b.toNat : Int) == 41) || (b.toNat : Int) == 92 then [Dat.int 92, Dat.int b.toNat] else [Dat.int b.toNat]
def hex2 (b : UInt8) : List Dat := [Dat.int (bt figs (hi4 b.toNat)), Dat.int (bt figs (lo4 b.toNat))]
def hexT (s : ByteArray) : List Dat := (Dat.int 60 :: s.data.toList.flatMap hex2) ++ [Dat.int 62]
def parT (s : ByteArray) : List Dat := (Dat.int 40 :: s.data.toList.flatMap escP) ++ [Dat.int 41]
def txtT (s : ByteArray) : List Dat := bif s.data.toList.all shB then parT s else hexT s
theorem escP_len (b : UInt8) : (escP b).length ≤ 2 := by unfold escP; cases (((b.toNat : Int) == 40 || (b.toNat : Int) == 41) || (b.toNat : Int) == 92) <;> simp
theorem hex2_len (b : UInt8) : (hex2 b).length = 2 := rfl
theorem nat_succ_cast (i : Nat) : ((i + 1 : Nat) : Int) = (i : Int) + 1 := by omega
theorem txH_loop {ext : CallF} {m : Nat} {s : ByteArray} (hf : s.size ≤ 140737488355328) : ∀ (n i r : Nat) (l : List Dat), i + n = s.data.toList.length → n < r → l.length + 2 * n + 1 ≤ 1099511627000 → txH (wbC ext) m r l s (i : Int) = tR0 ((l ++ (s.data.toList.drop i).flatMap hex2) ++ [Dat.int 62]) := by
  have hsz : s.data.toList.length = s.size := Array.length_toList
  intro n
  induction n with
  | zero =>
    intro i r l hi hr hl
    cases r with
    | zero => omega
    | succ r =>
      rw [otx_2, show decide ((i : Int) < s.size) = false from decide_eq_false (by omega), cond_false, List.drop_eq_nil_of_le (by omega), List.flatMap_nil, List.append_nil, fits_le (by omega), cond_true]
  | succ n ih =>
    intro i r l hi hr hl
    cases r with
    | zero => omega
    | succ r =>
      have h1 : i < s.data.toList.length := by omega
      have hbt := bt_nat s i h1
      obtain ⟨d1, d2, d3, d4⟩ := dig_ok s.data.toList[i]
      have ih' := fun l h => ih (i + 1) r l (by omega) (by omega) h
      rw [nat_succ_cast] at ih'
      rw [otx_2, show decide ((i : Int) < s.size) = true from decide_eq_true (by omega), cond_true, okI_nat (s := s) (i := i) (by omega), cond_true, hbt, d1, cond_true, fits_le (by omega), cond_true, cond_true, d2, cond_true, fits_le (by simp; omega), cond_true, W_in (n := (i : Int) + 1) (by omega), ih' _ (by simp; omega), List.drop_eq_getElem_cons h1, List.flatMap_cons]
      simp [hex2]
theorem txP_loop {ext : CallF} {m : Nat} {s : ByteArray} (hf : s.size ≤ 140737488355328) : ∀ (n i r : Nat) (l : List Dat), i + n = s.data.toList.length → n < r → l.length + 2 * n + 1 ≤ 1099511627000 → txP (wbC ext) m r l s (i : Int) = tR0 ((l ++ (s.data.toList.drop i).flatMap escP) ++ [Dat.int 41]) := by
  have hsz : s.data.toList.length = s.size := Array.length_toList
  intro n
  induction n with
  | zero =>
    intro i r l hi hr hl
    cases r with
    | zero => omega
    | succ r =>
      rw [otx_3, show decide ((i : Int) < s.size) = false from decide_eq_false (by omega), cond_false, List.drop_eq_nil_of_le (by omega), List.flatMap_nil, List.append_nil, fits_le (by omega), cond_true]
  | succ n ih =>
    intro i r l hi hr hl
    cases r with
    | zero => omega
    | succ r =>
      have h1 : i < s.data.toList.length := by omega
      have hbt := bt_nat s i h1
      have ih' := fun l h => ih (i + 1) r l (by omega) (by omega) h
      rw [nat_succ_cast] at ih'
      rw [otx_3, show decide ((i : Int) < s.size) = true from decide_eq_true (by omega), cond_true, okI_nat (s := s) (i := i) (by omega), cond_true, hbt, orK_eq, orK_eq, W_in (n := (i : Int) + 1) (by omega), List.drop_eq_getElem_cons h1, List.flatMap_cons,
        show escP s.data.toList[i] = bif ((s.data.toList[i].toNat : Int) == 40 || (s.data.toList[i].toNat : Int) == 41) || (s.data.toList[i].toNat : Int) == 92 then [Dat.int 92, Dat.int s.data.toList[i].toNat] else [Dat.int s.data.toList[i].toNat] from rfl]
      cases (((s.data.toList[i].toNat : Int) == 40 || (s.data.toList[i].toNat : Int) == 41) || (s.data.toList[i].toNat : Int) == 92)
      · rw [cond_false, cond_true, fits_le (by omega), cond_true, ih' _ (by simp; omega), cond_false]
        simp
      · rw [cond_true, fits_le (by omega), cond_true, cond_true, fits_le (by simp; omega), cond_true, ih' _ (by simp; omega), cond_true]
        simp
theorem txS_loop {ext : CallF} {m : Nat} {s : ByteArray} (hf : s.size ≤ 140737488355328) (l : List Dat) (hl : l.length ≤ 1099511626000) : ∀ (n i r : Nat) (t : Bool), i + n = s.data.toList.length → n < r → txS (wbC ext) m r l s t (i : Int) =
    bif t && (s.data.toList.drop i).all shB then txP (wbC ext) m m (l ++ [.int 40]) s 0 else txH (wbC ext) m m (l ++ [.int 60]) s 0 := by
  have hsz : s.data.toList.length = s.size := Array.length_toList
  intro n
  induction n with
  | zero =>
    intro i r t hi hr
    cases r with
    | zero => omega
    | succ r =>
      rw [otx_1, show decide ((i : Int) < s.size) = false from decide_eq_false (by omega), cond_false, List.drop_eq_nil_of_le (by omega), List.all_nil, Bool.and_true, fits_le (by omega)]
      cases t
      · rw [show (!false) = true from rfl, cond_true, cond_true, cond_false]
      · rw [show (!true) = false from rfl, cond_false, cond_true, cond_true]
  | succ n ih =>
    intro i r t hi hr
    cases r with
    | zero => omega
    | succ r =>
      have h1 : i < s.data.toList.length := by omega
      have hbt := bt_nat s i h1
      have ih' := fun t => ih (i + 1) r t (by omega) (by omega)
      rw [nat_succ_cast] at ih'
      rw [otx_1, show decide ((i : Int) < s.size) = true from decide_eq_true (by omega), cond_true, okI_nat (s := s) (i := i) (by omega), cond_true, cond_true, hbt, andO_eq, andO_eq, W_in (n := (i : Int) + 1) (by omega), ih', List.drop_eq_getElem_cons h1, List.all_cons,
        show shB s.data.toList[i] = (decide (32 ≤ (s.data.toList[i].toNat : Int)) && decide ((s.data.toList[i].toNat : Int) ≤ 126)) from rfl, Bool.and_assoc, Bool.and_assoc, Bool.and_assoc]
def txtE : List AV → Bx → Option (Bool × Out)
  | [.box 0 0, .v (.string s)], [some [.self T, .row (some m) E l], none] => bif isBu T m E then some (nmOk s l.length, .ret (.tup []) [some (bu (l ++ txtT s)), none]) else none
  | _, _ => none
theorem text_sound {ext : CallF} (hext : SoundCall PR ext) : SoundCall PR (addF 70 txtE ext) := by
  refine sound_both (sound_add (takes := TK) hmixP (wb_sound sound_none) _ (fn := (PR.funcs[70]?).getD default) (by kernel_rfl) (by kernel_rfl) txtE fun xs bs out h => ?_) hext
  unfold txtE at h
  split at h
  · rename_i s T mm E l
    obtain ⟨hc, h⟩ := bif_some h
    injection h with h
    injection h with h1 h2
    obtain ⟨rfl, rfl, rfl⟩ := isBu_eq hc
    subst h2
    unfold nmOk at h1
    rw [Bool.and_eq_true] at h1
    have b1 := Nat.le_of_ble_eq_true h1.1
    have b2 := Nat.le_of_ble_eq_true h1.2
    have hsz : s.data.toList.length = s.size := Array.length_toList
    refine ⟨s.size + 1, (otx_0 _ _ _ _).trans ?_⟩
    have e := txS_loop (ext := fun _ _ _ => none) (m := s.size + 1) (s := s) (by omega) l (by omega) s.data.toList.length 0 (s.size + 1) true (by omega) (by omega)
    have e1 := txP_loop (ext := fun _ _ _ => none) (m := s.size + 1) (s := s) (by omega) s.data.toList.length 0 (s.size + 1) (l ++ [Dat.int 40]) (by omega) (by omega) (by simp; omega)
    have e2 := txH_loop (ext := fun _ _ _ => none) (m := s.size + 1) (s := s) (by omega) s.data.toList.length 0 (s.size + 1) (l ++ [Dat.int 60]) (by omega) (by omega) (by simp; omega)
    rw [List.drop_zero, show ((0 : Nat) : Int) = 0 from rfl] at e e1 e2
    rw [e, e1, e2, Bool.true_and]
    unfold txtT
    cases s.data.toList.all shB
    · rw [cond_false, cond_false]; unfold hexT; simp [tR0]
    · rw [cond_true, cond_true]; unfold parT; simp [tR0]
  · cases h
end Go.Proofs.YtckdgcpomkefpaaGreatDoor.En
end
section
namespace Go.Proofs.YtckdgcpomkefpaaGreatDoor.En
open Go
set_option linter.unusedVariables false
set_option linter.unusedSimpArgs false
def val (l : List Nat) : Nat := l.foldl (fun n d => 10 * n + d) 0
theorem val_from (l : List Nat) : ∀ n, l.foldl (fun n d => 10 * n + d) n = n * 10 ^ l.length + val l := by
  induction l with
  | nil => intro n; simp [val]
  | cons a l ih =>
    intro n
    simp only [List.foldl_cons, List.length_cons, val]
    rw [ih, ih (10 * 0 + a), Nat.pow_succ]
    have : (10 * n + a) * 10 ^ l.length = n * (10 ^ l.length * 10) + a * 10 ^ l.length := by
      rw [Nat.add_mul]; congr 1
      rw [Nat.mul_comm 10 n, Nat.mul_assoc, Nat.mul_comm 10]
    rw [this]; simp; omega
theorem val_cons (a : Nat) (l : List Nat) : val (a :: l) = a * 10 ^ l.length + val l := by
  show l.foldl _ (10 * 0 + a) = _
  rw [val_from]; simp
theorem val_snoc (l : List Nat) (a : Nat) : val (l ++ [a]) = 10 * val l + a := by simp [val]
theorem val_lt : ∀ l : List Nat, (∀ d ∈ l, d < 10) → val l < 10 ^ l.length
  | [], _ => by simp [val]
  | a :: l, h => by
    have h1 := val_lt l (fun d hd => h d (List.mem_cons_of_mem _ hd))
    have h2 := h a List.mem_cons_self
    rw [val_cons, List.length_cons, Nat.pow_succ]
    have : a * 10 ^ l.length ≤ 9 * 10 ^ l.length := Nat.mul_le_mul_right _ (by omega)
    omega
theorem val_inj : ∀ a b : List Nat, a.length = b.length → (∀ d ∈ a, d < 10) → (∀ d ∈ b, d < 10) → val a = val b → a = b
  | [], [], _, _, _, _ => rfl
  | [], _ :: _, h, _, _, _ => by simp at h
  | _ :: _, [], h, _, _, _ => by simp at h
  | x :: a, y :: b, hl, ha, hb, hv => by
    have hl' : a.length = b.length := by simpa using hl
    have h1 := val_lt a (fun d hd => ha d (List.mem_cons_of_mem _ hd))
    have h2 := val_lt b (fun d hd => hb d (List.mem_cons_of_mem _ hd))
    rw [val_cons, val_cons, hl'] at hv
    rw [hl'] at h1
    have hxy : x = y := by
      have e1 : (x * 10 ^ b.length + val a) / 10 ^ b.length = x := by
        rw [Nat.mul_comm, Nat.mul_add_div (Nat.pow_pos (by omega)), Nat.div_eq_of_lt h1]; rfl
      have e2 : (y * 10 ^ b.length + val b) / 10 ^ b.length = y := by
        rw [Nat.mul_comm, Nat.mul_add_div (Nat.pow_pos (by omega)), Nat.div_eq_of_lt h2]; rfl
      rw [← e1, ← e2, hv]
    subst hxy
    rw [val_inj a b hl' (fun d hd => ha d (List.mem_cons_of_mem _ hd)) (fun d hd => hb d (List.mem_cons_of_mem _ hd)) (by omega)]
theorem val_replicate (k : Nat) (l : List Nat) : val (List.replicate k 0 ++ l) = val l := by
  induction k with
  | zero => simp
  | succ k ih => rw [List.replicate_succ, List.cons_append, val_cons, ih]; simp
def natDigits (u : Nat) : List Nat := if h : u < 10 then [u] else natDigits (u / 10) ++ [u % 10]
termination_by u
decreasing_by omega
theorem natDigits_small {u : Nat} (h : u < 10) : natDigits u = [u] := by rw [natDigits, dif_pos h]
theorem natDigits_big {u : Nat} (h : ¬ u < 10) : natDigits u = natDigits (u / 10) ++ [u % 10] := by rw [natDigits, dif_neg h]
theorem natDigits_digits (u : Nat) : ∀ d ∈ natDigits u, d < 10 := by
  induction u using Nat.strongRecOn with
  | _ u ih =>
    by_cases h : u < 10
    · rw [natDigits_small h]; simpa using h
    · rw [natDigits_big h]
      intro d hd
      rcases List.mem_append.1 hd with h1 | h1
      · exact ih (u / 10) (by omega) d h1
      · simp at h1; omega
theorem val_natDigits (u : Nat) : val (natDigits u) = u := by
  induction u using Nat.strongRecOn with
  | _ u ih =>
    by_cases h : u < 10
    · rw [natDigits_small h]; simp [val]
    · rw [natDigits_big h, val_snoc, ih (u / 10) (by omega)]; omega
theorem natDigits_pos (u : Nat) : 1 ≤ (natDigits u).length := by
  by_cases h : u < 10
  · rw [natDigits_small h]; simp
  · rw [natDigits_big h]; simp
theorem natDigits_length (k : Nat) : ∀ u, u < 10 ^ (k + 1) → (natDigits u).length ≤ k + 1 := by
  induction k with
  | zero => intro u h; rw [natDigits_small (by simpa using h)]; simp
  | succ k ih =>
    intro u h
    by_cases h1 : u < 10
    · rw [natDigits_small h1]; simp
    · rw [natDigits_big h1, List.length_append, List.length_singleton]
      have := ih (u / 10) (by rw [Nat.pow_succ] at h; omega)
      omega
def full : Nat → Nat → List Nat
  | 0, _ => []
  | k + 1, r => (r * 10 / 65536) :: full k (r * 10 % 65536)
def remk : Nat → Nat → Nat
  | 0, r => r
  | k + 1, r => remk k (r * 10 % 65536)
def fracD : Nat → Nat → List Nat
  | 0, _ => []
  | k + 1, r => if r = 0 then [] else (r * 10 / 65536) :: fracD k (r * 10 % 65536)
theorem full_length : ∀ k r, (full k r).length = k
  | 0, _ => rfl
  | k + 1, r => by simp [full, full_length k]
theorem full_digits : ∀ k r, r < 65536 → ∀ d ∈ full k r, d < 10
  | 0, _, _, d, h => by simp [full] at h
  | k + 1, r, hr, d, h => by
    simp only [full, List.mem_cons] at h
    rcases h with rfl | h
    · omega
    · exact full_digits k _ (Nat.mod_lt _ (by omega)) d h
theorem full_val : ∀ k r, r < 65536 → val (full k r) * 65536 + remk k r = r * 10 ^ k ∧ remk k r < 65536
  | 0, r, hr => by simp [full, remk, val, hr]
  | k + 1, r, hr => by
    obtain ⟨h1, h2⟩ := full_val k (r * 10 % 65536) (Nat.mod_lt _ (by omega))
    refine ⟨?_, h2⟩
    simp only [full, remk]
    rw [val_cons, full_length, Nat.add_mul, Nat.add_assoc, h1, Nat.pow_succ]
    have e : r * (10 ^ k * 10) = (r * 10) * 10 ^ k := by rw [Nat.mul_comm (10 ^ k) 10, Nat.mul_assoc]
    rw [e, Nat.mul_right_comm, ← Nat.add_mul, Nat.div_add_mod']
theorem fracD_zero (k : Nat) : fracD k 0 = [] := by cases k <;> simp [fracD]
theorem fracD_digits : ∀ k r, r < 65536 → ∀ d ∈ fracD k r, d < 10
  | 0, _, _, d, h => by simp [fracD] at h
  | k + 1, r, hr, d, h => by
    simp only [fracD] at h
    split at h
    · cases h
    · rcases List.mem_cons.1 h with rfl | h
      · omega
      · exact fracD_digits k _ (Nat.mod_lt _ (by omega)) d h
theorem fracD_length : ∀ k r, (fracD k r).length ≤ k
  | 0, _ => by simp [fracD]
  | k + 1, r => by
    simp only [fracD]
    split
    · simp
    · have := fracD_length k (r * 10 % 65536)
      simp; omega
def trimZ (l : List Nat) : List Nat := (l.reverse.dropWhile (· == 0)).reverse
theorem dropWhile_append_ {α : Type} (p : α → Bool) (a b : List α) : (a ++ b).dropWhile p = if a.dropWhile p = [] then b.dropWhile p else a.dropWhile p ++ b := by
  induction a with
  | nil => simp
  | cons x a ih =>
    simp only [List.cons_append, List.dropWhile_cons]
    split
    · exact ih
    · simp
theorem trimZ_cons (d : Nat) (l : List Nat) : trimZ (d :: l) = if trimZ l = [] ∧ d = 0 then [] else d :: trimZ l := by
  unfold trimZ
  rw [List.reverse_cons, dropWhile_append_]
  by_cases h : l.reverse.dropWhile (· == 0) = []
  · rw [if_pos h, h]
    by_cases hd : d = 0
    · subst hd; simp
    · simp [hd]
  · rw [if_neg h]
    simp [h]
theorem trimZ_full : ∀ k r, r < 65536 → remk k r = 0 → trimZ (full k r) = fracD k r
  | 0, _, _, _ => rfl
  | k + 1, r, hr, h => by
    have ih := trimZ_full k (r * 10 % 65536) (Nat.mod_lt _ (by omega)) h
    simp only [full, trimZ_cons, ih, fracD]
    by_cases h0 : r = 0
    · subst h0; simp [fracD_zero]
    · rw [if_neg h0, if_neg]
      rintro ⟨h1, h2⟩
      have h3 : r * 10 % 65536 = 0 := by
        cases k with
        | zero => simpa [remk] using h
        | succ k =>
          simp only [fracD] at h1
          split at h1
          · assumption
          · cases h1
      omega
theorem ten16 : (10 : Nat) ^ 16 = 152587890625 * 65536 := by decide
theorem rem_key (v m r : Nat) (h1 : v * 65536 + m = r * 10 ^ 16) (h2 : m < 65536) : m = 0 ∧ v = r * 152587890625 := by
  rw [ten16, ← Nat.mul_assoc] at h1
  obtain ⟨q, hq⟩ : ∃ q, q = r * 152587890625 := ⟨_, rfl⟩
  rw [← hq] at h1 ⊢
  omega
theorem rem16 (r : Nat) (hr : r < 65536) : remk 16 r = 0 ∧ val (full 16 r) = r * 152587890625 :=
  rem_key _ _ r (full_val 16 r hr).1 (full_val 16 r hr).2
theorem fracD_end : ∀ k r, r < 65536 → remk k r = 0 → r ≠ 0 → fracD k r ≠ []
  | 0, r, _, h, h0 => absurd h h0
  | k + 1, r, hr, h, h0 => by simp [fracD, h0]
theorem fracD_succ (k r : Nat) : fracD (k + 1) r = if r = 0 then [] else (r * 10 / 65536) :: fracD k (r * 10 % 65536) := rfl
theorem remk_succ (k r : Nat) : remk (k + 1) r = remk k (r * 10 % 65536) := rfl
theorem remk_zero (r : Nat) : remk 0 r = r := rfl
attribute [irreducible] full fracD remk
end Go.Proofs.YtckdgcpomkefpaaGreatDoor.En
end
section
set_option linter.unusedVariables false
set_option linter.unusedSimpArgs false
set_option maxRecDepth 100000
namespace Go.Proofs.YtckdgcpomkefpaaGreatDoor.En
open Go
def trimE : List AV → Bx → Option (Bool × Out)
  | [.v (.string s), .v (.string c)], [none, none] => (match c.data.toList with
    | [b] => some (Nat.blt b.toNat 128 && Nat.ble s.size 9223372036854775807, .ret (S ⟨(Lib.trimRightB s.data.toList b).toArray⟩) [none, none])
    | _ => none)
  | _, _ => none
theorem trim_sound {ext : CallF} (hext : SoundCall PR ext) : SoundCall PR (addF 98 trimE ext) := by
  refine sound_ext hext _ (fn := (PR.funcs[98]?).getD default) (by kernel_rfl) (by kernel_rfl) trimE fun xs bs out h g w vs hm hL hl hv hr => ?_
  unfold trimE at h
  split at h
  · rename_i s c
    split at h
    · rename_i b hb
      injection h with h
      injection h with hc h
      subst h
      rw [Bool.and_eq_true] at hc
      obtain rfl := args_v (P := PR) [.string s, .string c] hv hr
      have hc' : c = ⟨#[b]⟩ := by
        cases c with | mk d => cases d with | mk l => simp at hb; subst hb; rfl
      subst hc'
      refine (Tryz.strings_TrimRight_one s b (Nat.le_of_ble_eq_true hc.1) w (Nat.le_of_ble_eq_true hc.2)).mono fun e w' he => ?_
      obtain ⟨rfl, rfl⟩ := he
      exact post_v hm (by simp) rfl (Fr.refl _ _)
    · cases h
  · cases h
def repE : List AV → Bx → Option (Bool × Out)
  | [.v (.string s), .v (.int .i64 n)], [none, none] => some (decide (0 ≤ n) && (decide (n ≤ 9223372036854775807) && Nat.ble (s.size * n.toNat) 140737488355328), .ret (S ⟨(Lib.repeatL s.data.toList n.toNat).toArray⟩) [none, none])
  | _, _ => none
theorem rep_sound {ext : CallF} (hext : SoundCall PR ext) : SoundCall PR (addF 99 repE ext) := by
  refine sound_ext hext _ (fn := (PR.funcs[99]?).getD default) (by kernel_rfl) (by kernel_rfl) repE fun xs bs out h g w vs hm hL hl hv hr => ?_
  unfold repE at h
  split at h
  · rename_i s n
    injection h with h
    injection h with hc h
    subst h
    rw [Bool.and_eq_true, Bool.and_eq_true, decide_eq_true_eq, decide_eq_true_eq] at hc
    obtain ⟨c1, c2, c3⟩ := hc
    obtain rfl := args_v (P := PR) [.string s, .int .i64 n] hv hr
    have hn : ((n.toNat : Nat) : Int) = n := Int.toNat_of_nonneg c1
    have := Tryz.strings_Repeat s n.toNat w (by omega) (Nat.le_of_ble_eq_true c3)
    rw [hn] at this
    refine this.mono fun e w' he => ?_
    obtain ⟨rfl, hb⟩ := he
    exact post_v hm (by simp) rfl (Fr.of_below hb (Nat.le_refl _))
  · cases h
def fbE : List AV → Bx → Option (Bool × Out)
  | [.v (.bool b)], [none] => some (true, .ret (S (bif b then ⟨#[116, 114, 117, 101]⟩ else ⟨#[102, 97, 108, 115, 101]⟩)) [none])
  | _, _ => none
theorem fb_0 (call : CallF) (m : Nat) (b : Bool) : evFn PR TK call m 97 [B b] [none] = bif b then some (.ret (S ⟨#[116, 114, 117, 101]⟩) [none]) else some (.ret (S ⟨#[102, 97, 108, 115, 101]⟩) [none]) := by kernel_rfl
theorem fb_1 (ext : CallF) (m : Nat) (b : Bool) : evFn PR TK (addF 97 fbE ext) m 67 [B b] [none] = some (.ret (S (bif b then ⟨#[116, 114, 117, 101]⟩ else ⟨#[102, 97, 108, 115, 101]⟩)) [none]) := by kernel_rfl
theorem fb0_sound {ext : CallF} (hext : SoundCall PR ext) : SoundCall PR (addF 97 fbE ext) := by
  refine sound_add (takes := TK) hmixP hext _ (fn := (PR.funcs[97]?).getD default) (by kernel_rfl) (by kernel_rfl) fbE fun xs bs out h => ?_
  unfold fbE at h
  split at h
  · rename_i b
    cases h
    refine ⟨0, (fb_0 _ _ _).trans ?_⟩
    cases b <;> rfl
  · cases h
theorem fb_sound {ext : CallF} (hext : SoundCall PR ext) : SoundCall PR (addF 67 fbE ext) := by
  refine sound_both (sound_add (takes := TK) hmixP (fb0_sound sound_none) _ (fn := (PR.funcs[67]?).getD default) (by kernel_rfl) (by kernel_rfl) fbE fun xs bs out h => ?_) hext
  unfold fbE at h
  split at h
  · rename_i b
    cases h
    exact ⟨0, fb_1 _ _ _⟩
  · cases h
def itOk (n : Int) : Bool := decide (-9223372036854775808 ≤ n) && decide (n ≤ 9223372036854775807)
def itS (n : Int) : ByteArray := ⟨(itoaF n).toArray⟩
def glueO {β : Type} (a b : ByteArray) (k : ByteArray → Option β) : Option β := bif decide (a.size + b.size ≤ 4611686018427387904) then k (a ++ b) else none
def sh16 (x : Int) : Int := x.fdiv (2 ^ (min (16 : Int).toNat IntKind.i64.bits))
def an16 (x : Int) : Int := IntKind.i64.wrap (BitVec.ofInt IntKind.i64.bits x &&& BitVec.ofInt IntKind.i64.bits 65535).toNat
def repOk (n : Int) : Bool := decide (0 ≤ n) && (decide (n ≤ 9223372036854775807) && Nat.ble (1 * n.toNat) 140737488355328)
def zeros (n : Int) : ByteArray := ⟨(Lib.repeatL [48] n.toNat).toArray⟩
def cut0 (s : ByteArray) : ByteArray := ⟨(Lib.trimRightB s.data.toList 48).toArray⟩
noncomputable def dgC (ext : CallF) : CallF := addF 62 inE (addF 58 itoaE (addF 99 repE (addF 98 trimE ext)))
def dR (s : ByteArray) (b : Bool) : Option Out := some (.ret (.tup [S s, B b]) [none])
noncomputable def dgK (sg : ByteArray) (x : Int) : Option Out :=
  bif itOk (sh16 x) then glueO sg (itS (sh16 x)) fun s =>
    bif an16 x != 0 then (bif itOk (W (an16 x * 152587890625)) then
      (bif repOk (W (16 - (itS (W (an16 x * 152587890625))).size)) then glueO (zeros (W (16 - (itS (W (an16 x * 152587890625))).size))) (itS (W (an16 x * 152587890625))) fun t =>
        (bif Nat.ble t.size 9223372036854775807 then glueO ⟨#[46]⟩ (cut0 t) fun u => glueO s u fun v => dR v true else none) else none) else none)
    else dR s true else none
theorem dg_0 (ext : CallF) (m : Nat) (x : Int) : evFn PR TK (dgC ext) m 68 [I x] [none] =
  bif !inB x then dR ⟨#[]⟩ false else bif decide (x < 0) then dgK ⟨#[45]⟩ (W (0 - x)) else dgK ⟨#[]⟩ x := by kernel_rfl
end Go.Proofs.YtckdgcpomkefpaaGreatDoor.En
end
section
set_option linter.unusedVariables false
set_option linter.unusedSimpArgs false
set_option maxRecDepth 100000
namespace Go.Proofs.YtckdgcpomkefpaaGreatDoor.En
open Go
def bs (l : List UInt8) : ByteArray := ⟨l.toArray⟩
theorem bs_size (l : List UInt8) : (bs l).size = l.length := by simp [bs, ByteArray.size]
def asU (l : List Nat) : List UInt8 := l.map fun d => UInt8.ofNat (48 + d)
theorem asU_append (a b : List Nat) : asU (a ++ b) = asU a ++ asU b := by simp [asU]
theorem asU_length (a : List Nat) : (asU a).length = a.length := by simp [asU]
theorem ba_inj {a b : ByteArray} (h : a.data.toList = b.data.toList) : a = b := by
  cases a; cases b; simp only [Array.toList_inj] at h; subst h; rfl
theorem bs_append (a b : List UInt8) : bs a ++ bs b = bs (a ++ b) := ba_inj (by
  show (bs a ++ bs b).data.toList = _
  rw [ByteArray.data_append, Array.toList_append]; rfl)
theorem bs_data (s : ByteArray) : bs s.data.toList = s := ba_inj rfl
theorem decDigits_asU (u : Nat) : Lib.decDigits u = asU (natDigits u) := by
  induction u using Nat.strongRecOn with
  | _ u ih =>
    rw [Lib.decDigits]
    by_cases h : u < 10
    · rw [dif_pos h, natDigits_small h]; rfl
    · rw [dif_neg h, natDigits_big h, asU_append, ih (u / 10) (by omega)]; rfl
theorem itS_nat (u : Nat) (h : u ≤ 9223372036854775807) : itS (u : Int) = bs (asU (natDigits u)) := by
  unfold itS
  rw [itoaF_eq (by omega) (by omega), Lib.itoa_nonneg, decDigits_asU]; rfl
theorem itOk_nat {u : Nat} (h : u ≤ 9223372036854775807) : itOk (u : Int) = true := by
  unfold itOk
  rw [decide_eq_true (by omega), decide_eq_true (by omega)]; rfl
theorem glueO_eq {β : Type} {a b : ByteArray} (k : ByteArray → Option β) (h : a.size + b.size ≤ 4611686018427387904) : glueO a b k = k (a ++ b) := by
  unfold glueO
  rw [decide_eq_true h]; rfl
theorem glue_bs {β : Type} {a b : List UInt8} (k : ByteArray → Option β) (h : a.length + b.length ≤ 1000000) : glueO (bs a) (bs b) k = k (bs (a ++ b)) := by
  rw [glueO_eq _ (by rw [bs_size, bs_size]; omega), bs_append]
theorem sh16_nat (u : Nat) : sh16 (u : Int) = ((u / 65536 : Nat) : Int) := by
  unfold sh16
  rw [show (2 : Int) ^ (min (16 : Int).toNat IntKind.i64.bits) = 65536 from rfl, Int.fdiv_eq_ediv_of_nonneg _ (by omega)]
  omega
theorem an16_nat (u : Nat) (h : u < 4611686018427387904) : an16 (u : Int) = ((u % 65536 : Nat) : Int) := by
  unfold an16
  have e : (BitVec.ofInt IntKind.i64.bits (u : Int) &&& BitVec.ofInt IntKind.i64.bits 65535).toNat = u % 65536 := by
    rw [BitVec.toNat_and, BitVec.toNat_ofInt, BitVec.toNat_ofInt]
    have e1 : ((u : Int) % ((2 ^ IntKind.i64.bits : Nat) : Int)).toNat = u := by
      show ((u : Int) % 18446744073709551616).toNat = u
      omega
    have e2 : ((65535 : Int) % ((2 ^ IntKind.i64.bits : Nat) : Int)).toNat = 2 ^ 16 - 1 := rfl
    rw [e1, e2, Nat.and_two_pow_sub_one_eq_mod]
  rw [e]
  exact IntWalk.i64_in _ (by omega)
def textBody (u : Nat) : List UInt8 := asU (natDigits (u / 65536)) ++ if u % 65536 = 0 then [] else 46 :: asU (fracD 16 (u % 65536))
def fixT (x : Int) : ByteArray := bs ((if x < 0 then [45] else []) ++ textBody x.natAbs)
theorem trimRight_asU (l : List Nat) (h : ∀ d ∈ l, d < 10) : Lib.trimRightB (asU l) 48 = asU (trimZ l) := by
  unfold Lib.trimRightB trimZ asU
  rw [← List.map_reverse]
  have h' : ∀ d ∈ l.reverse, d < 10 := fun d hd => h d (List.mem_reverse.1 hd)
  generalize l.reverse = m at h' ⊢
  rw [List.map_reverse]
  congr 1
  induction m with
  | nil => rfl
  | cons a m ih =>
    have ha := h' a List.mem_cons_self
    simp only [List.map_cons, List.dropWhile_cons]
    have e : (UInt8.ofNat (48 + a) == 48) = (a == 0) := by
      rw [Bool.eq_iff_iff, beq_iff_eq, beq_iff_eq]
      constructor
      · intro h1
        have := congrArg UInt8.toNat h1
        simp at this; omega
      · rintro rfl; rfl
    rw [e]
    split
    · exact ih (fun d hd => h' d (List.mem_cons_of_mem _ hd))
    · rfl
theorem repeat_asU (n : Nat) : Lib.repeatL [48] n = asU (List.replicate n 0) := by
  induction n with
  | zero => rfl
  | succ n ih => rw [Lib.repeatL, ih]; rfl
theorem padded (r : Nat) (hr : r < 65536) : List.replicate (16 - (natDigits (r * 152587890625)).length) 0 ++ natDigits (r * 152587890625) = full 16 r := by
  have hl : (natDigits (r * 152587890625)).length ≤ 16 := natDigits_length 15 _ (by omega)
  apply val_inj
  · rw [List.length_append, List.length_replicate, full_length]; omega
  · intro d hd
    rcases List.mem_append.1 hd with h | h
    · rw [List.eq_of_mem_replicate h]; omega
    · exact natDigits_digits _ d h
  · exact full_digits 16 r hr
  · rw [val_replicate, val_natDigits, (rem16 r hr).2]
theorem part_len (r : Nat) (hr : r < 65536) : (natDigits (r * 152587890625)).length ≤ 16 := natDigits_length 15 _ (by omega)
theorem cut0_eq (l : List UInt8) : cut0 (bs l) = bs (Lib.trimRightB l 48) := rfl
theorem zeros_eq (n : Nat) : zeros (n : Int) = bs (asU (List.replicate n 0)) := by
  unfold zeros
  rw [Int.toNat_natCast, repeat_asU]; rfl
theorem repOk_nat {n : Nat} (h : n ≤ 16) : repOk (n : Int) = true := by
  unfold repOk
  rw [decide_eq_true (by omega), decide_eq_true (by omega), Nat.ble_eq_true_of_le (by rw [Int.toNat_natCast]; omega)]; rfl
theorem dgK_run (u : Nat) (hu : u ≤ 1099511627776) (p : List UInt8) (hp : p.length ≤ 1) : dgK (bs p) (u : Int) = dR (bs (p ++ textBody u)) true := by
  have hl1 : (natDigits (u / 65536)).length ≤ 8 := natDigits_length 7 _ (by omega)
  unfold dgK
  rw [sh16_nat, itOk_nat (by omega), cond_true, itS_nat _ (by omega), glue_bs _ (by rw [asU_length]; omega), an16_nat u (by omega)]
  by_cases h0 : u % 65536 = 0
  · rw [h0]
    unfold textBody
    rw [if_pos h0, List.append_nil]; rfl
  · have hr : u % 65536 < 65536 := Nat.mod_lt _ (by omega)
    rw [show (((u % 65536 : Nat) : Int) != 0) = true by rw [bne_iff_ne]; omega, cond_true]
    unfold textBody
    rw [if_neg h0]
    generalize u % 65536 = r at hr ⊢
    have hpad := padded r hr
    have hl := part_len r hr
    have hl0 := natDigits_pos (r * 152587890625)
    rw [W_in (n := (r : Int) * 152587890625) (by omega), show (r : Int) * 152587890625 = ((r * 152587890625 : Nat) : Int) by omega, itOk_nat (by omega), cond_true, itS_nat _ (by omega)]
    generalize natDigits (r * 152587890625) = D at hpad hl hl0 ⊢
    generalize natDigits (u / 65536) = V at hl1 ⊢
    have hl3 := fracD_length 16 r
    have e5 : cut0 (bs (asU (full 16 r))) = bs (asU (fracD 16 r)) := by
      rw [cut0_eq, trimRight_asU _ (full_digits 16 _ hr), trimZ_full 16 _ hr (rem16 _ hr).1]
    have hfl := full_length 16 r
    generalize full 16 r = F at hpad e5 hfl
    generalize fracD 16 r = G at e5 hl3 ⊢
    rw [bs_size, asU_length, W_in (n := (16 : Int) - (D.length : Int)) (by omega), show (16 : Int) - (D.length : Int) = ((16 - D.length : Nat) : Int) by omega, repOk_nat (by omega), cond_true, zeros_eq,
      glue_bs _ (by rw [asU_length, asU_length, List.length_replicate]; omega), ← asU_append, hpad, bs_size, asU_length, hfl, e5, show Nat.ble 16 9223372036854775807 = true from rfl, cond_true]
    rw [show (⟨#[46]⟩ : ByteArray) = bs [46] from rfl, glue_bs _ (by rw [asU_length, List.length_singleton]; omega), glue_bs _ (by simp only [List.length_append, asU_length, List.length_cons, List.length_nil]; omega), List.append_assoc]
    rfl
theorem inB_of {x : Int} (h : inB x = true) : -1099511627776 ≤ x ∧ x ≤ 1099511627776 := by
  unfold inB at h
  rw [Bool.and_eq_true, decide_eq_true_eq, decide_eq_true_eq] at h
  exact h
def fixE : List AV → Bx → Option (Bool × Out)
  | [.v (.int .i64 x)], [none] => some (inB x, .ret (.tup [S (fixT x), B true]) [none])
  | _, _ => none
theorem dg_sound {ext : CallF} (hext : SoundCall PR ext) : SoundCall PR (addF 68 fixE ext) := by
  refine sound_both (sound_add (takes := TK) hmixP (in_sound (itoa_sound (rep_sound (trim_sound sound_none)))) _ (fn := (PR.funcs[68]?).getD default) (by kernel_rfl) (by kernel_rfl) fixE fun xs bs out h => ?_) hext
  unfold fixE at h
  split at h
  · rename_i x
    injection h with h
    injection h with h1 h2
    subst h2
    refine ⟨0, (dg_0 _ _ _).trans ?_⟩
    obtain ⟨b1, b2⟩ := inB_of h1
    rw [h1, Bool.not_true, cond_false]
    unfold fixT
    by_cases h3 : x < 0
    · rw [decide_eq_true h3, cond_true, if_pos h3, W_in (n := 0 - x) (by omega), show 0 - x = (x.natAbs : Int) by omega]
      exact dgK_run x.natAbs (by omega) [45] (by simp)
    · rw [decide_eq_false h3, cond_false, if_neg h3]
      have := dgK_run x.natAbs (by omega) [] (by simp)
      rw [show (x.natAbs : Int) = x by omega] at this
      exact this
  · cases h
end Go.Proofs.YtckdgcpomkefpaaGreatDoor.En
end
section
namespace Go.Proofs.YtckdgcpomkefpaaGreatDoor.Dg
open Go.RowKit
set_option linter.unusedVariables false
set_option linter.unusedSimpArgs false
structure Aside0 (p : Prop) : Prop where mk :: (out : p)
theorem data_length (s : ByteArray) : s.data.toList.length = s.size := by rw [Array.length_toList]; rfl
theorem below_alloc {w W : World} (h : Below w.heap.size w W) (o : Obj) : Below w.heap.size w (W.alloc o) := h.alloc h.size o
theorem below_drew {B : Nat} {w W : World} (h : Below B w W) : Below B w W.drew := ⟨h.os, h.tape, h.output, h.size, h.block⟩
theorem below_drew1 {B : Nat} {w W : World} (h : Below B w W) : Below B w W.drew := below_drew h
theorem pw_below_drewN {B : Nat} {w W : World} (h : Below B w W) (n : Nat) : Below B w (W.drewN n) := ⟨h.os, h.tape, h.output, h.size, h.block⟩
theorem below_step {w W w2 : World} (h : Below w.heap.size w W) (k : Below W.heap.size W w2) : Below w.heap.size w w2 :=
  h.trans ⟨k.os, k.tape, k.output, k.size, fun i hi => k.block i (Nat.lt_of_lt_of_le hi h.size)⟩
theorem decode_high (s : ByteArray) (pos : Nat) (h : pos < s.size) (ha : 128 ≤ (s[pos]'h).toNat) : 128 ≤ (Utf8.decode s pos).1 := by
  rw [Lib.decode_at]
  have e : s.get! pos = s[pos]'h := by
    obtain ⟨⟨l⟩⟩ := s
    exact getElem!_pos (c := (⟨l⟩ : Array UInt8)) pos h
  rw [e]
  generalize (s[pos]'h).toNat = b0 at *
  generalize (s.get! (pos + 1)).toNat = b1
  generalize (s.get! (pos + 2)).toNat = b2
  generalize (s.get! (pos + 3)).toNat = b3
  unfold Lib.decodeN
  repeat' split
  all_goals first | omega | (simp; omega)
def isDig (c : UInt8) : Bool := 48 ≤ c.toNat && c.toNat ≤ 57
def allDig (s : ByteArray) : Bool := s.size != 0 && s.data.toList.all isDig
theorem allDig_no (s : ByteArray) (j : Nat) (h : j < s.size) (hn : isDig (s[j]'h) = false) : allDig s = false := by
  unfold allDig
  rw [Bool.and_eq_false_iff]; right
  rw [List.all_eq_false]
  exact ⟨s[j]'h, by
    obtain ⟨⟨l⟩⟩ := s
    exact List.getElem_mem h, by simp [hn]⟩
theorem allDig_end (s : ByteArray) (h : ∀ j (hj : j < s.size), isDig (s[j]'hj) = true) : allDig s = (s.size != 0) := by
  unfold allDig
  rw [Bool.and_eq_left_iff_imp]
  intro _
  rw [List.all_eq_true]
  intro x hx
  obtain ⟨j, hj, rfl⟩ := List.getElem_of_mem hx
  exact h j (by
    obtain ⟨⟨l⟩⟩ := s
    exact hj)
theorem not_empty_size (s : ByteArray) : (!s.toList.isEmpty) = (s.size != 0) := by
  rw [Lib.toList_data, ← data_length]
  cases s.data.toList <;> simp
set_option maxHeartbeats 1000000 in
theorem all_walk (s : ByteArray) (w : World) :
    Calls Tryz.prog 150 #[.string s] w fun e w' => e = .returned (.bool (allDig s)) ∧ Below w.heap.size w w' := by
  go_enter Tryz.func150, Tryz.ntmps150
  go_wp2
  go_loopw [] (fun wr => ∃ pos : Nat, pos ≤ s.size ∧ wr.heap[w.heap.size]? = some (.stringIter s pos) ∧ Below w.heap.size w wr ∧ Hid (∀ j (hj : j < s.size), j < pos → isDig (s[j]'hj) = true)) (fun wr => s.size - wr.iterPos w.heap.size)
  case atStart =>
    refine ⟨0, by omega, ?_, (Below.refl _ w).alloc (Nat.le_refl _) _, Lib.hid (fun j hj h => absurd h (by omega))⟩
    have := World.iter_heap w s 0
    simpa using this
  case round =>
    obtain ⟨pos, hps, hit, hbw, hall⟩ := hrel
    have hsz : w.heap.size < wr.heap.size := (Array.getElem?_eq_some_iff.1 hit).1
    by_cases hp : pos < s.size
    · obtain ⟨c, hc⟩ : ∃ c : Nat, c = (Utf8.decode s pos).1 := ⟨_, rfl⟩
      obtain ⟨wd, hwd⟩ : ∃ d : Nat, d = (Utf8.decode s pos).2 := ⟨_, rfl⟩
      have hc2 : c ≤ 2147483647 := by rw [hc]; exact decode_le s pos
      have hnx : ∀ ty, (Instr.next (.pointer (some ⟨w.heap.size, 0, none⟩)) true ty).run Tryz.prog wr = .ok (.tuple #[.bool true, .int .i64 pos, .int .i32 c]) (wr.iterAt w.heap.size s (pos + wd)) := fun ty => by
        rw [hc, hwd]; exact Lib.run_next_any_at wr w.heap.size s pos ty hit hp
      have hbw2 := Lib.below_iterAt hbw (k := w.heap.size) (Nat.le_refl _) s (pos + wd)
      have hit2 := Lib.iterAt_heap wr w.heap.size s pos (pos + wd) hit
      by_cases hd : isDig (s[pos]'hp) = true
      · have hlt : (s[pos]'hp).toNat < 128 := by unfold isDig at hd; simp at hd; omega
        have ha := decode_ascii s pos hp hlt
        have hc3 : 48 ≤ c ∧ c ≤ 57 := by rw [hc, ha]; unfold isDig at hd; simpa using hd
        have hw1 : wd = 1 := by rw [hwd, ha]
        subst hw1
        have k1 : decide ((c : Int) < 48) = false := decide_eq_false (by omega)
        have k2 : decide ((57 : Int) < (c : Int)) = false := decide_eq_false (by omega)
        have k3 : decide (c < 48) = false := decide_eq_false (by omega)
        have k4 : decide (57 < c) = false := decide_eq_false (by omega)
        have Hd := Lib.hid hd
        clear hc hwd ha hd hc3 hlt
        go_wp2
        go_roundw
        case rel => exact ⟨pos + 1, by omega, hit2, hbw2, Lib.hid (fun j hj h => by
          by_cases e : j = pos
          · subst e; exact Hd.out
          · exact hall.out j hj (by omega))⟩
        case measure => simp only [World.iterPos, hit2, hit]; omega
      · have hfin : allDig s = false := allDig_no s pos hp (by simpa using hd)
        have hc3 : c < 48 ∨ 57 < c := by
          by_cases hlt : (s[pos]'hp).toNat < 128
          · rw [hc, decode_ascii s pos hp hlt]; unfold isDig at hd; simp at hd; omega
          · have := decode_high s pos hp (by omega); omega
        have Hf := Lib.hid hfin
        clear hc hwd hd hfin
        rcases hc3 with h3 | h3
        · have k1 : decide ((c : Int) < 48) = true := decide_eq_true (by omega)
          have k3 : decide (c < 48) = true := decide_eq_true (by omega)
          clear h3
          go_wp2
          go_ret
          exact ⟨by rw [Hf.out]; rfl, hbw2⟩
        · have k1 : decide ((c : Int) < 48) = false := decide_eq_false (by omega)
          have k3 : decide (c < 48) = false := decide_eq_false (by omega)
          have k2 : decide ((57 : Int) < (c : Int)) = true := decide_eq_true (by omega)
          have k4 : decide (57 < c) = true := decide_eq_true (by omega)
          clear h3
          go_wp2
          go_ret
          exact ⟨by rw [Hf.out]; rfl, hbw2⟩
    · have hnx : ∀ ty, (Instr.next (.pointer (some ⟨w.heap.size, 0, none⟩)) true ty).run Tryz.prog wr = _ := fun ty => Lib.run_next_end_at wr w.heap.size s pos ty hit hp
      have Hf := Lib.hid (allDig_end s (fun j hj => hall.out j hj (by omega)))
      go_wp2
      go_ret
      exact ⟨by rw [Hf.out, ← not_empty_size]; rfl, hbw⟩
def dbl : List Nat → List Nat × Nat
  | [] => ([], 0)
  | a :: l => ((2 * a + (dbl l).2) % 10 :: (dbl l).1, (2 * a + (dbl l).2) / 10)
theorem dbl_length : ∀ l, (dbl l).1.length = l.length
  | [] => rfl
  | a :: l => by simp [dbl, dbl_length l]
theorem dbl_carry : ∀ l : List Nat, (∀ d ∈ l, d < 10) → (dbl l).2 ≤ 1
  | [], _ => by simp [dbl]
  | a :: l, h => by
    have h1 := dbl_carry l (fun d hd => h d (List.mem_cons_of_mem _ hd))
    have h2 := h a List.mem_cons_self
    show (2 * a + (dbl l).2) / 10 ≤ 1
    omega
theorem dbl_digits : ∀ l : List Nat, ∀ d ∈ (dbl l).1, d < 10
  | [], d, h => by simp [dbl] at h
  | a :: l, d, h => by
    simp only [dbl, List.mem_cons] at h
    rcases h with rfl | h
    · omega
    · exact dbl_digits l d h
def drounds : Nat → List Nat × Nat → List Nat × Nat
  | 0, p => p
  | k + 1, p => let q := drounds k p; ((dbl q.1).1, 2 * q.2 + (dbl q.1).2)
theorem drounds_length (l : List Nat) (n : Nat) : ∀ k, (drounds k (l, n)).1.length = l.length
  | 0 => rfl
  | k + 1 => by simp [drounds, dbl_length, drounds_length l n k]
theorem drounds_digits (l : List Nat) (n : Nat) (h : ∀ d ∈ l, d < 10) : ∀ k, ∀ d ∈ (drounds k (l, n)).1, d < 10
  | 0 => h
  | k + 1 => dbl_digits _
theorem drounds_bound (l : List Nat) (h : ∀ d ∈ l, d < 10) : ∀ k, (drounds k (l, 0)).2 < 2 ^ k
  | 0 => by simp [drounds]
  | k + 1 => by
    have h1 := drounds_bound l h k
    have h2 := dbl_carry _ (drounds_digits l 0 h k)
    show 2 * (drounds k (l, 0)).2 + (dbl (drounds k (l, 0)).1).2 < 2 ^ (k + 1)
    rw [Nat.pow_succ]; omega
def digs (s : ByteArray) : List Nat := s.data.toList.map fun c => c.toNat - 48
def asc (l : List Nat) : List Value := l.map fun d : Nat => .int .u8 (48 + (d : Int))
def RowD (b : Nat) (w0 wr : World) (l : List Nat) : Prop := ∃ C : Array Value, wr.heap[b]? = some (.cells C 5 (C.size, C.size + 1)) ∧ l.length ≤ C.size ∧ C.toList.take l.length = asc l ∧ Below b w0 wr
def dblOut (s : ByteArray) : Int × Int :=
  let p := drounds 17 (digs s, 0)
  ((p.2 / 2 : Nat), if p.2 % 2 = 0 then -1 else if p.1.all (· == 0) then 0 else 1)
theorem digs_length (s : ByteArray) : (digs s).length = s.size := by simp [digs, data_length]
theorem digs_small (s : ByteArray) (h : s.data.toList.all isDig = true) : ∀ d ∈ digs s, d < 10 := by
  intro d hd
  simp only [digs, List.mem_map] at hd
  obtain ⟨c, hc, rfl⟩ := hd
  have := List.all_eq_true.1 h c hc
  unfold isDig at this; simp at this; omega
theorem RowD.begin_ (s : ByteArray) (w : World) (h : s.data.toList.all isDig = true) : RowD w.heap.size w (Lib.bytesWorld w 5 s) (digs s) := by
  refine ⟨_, Lib.bytesWorld_at_new w 5 s, ?_, ?_, ?_⟩
  · rw [digs_length]
    have : s.data.size = s.size := rfl
    simp [Lib.bytesCells, this]
  · have e : s.data.size = s.size := rfl
    rw [digs_length]
    simp only [Lib.bytesCells, Array.toList_append, Array.toList_map]
    rw [List.take_append_of_le_length (by simp [e]), List.take_of_length_le (by simp [e])]
    simp only [asc, digs, List.map_map]
    refine List.map_congr_left fun c hc => ?_
    have := List.all_eq_true.1 h c hc
    unfold isDig at this; simp at this
    simp only [Function.comp]
    congr 1
    omega
  · exact ⟨rfl, rfl, rfl, by rw [Lib.bytesWorld_size]; omega, fun i hi => Lib.bytesWorld_at_old w 5 s i hi⟩
theorem RowD.size {b : Nat} {w wr : World} {l : List Nat} (h : RowD b w wr l) : b < wr.heap.size := by
  obtain ⟨C, h1, _⟩ := h
  exact (Array.getElem?_eq_some_iff.1 h1).1
theorem RowD.cell {b : Nat} {w wr : World} {l : List Nat} (h : RowD b w wr l) (k : Nat) (hk : k < l.length) : wr.cell? ⟨b, k, none⟩ = some (.int .u8 (48 + (l[k] : Int))) := by
  obtain ⟨C, h1, h2, h3, _⟩ := h
  have : C.toList[k]? = some (.int .u8 (48 + (l[k] : Int))) := by
    have h4 : (C.toList.take l.length)[k]? = C.toList[k]? := by rw [List.getElem?_take]; simp [hk]
    rw [← h4, h3]
    simp [asc, hk]
  simp only [World.cell?, h1]
  simpa using this
theorem RowD.unfrozen {b : Nat} {w wr : World} {l : List Nat} (h : RowD b w wr l) (k : Nat) (hk : k < l.length) : wr.frozen? ⟨b, k, none⟩ = false := by
  obtain ⟨C, h1, h2, h3, _⟩ := h
  simp [World.frozen?, h1]
  omega
theorem RowD.set {b : Nat} {w wr : World} {l : List Nat} (h : RowD b w wr l) (hb : w.heap.size ≤ b) (k : Nat) (hk : k < l.length) (d : Nat) : RowD b w (wr.setCell ⟨b, k, none⟩ (.int .u8 (48 + (d : Int)))) (l.set k d) := by
  have hsz := h.size
  obtain ⟨C, h1, h2, h3, h4⟩ := h
  refine ⟨C.setIfInBounds k (.int .u8 (48 + (d : Int))), ?_, ?_, ?_, ?_⟩
  · simp [World.setCell, Array.getElem?_modify, h1]
  · simp only [List.length_set, Array.size_setIfInBounds]; exact h2
  · simp only [List.length_set, Array.toList_setIfInBounds, asc, List.map_set]
    rw [List.take_set, h3]
    rfl
  · exact Below.setCell h4 (Nat.le_refl _) _
theorem dbl_step (L : List Nat) (k d c : Nat) (hk : k < L.length) (hd : d = L[k]'hk) (hc : c = (dbl (L.drop (k + 1))).2) :
    dbl (L.drop k) = ((2 * d + c) % 10 :: (dbl (L.drop (k + 1))).1, (2 * d + c) / 10) := by
  subst hd hc
  rw [List.drop_eq_getElem_cons hk]
  rfl
theorem dbl_set (L : List Nat) (k d c : Nat) (hk : k < L.length) (hd : d = L[k]'hk) (hc : c = (dbl (L.drop (k + 1))).2) :
    (L.take (k + 1) ++ (dbl (L.drop (k + 1))).1).set k ((2 * d + c) % 10) = L.take k ++ (dbl (L.drop k)).1 := by
  rw [dbl_step L k d c hk hd hc]
  generalize (dbl (L.drop (k + 1))).1 = T
  rw [List.take_succ_eq_append_getElem hk, List.append_assoc, List.set_append_right _ _ (by rw [List.length_take]; omega)]
  congr 1
  rw [List.length_take, Nat.min_eq_left (by omega), Nat.sub_self]
  rfl
theorem dblOut_eq (s : ByteArray) : dblOut s = ((((drounds 17 (digs s, 0)).2 / 2 : Nat) : Int), if (drounds 17 (digs s, 0)).2 % 2 = 0 then -1 else if (drounds 17 (digs s, 0)).1.all (· == 0) then 0 else 1) := rfl
attribute [irreducible] dblOut
theorem dropWhile_nil_iff (l : List UInt8) (c : UInt8) : l.dropWhile (· == c) = [] ↔ ∀ x ∈ l, x = c := by
  induction l with
  | nil => simp
  | cons a l ih =>
    by_cases h : a = c
    · subst h; simp [ih]
    · simp [h]
theorem trimB_nil_iff (l : List UInt8) (c : UInt8) : Lib.trimB l c = [] ↔ ∀ x ∈ l, x = c := by
  unfold Lib.trimB Lib.trimLeftB Lib.trimRightB
  rw [dropWhile_nil_iff]
  constructor
  · intro h x hx
    by_cases hn : l.reverse.dropWhile (· == c) = []
    · exact (dropWhile_nil_iff _ _).1 hn x (by simpa using hx)
    · exfalso
      have h1 := List.head_dropWhile_not (fun y : UInt8 => y == c) hn
      have h2 := h _ (List.mem_reverse.2 (List.head_mem hn))
      rw [h2] at h1
      simp at h1
  · intro h x hx
    have := (List.dropWhile_sublist (fun y : UInt8 => y == c) (l := l.reverse)).subset (List.mem_reverse.1 hx)
    exact h x (by simpa using this)
theorem zeros_iff (L : List Nat) (h : ∀ d ∈ L, d < 10) : Lib.trimB (strOfNums (L.map fun d : Nat => 48 + (d : Int))).data.toList 48 = [] ↔ L.all (· == 0) = true := by
  rw [trimB_nil_iff, strOfNums_data, List.all_eq_true]
  simp only [List.map_map, List.mem_map, Function.comp]
  constructor
  · intro hh d hd
    have h1 := hh _ ⟨d, hd, rfl⟩
    have h2 := h d hd
    have h3 := congrArg UInt8.toNat h1
    simp at h3
    simp; omega
  · rintro hh x ⟨d, hd, rfl⟩
    have h1 := hh d hd
    simp at h1
    subst h1
    rfl
theorem isEmpty_mk (T : List UInt8) : (ByteArray.mk T.toArray).toList.isEmpty = T.isEmpty := by rw [Lib.toList_data]
theorem RowD.below {b : Nat} {w wr : World} {l : List Nat} (h : RowD b w wr l) : Below b w wr := by
  obtain ⟨_, _, _, _, h⟩ := h
  exact h
theorem trim_below {b : Nat} {w wr w' : World} (h : Below b w wr) (hw : w' = wr ∨ w' = wr.drew) : Below b w w' := by
  rcases hw with rfl | rfl
  · exact h
  · exact below_drew h
theorem and1 (n : Nat) (h : n < 131072) : Go.bits .and .i64 (n : Int) 1 = ((n % 2 : Nat) : Int) := by
  have := bits_mask .i64 62 (by decide) (fun m h0 h1 => by rw [IntKind.wrap_i64]; omega) 1 (by decide) (n : Int) (by omega) (by omega)
  simpa using this
set_option maxHeartbeats 2000000 in
theorem doubled_walk (s : ByteArray) (w : World) (hs : s.size ≤ 100) (hd : s.data.toList.all isDig = true) :
    Calls Tryz.prog 152 #[.string s] w fun e w' => e = .returned (.tuple #[.int .i64 (dblOut s).1, .int .i64 (dblOut s).2]) ∧ Below w.heap.size w w' := by
  have Hb := Lib.hid (RowD.begin_ s w hd)
  have Hd := Lib.hid (digs_small s hd)
  clear hd
  have hcv : ∀ w, (convert 9 57 (.string s)).run Tryz.prog w = _ := fun w => Lib.run_convert_string_bytes w 9 57 5 s Tryz.underlying9 Tryz.underlying57 Tryz.underlying5
  go_enter Tryz.func152, Tryz.ntmps152
  go_wp2
  go_loopw [5, 12] (fun n t wr => ∃ j : Nat, j ≤ 17 ∧ t = .int .i64 j ∧ n = .int .i64 ((drounds j (digs s, 0)).2 : Nat) ∧ Hid (RowD w.heap.size w wr (drounds j (digs s, 0)).1)) (fun _ t _ => 17 - (intOf t).toNat)
  case atStart => exact ⟨0, by omega, rfl, rfl, Hb⟩
  case round =>
    obtain ⟨j, hj, rfl, rfl, HR⟩ := hrel
    have hlen : (drounds j (digs s, 0)).1.length = s.size := by rw [drounds_length, digs_length]
    have hnb : (drounds j (digs s, 0)).2 < 131072 := Nat.lt_of_lt_of_le (drounds_bound _ Hd.out j) (Nat.pow_le_pow_right (by omega) hj)
    have Hdig := Lib.hid (drounds_digits (digs s) 0 Hd.out j)
    obtain ⟨L, hL⟩ : ∃ L, L = (drounds j (digs s, 0)).1 := ⟨_, rfl⟩
    obtain ⟨nn, hnn⟩ : ∃ nn, nn = (drounds j (digs s, 0)).2 := ⟨_, rfl⟩
    rw [← hL] at HR hlen Hdig
    rw [← hnn] at hnb
    rw [show ((drounds j (digs s, 0)).2 : Int) = (nn : Int) from by rw [hnn]]
    have HL := Lib.hid hL
    have HN := Lib.hid hnn
    clear hL hnn
    have Hlen := Lib.hid hlen
    clear hlen
    by_cases hlt : j < 17
    · have hsz := HR.out.size
      go_wp2
      obtain ⟨wo, rfl⟩ : ∃ wo : World, wo = wr := ⟨_, rfl⟩
      go_loopw [6, 7] (fun cv iv wr => ∃ i : Nat, i ≤ s.size ∧ iv = .int .i64 ((i : Int) - 1) ∧ cv = .int .u8 ((dbl (L.drop i)).2 : Nat) ∧ Hid (RowD w.heap.size w wr (L.take i ++ (dbl (L.drop i)).1))) (fun _ iv _ => (intOf iv + 1).toNat)
      case atStart =>
        refine ⟨s.size, Nat.le_refl _, rfl, ?_, Lib.hid ?_⟩
        · rw [List.drop_of_length_le (by rw [Hlen.out]; exact Nat.le_refl _)]; rfl
        · rw [List.drop_of_length_le (by rw [Hlen.out]; exact Nat.le_refl _), List.take_of_length_le (by rw [Hlen.out]; exact Nat.le_refl _)]
          simpa [dbl] using HR.out
      case round =>
        obtain ⟨i, hi, rfl, rfl, HR2⟩ := hrel
        cases i with
        | zero =>
          rw [show (((0 : Nat) : Int) - 1) = (-1 : Int) from rfl]
          have hc1 := dbl_carry (L.drop 0) (fun d hd => Hdig.out d (List.mem_of_mem_drop hd))
          obtain ⟨c, Hc1⟩ : ∃ c, Hid (c = (dbl (L.drop 0)).2) := ⟨_, Lib.hid rfl⟩
          rw [← Hc1.out] at hc1
          rw [← Hc1.out]
          go_wp2
          refine ⟨⟨j + 1, by omega, by go_num, ?_, Lib.hid ?_⟩, by simp [intOf]; omega⟩
          · have e : (drounds (j + 1) (digs s, 0)).2 = 2 * nn + c := by
              rw [HN.out, Hc1.out, List.drop_zero, HL.out]; rfl
            rw [e]; go_num
          · have e : (drounds (j + 1) (digs s, 0)).1 = (dbl L).1 := by rw [HL.out]; rfl
            rw [e]; simpa using HR2.out
        | succ k =>
          rw [show (((k + 1 : Nat) : Int) - 1) = (k : Int) from by omega]
          have hkL : k < L.length := by rw [Hlen.out]; omega
          have hk2 : k < (L.take (k + 1) ++ (dbl (L.drop (k + 1))).1).length := by rw [List.length_append, List.length_take]; omega
          have hcell := HR2.out.cell k hk2
          have hfz := HR2.out.unfrozen k hk2
          have hd10 := Hdig.out (L[k]'hkL) (List.getElem_mem hkL)
          have hc1 := dbl_carry (L.drop (k + 1)) (fun d hd => Hdig.out d (List.mem_of_mem_drop hd))
          have He : Hid ((L.take (k + 1) ++ (dbl (L.drop (k + 1))).1)[k]'hk2 = L[k]'hkL) := Lib.hid (by
            rw [List.getElem_append_left (by rw [List.length_take]; omega), List.getElem_take])
          rw [He.out] at hcell
          obtain ⟨d, Hd1⟩ : ∃ d, Hid (d = L[k]'hkL) := ⟨_, Lib.hid rfl⟩
          obtain ⟨c, Hc1⟩ : ∃ c, Hid (c = (dbl (L.drop (k + 1))).2) := ⟨_, Lib.hid rfl⟩
          rw [← Hd1.out] at hcell hd10
          rw [← Hc1.out] at hc1
          rw [← Hc1.out]
          have hsz2 := HR2.out.size
          have hk1 : k < s.size := by omega
          clear He hk2
          go_wp2
          refine ⟨⟨k, by omega, rfl, ?_, Lib.hid ?_⟩, by simp [intOf]⟩
          · rw [dbl_step L k d c hkL Hd1.out Hc1.out]
            congr 1
            show (2 * (48 + (d : Int) - 48) + (c : Int)) / 10 = (((2 * d + c) / 10 : Nat) : Int)
            omega
          · have h1 := HR2.out.set (Nat.le_refl _) k (by rw [List.length_append, List.length_take]; omega) ((2 * d + c) % 10)
            rw [dbl_set L k d c hkL Hd1.out Hc1.out] at h1
            rw [show (2 * (48 + (d : Int) - 48) + (c : Int)) % 10 = (((2 * d + c) % 10 : Nat) : Int) from by omega]
            exact h1
    · obtain rfl : j = 17 := by omega
      have hb := and1 nn hnb
      rcases Nat.mod_two_eq_zero_or_one nn with h2 | h2
      · rw [h2] at hb
        have H2 := Lib.hid h2
        clear h2
        go_wp2
        go_ret2
        refine ⟨?_, by obtain ⟨_, _, _, _, h⟩ := HR.out; exact h⟩
        have e1 : (dblOut s).1 = (nn : Int) / 2 := by rw [dblOut_eq, ← HN.out]; rfl
        have e2 : (dblOut s).2 = -1 := by rw [dblOut_eq, ← HN.out, if_pos H2.out]
        rw [e1, e2]; rfl
      · rw [h2] at hb
        have H2 := Lib.hid h2
        clear h2
        have hcv2 := run_convert_bytes_arg (P := Tryz.prog) wr 57 5 Tryz.underlying57 Tryz.underlying5 w.heap.size 0 s.size (grownCap w s.size 0 5) (L.map fun d : Nat => 48 + (d : Int)) (by rw [List.length_map, Hlen.out]) (fun i hi => by
          have := HR.out.cell i (by rw [Hlen.out]; exact hi)
          rw [Nat.zero_add, this]
          have h3 : i < L.length := by rw [Hlen.out]; exact hi
          simp [List.getD, h3]) 9 Tryz.underlying9
        have hbel := HR.out.below
        have e1 : (dblOut s).1 = (nn : Int) / 2 := by rw [dblOut_eq, ← HN.out]; rfl
        have e2 : (dblOut s).2 = if L.all (· == 0) then 0 else 1 := by rw [dblOut_eq, ← HN.out, if_neg (by rw [H2.out]; decide), ← HL.out]
        have E1 := Lib.hid e1
        have E2 := Lib.hid e2
        have Hz := Lib.hid (zeros_iff L Hdig.out)
        clear e1 e2
        obtain ⟨T, HT⟩ : ∃ T, Hid (T = ByteArray.mk (Lib.trimB (strOfNums (L.map fun d : Nat => 48 + (d : Int))).data.toList 48).toArray) := ⟨_, Lib.hid rfl⟩
        have hsz3 : (strOfNums (L.map fun d : Nat => 48 + (d : Int))).size ≤ 9223372036854775807 := by rw [strOfNums_size, List.length_map, Hlen.out]; omega
        by_cases hT : L.all (· == 0) = true
        · have hTe : T.toList.isEmpty = true := by rw [HT.out, isEmpty_mk, Hz.out.2 hT]; rfl
          have E3 : Hid ((dblOut s).2 = 0) := Lib.hid (by rw [E2.out, if_pos hT])
          clear hT
          go_wp2_with (go_at_call 173; refine (Tryz.strings_Trim_one _ 48 (by decide) wr hsz3).mono ?_; rintro e w' ⟨rfl, hw⟩; rw [← HT.out]; have Hb2 := Lib.hid (trim_below hbel hw); clear hw hcv hcv2)
          go_ret2
          exact ⟨by rw [E1.out, E3.out]; rfl, Hb2.out⟩
        · have hTe : T.toList.isEmpty = false := by
            rw [HT.out, isEmpty_mk]
            cases hTT : Lib.trimB (strOfNums (L.map fun d : Nat => 48 + (d : Int))).data.toList 48 with
            | nil => exact absurd (Hz.out.1 hTT) hT
            | cons a l => rfl
          have E3 : Hid ((dblOut s).2 = 1) := Lib.hid (by rw [E2.out, if_neg hT])
          clear hT
          go_wp2_with (go_at_call 173; refine (Tryz.strings_Trim_one _ 48 (by decide) wr hsz3).mono ?_; rintro e w' ⟨rfl, hw⟩; rw [← HT.out]; have Hb2 := Lib.hid (trim_below hbel hw); clear hw hcv hcv2)
          go_ret2
          exact ⟨by rw [E1.out, E3.out]; rfl, Hb2.out⟩
end Go.Proofs.YtckdgcpomkefpaaGreatDoor.Dg
end
