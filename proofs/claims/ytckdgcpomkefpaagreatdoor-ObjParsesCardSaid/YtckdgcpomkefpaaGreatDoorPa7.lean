/- Part 7 of a proof: what it needs of the program's functions as plain Lean functions, with the proof that the machine's calls come to them, and of plain laws; put together out of smaller texts. No conditions besides those that each statement names. -/
import Derived.Test.YtckdgcpomkefpaaGreatDoorPa5
import Derived.Test.YtckdgcpomkefpaaGreatDoorPa6
section
set_option linter.unusedVariables false
set_option linter.unusedSimpArgs false
set_option maxRecDepth 100000
namespace Go.Proofs.YtckdgcpomkefpaaGreatDoor.En
open Go
section
variable (f : ByteArray → Bool × Int)
noncomputable def paC : CallF := addF 50 blsE (addF 51 (obE f 33) (addF 24 GoodE fun _ _ _ => none))
def paR (k n : Int) (b : Bool) (t : ByteArray) (ks l : List Dat) (e r : Int) : Option Out := some (.ret (.tup [.agg (obA k n b t ks l), I e, I r]) [none, none])
def paN (r : Int) : Option Out := paR 0 0 false ⟨#[]⟩ [] [] 0 r
noncomputable def paK (s : ByteArray) (o : Option ObR) : Option Out := bif o.isSome then
  (bif decP (okO' 101 ((rvO o).1.at 4).toL ((rvO o).1.at 5).toL 32 65536) then
    (bif !(ogO 101 (nrm (rvO o).1) 32 65536).1 then paN 50 else
      paR ((rvO o).1.at 0).toI ((rvO o).1.at 2).toI ((rvO o).1.at 1).toB ((rvO o).1.at 3).toS ((rvO o).1.at 4).toL ((rvO o).1.at 5).toL (rvO o).2.1 0) else none) else paN 50
theorem pa_0 (m : Nat) (s : ByteArray) (a : Int) : evFnD PR TK (paC f) m 31 [S s, I a] [none, none] =
  bif decide ((s.size : Int) > 16777216) then paN 2 else orK (decide (a < 0)) (decide (a > (s.size : Int))) fun t => bif t then paN 1 else
    bif rdOk s a then (bif obCo 33 s (blA s a) 65536 32 then paK s (obP f s 33 (blA s a) 32 65536) else none) else none := by kernel_rfl
end
def Fit (k : Nat) (d : Dat) : Prop := fitO k (d.at 4).toL (d.at 5).toL ∧ keyZ k (d.at 4).toL (d.at 5).toL
theorem fit_nil (k : Nat) : fitO (k + 1) [] [] ∧ keyZ (k + 1) [] [] := ⟨⟨by simp, by simp, fun d hd => by cases hd⟩, fun d hd => (by cases hd), fun d hd => by cases hd⟩
theorem fit_up : ∀ (k : Nat) (ks l : List Dat), fitO k ks l ∧ keyZ k ks l → fitO (k + 1) ks l ∧ keyZ (k + 1) ks l
  | 0, ks, l, h => h.1.elim
  | k + 1, ks, l, ⟨⟨h1, h2, h3⟩, h4, h5⟩ => ⟨⟨h1, h2, fun d hd => (fit_up k _ _ ⟨h3 d hd, h5 d hd⟩).1⟩, h4, fun d hd => (fit_up k _ _ ⟨h3 d hd, h5 d hd⟩).2⟩
theorem fit_le {k n : Nat} (h : k ≤ n) {ks l : List Dat} (hf : fitO k ks l ∧ keyZ k ks l) : fitO n ks l ∧ keyZ n ks l := by
  induction h with
  | refl => exact hf
  | step _ ih => exact fit_up _ _ _ ih
theorem Fit.nrm {k : Nat} {d : Dat} (h : Fit k d) : Fit k (nrm d) := h
def ObFit (s : ByteArray) (k : Nat) (ob : Int → Int → Option ObR) : Prop := ∀ (a l : Int) (d : Dat) (p l' : Int), 0 ≤ a → a ≤ s.size → l ≤ 65536 → ob a l = some (d, p, l') → Fit k d
theorem nmP_len (s : ByteArray) : ∀ (k : Nat) (a : Int) (acc x : List Dat) (b : Int), a ≤ s.size → (acc.length : Int) ≤ a → nmP s k a acc = some (x, b) → (x.length : Int) ≤ b
  | 0, a, acc, x, b, _, _, h => by cases h
  | k + 1, a, acc, x, b, ha, hl, h => by
    unfold nmP at h
    cases hc : decide (a < s.size) && wordB (bt s a) <;> rw [hc] at h
    · cases h; exact hl
    · rw [Bool.and_eq_true, decide_eq_true_eq] at hc
      cases h3 : bt s a == 35 <;> rw [h3] at h
      · obtain ⟨_, h⟩ := bif_some h
        exact nmP_len s k (a + 1) _ x b (by omega) (by simp; omega) h
      · obtain ⟨hp, h⟩ := bif_some h
        unfold pairB at hp
        rw [Bool.and_eq_true, decide_eq_true_eq] at hp
        exact nmP_len s k (a + 3) _ x b (by omega) (by simp; omega) h
theorem bytesOf_sz (l : List Dat) : (bytesOf l).size = l.length := by
  unfold bytesOf
  show (List.map _ l).toArray.size = _
  simp
theorem arP_fit {s : ByteArray} {ob : Int → Int → Option ObR} {j : Nat} (hob : ObBd s ob) (hf : ObFit s j ob) : ∀ (q : Nat) (a l : Int) (acc : List Dat) (d : Dat) (p l' : Int), 0 ≤ a → a ≤ s.size → 0 ≤ l → l ≤ 65536 → acc.length + q ≤ 1000000 → (∀ x ∈ acc, Fit j x) → arP s ob q a l acc = some (d, p, l') → Fit (j + 1) d
  | 0, a, l, acc, d, p, l', _, _, _, _, _, _, h => by cases h
  | q + 1, a, l, acc, d, p, l', h0, h1, l0, l1, hq, hacc, h => by
    unfold arP at h
    cases hc : isB s a 93 <;> rw [hc] at h
    · rw [cond_false] at h
      split at h
      · cases h
      · rename_i d' p' l2 he
        obtain ⟨e1, e2, e3, e4⟩ := hob a l _ _ _ h0 h1 he
        obtain ⟨b1, b2⟩ := blA_bd (s := s) (a := p') e2
        refine arP_fit hob hf q _ _ _ d p l' (by omega) b2 e3 (by omega) (by simp; omega) (fun x hx => ?_) h
        rcases List.mem_append.1 hx with hx | hx
        · exact hacc x hx
        · rw [List.mem_singleton] at hx
          subst hx
          exact (hf a l _ _ _ h0 h1 l1 he).nrm
    · cases h
      exact ⟨⟨by show (0 : Nat) ≤ _; omega, by show acc.length ≤ _; omega, fun x hx => (hacc x hx).1⟩, fun x hx => (by cases hx), fun x hx => (hacc x hx).2⟩
theorem dcP_fit {s : ByteArray} {ob : Int → Int → Option ObR} {j : Nat} (hs : s.size ≤ 1000000) (hob : ObBd s ob) (hf : ObFit s j ob) : ∀ (q : Nat) (a l : Int) (ks acc : List Dat) (d : Dat) (p l' : Int), 0 ≤ a → a ≤ s.size → 0 ≤ l → l ≤ 65536 → acc.length + q ≤ 1000000 → ks.length + q ≤ 1000000 → (∀ x ∈ acc, Fit j x) → (∀ x ∈ ks, (x.at 0).toS.size ≤ maxLen) → dcP s ob q a l ks acc = some (d, p, l') → Fit (j + 1) d
  | 0, a, l, ks, acc, d, p, l', _, _, _, _, _, _, _, _, h => by cases h
  | q + 1, a, l, ks, acc, d, p, l', h0, h1, l0, l1, hq, hq2, hacc, hks, h => by
    unfold dcP at h
    cases hc : isB s a 62 && isB s (a + 1) 62 <;> rw [hc] at h
    · rw [cond_false] at h
      obtain ⟨h47, h⟩ := bif_some h
      unfold isB at h47
      rw [Bool.and_eq_true, decide_eq_true_eq] at h47
      split at h
      · cases h
      · rename_i b c hn
        obtain ⟨n1, n2⟩ := nmP_bd s _ _ _ _ _ (by omega) hn
        have n3 := nmP_len s _ _ _ _ _ (by omega) (by simp; omega) hn
        obtain ⟨m1, m2⟩ := blA_bd (s := s) (a := c) n2
        split at h
        · cases h
        · rename_i d' p' l2 he
          obtain ⟨e1, e2, e3, e4⟩ := hob _ l _ _ _ (by omega) m2 he
          obtain ⟨b1, b2⟩ := blA_bd (s := s) (a := p') e2
          refine dcP_fit hs hob hf q _ _ _ _ d p l' (by omega) b2 e3 (by omega) (by simp; omega) (by simp; omega) (fun x hx => ?_) (fun x hx => ?_) h
          · rcases List.mem_append.1 hx with hx | hx
            · exact hacc x hx
            · rw [List.mem_singleton] at hx
              subst hx
              exact (hf _ l _ _ _ (by omega) m2 l1 he).nrm
          · rcases List.mem_append.1 hx with hx | hx
            · exact hks x hx
            · rw [List.mem_singleton] at hx
              subst hx
              show (bytesOf b).size ≤ maxLen
              rw [bytesOf_sz]
              have : (1000000 : Nat) ≤ maxLen := by decide
              omega
    · cases h
      exact ⟨⟨by show ks.length ≤ _; omega, by show acc.length ≤ _; omega, fun x hx => (hacc x hx).1⟩, hks, fun x hx => (hacc x hx).2⟩
theorem obP_fit (f : ByteArray → Bool × Int) (s : ByteArray) (hs : s.size ≤ 1000000) : ∀ (k : Nat) (deep : Int), ObFit s (k + 1) fun a l => obP f s k a deep l
  | 0, deep => fun a l d p l' _ _ _ h => by cases h
  | k + 1, deep => fun a l d p l' h0 h1 hl h => by
    have hob := obP_bd f s k (deep - 1)
    have hft := obP_fit f s hs k (deep - 1)
    have h : obB f s (fun a l => obP f s k a (deep - 1) l) a deep (l - 1) = some (d, p, l') := h
    unfold obB at h
    obtain ⟨hl2, h⟩ := bif_some h
    rw [decide_eq_true_eq] at hl2
    have hB : ∀ b c, isB s b c = true → b < s.size := fun b c hb => by
      unfold isB at hb
      rw [Bool.and_eq_true, decide_eq_true_eq] at hb
      exact hb.1
    have ht : ∀ (n : Int) (o : Option (List Dat × Int)), txR n o (l - 1) = some (d, p, l') → Fit (k + 2) d := fun n o e => by
      obtain ⟨⟨x, b⟩, hx, e⟩ := Option.map_eq_some_iff.1 e
      cases e
      exact fit_nil _
    cases c1 : isB s a 60 && isB s (a + 1) 60 <;> rw [c1] at h
    · cases c2 : isB s a 60 <;> rw [c2] at h
      · cases c3 : isB s a 40 <;> rw [c3] at h
        · cases c4 : isB s a 47 <;> rw [c4] at h
          · cases c5 : isB s a 91 <;> rw [c5] at h
            · revert h
              unfold sdS
              cases isT (sub' s a (wdA s a)) nulT
              · cases isT (sub' s a (wdA s a)) trueT
                · cases isT (sub' s a (wdA s a)) falseT
                  · cases isI (sub' s a (wdA s a))
                    · cases (f (sub' s a (wdA s a))).1
                      · intro h; cases h
                      · intro h; cases h; exact fit_nil _
                    · cases rfB s (wdA s a) <;> (intro h; cases h; exact fit_nil _)
                  · intro h; cases h; exact fit_nil _
                · intro h; cases h; exact fit_nil _
              · intro h; cases h; exact fit_nil _
            · have := hB _ _ c5
              have h : arR s (fun a l => obP f s k a (deep - 1) l) (a + 1) deep (l - 1) = some (d, p, l') := h
              unfold arR at h
              obtain ⟨_, h⟩ := bif_some h
              obtain ⟨b1, b2⟩ := blA_bd (s := s) (a := a + 1) (by omega)
              exact arP_fit hob hft _ _ _ _ _ _ _ (by omega) b2 hl2 (by omega) (by simp; omega) (by simp) h
          · exact ht 4 _ h
        · exact ht 5 _ h
      · exact ht 5 _ h
    · rw [Bool.and_eq_true] at c1
      have := hB _ _ c1.2
      have h : dcR s (fun a l => obP f s k a (deep - 1) l) (a + 2) deep (l - 1) = some (d, p, l') := h
      unfold dcR at h
      obtain ⟨_, h⟩ := bif_some h
      obtain ⟨b1, b2⟩ := blA_bd (s := s) (a := a + 2) (by omega)
      exact dcP_fit hs hob hft _ _ _ _ _ _ _ _ (by omega) b2 hl2 (by omega) (by simp; omega) (by simp; omega) (by simp) (by simp) h
def paO (f : ByteArray → Bool × Int) (s : ByteArray) (a : Int) : Option (Dat × Int) := (obP f s 33 (blA s a) 32 65536).bind fun t => bif (ogO 101 (nrm t.1) 32 65536).1 then some (nrm t.1, t.2.1) else none
def rvP (o : Option (Dat × Int)) : Dat × Int := o.getD (.int 0, 0)
def paT (d : Dat) (e r : Int) : Out := .ret (.tup [.agg (obD d), I e, I r]) [none, none]
def paZ (r : Int) : Out := .ret (.tup [.agg (obA 0 0 false ⟨#[]⟩ [] []), I 0, I r]) [none, none]
def paX (o : Option (Dat × Int)) : Out := .alt o.isSome (paT (rvP o).1 (rvP o).2 0) (paZ 50)
def paE (f : ByteArray → Bool × Int) : List AV → Bx → Option (Bool × Out)
  | [.v (.string s), .v (.int .i64 a)], [none, none] => some (Nat.ble s.size 1000000, .alt (decide (a < 0) || decide (a > (s.size : Int))) (paZ 1) (paX (paO f s a)))
  | _, _ => none
theorem pa_sound (f : ByteArray → Bool × Int) (hd : SoundCall PR (addF 110 (dpE f) fun _ _ _ => none)) {ext : CallF} (hext : SoundCall PR ext) : SoundCall PR (addF 31 (paE f) ext) := by
  have hC : SoundCall PR (paC f) := bls_sound (sound_both (obE_sound f hd 33) Good_sound)
  refine sound_both (sound_addDF (takes := TK) hmixP hC _ (fn := (PR.funcs[31]?).getD default) (by kernel_rfl) (by kernel_rfl) (paE f) fun xs bs out h => ?_) hext
  unfold paE at h
  split at h
  · rename_i s a
    injection h with h
    injection h with h1 h2
    subst h2
    have hs := Nat.le_of_ble_eq_true h1
    have e := pa_0 f 0 s a
    rw [decide_eq_false (p := (s.size : Int) > 16777216) (by omega), cond_false, orK_eq] at e
    cases hc : decide (a < 0) || decide (a > (s.size : Int)) <;> rw [hc] at e
    · rw [Bool.or_eq_false_iff, decide_eq_false_iff_not, decide_eq_false_iff_not] at hc
      obtain ⟨b1, b2⟩ := blA_bd (s := s) (a := a) (by omega)
      rw [cond_false, rdOk_of (by omega) (by omega) hs, cond_true, obCo_of (by omega) b2 hs (by omega) (by omega) (by omega) (by omega) (by decide), cond_true] at e
      unfold paK at e
      cases ho : obP f s 33 (blA s a) 32 65536 with
      | none =>
        rw [ho] at e
        refine ⟨0, _, e, ?_⟩
        unfold paO
        rw [ho]
        rfl
      | some t =>
        obtain ⟨d, p, l'⟩ := t
        have hft := obP_fit f s hs 33 32 (blA s a) 65536 d p l' (by omega) b2 (by omega) ho
        have hf2 := fit_le (k := 34) (n := 101) (by omega) hft
        rw [ho] at e
        have hok : decP (okO' 101 ((rvO (some (d, p, l'))).1.at 4).toL ((rvO (some (d, p, l'))).1.at 5).toL 32 65536) = true := decP_eq ⟨hf2.1, hf2.2, by omega, by omega, by omega, by omega⟩
        rw [hok] at e
        have e : evFnD PR TK (paC f) 0 31 [S s, I a] [none, none] = bif !(ogO 101 (nrm d) 32 65536).1 then paN 50 else paR (d.at 0).toI (d.at 2).toI (d.at 1).toB (d.at 3).toS (d.at 4).toL (d.at 5).toL p 0 := e
        cases hg : (ogO 101 (nrm d) 32 65536).1 <;> rw [hg] at e <;> refine ⟨0, _, e, ?_⟩ <;> unfold paO <;> rw [ho] <;> show _ = Out.flat (.alt _ _ (paX ((Option.some (d, p, l')).bind fun t => bif (ogO 101 (nrm t.1) 32 65536).1 then some (nrm t.1, t.2.1) else none))) <;> simp only [Option.bind_some] <;> rw [hg] <;> rfl
    · exact ⟨0, _, e, by rfl⟩
  · cases h
end Go.Proofs.YtckdgcpomkefpaaGreatDoor.En
end
section
set_option linter.unusedVariables false
set_option linter.unusedSimpArgs false
set_option maxRecDepth 100000
namespace Go.Proofs.YtckdgcpomkefpaaGreatDoor.En
open Go
def iB1 (n : Int) (b : Bool) : Option Out := some (.ret (.tup [I n, B b]) [none])
noncomputable def igC : CallF := addF 101 inE fun _ _ _ => none
noncomputable def igL (m r : Nat) (neg : Bool) (d : ByteArray) (i n : Int) := loopF PR TK igC m 115 [none] [true, true, true, true, true, true, false, true] r (sp 71 [(4, B neg), (5, S d), (6, I n), (7, I i)] [])
noncomputable def igM (m : Nat) (neg : Bool) (d : ByteArray) : Option Out :=
  orO ((d.size : Int) == 0) (some (decide ((d.size : Int) > 14))) fun t => orO t (bif okI d 0 then andO (bt d 0 == 48) (orK (decide ((d.size : Int) > 1)) neg some) some else none) fun t => bif t then iB1 0 false else igL m m neg d 0 0
theorem ig_0 (m : Nat) (w : ByteArray) : evFn PR TK igC m 115 [S w] [none] =
  andO (decide ((w.size : Int) > 0)) (bif okI w 0 then some (bt w 0 == 45) else none) fun t => bif t then (bif slOk w 1 (w.size : Int) then igM m t (sub' w 1 (w.size : Int)) else none) else igM m t w := by kernel_rfl
theorem ig_1 (m r : Nat) (neg : Bool) (d : ByteArray) (i n : Int) : igL m (r + 1) neg d i n =
  bif decide (i < d.size) then (bif okI d i then orO (decide (bt d i < 48)) (bif okI d i then some (decide (bt d i > 57)) else none) fun t => bif t then iB1 0 false else
    (bif okI d i then igL m r neg d (W (i + 1)) (W (W (n * 10) + W (U8 (bt d i - 48)))) else none) else none) else bif neg then iB1 (W (0 - n)) (inB (W (0 - n))) else iB1 n (inB n) := by kernel_rfl
def igP (d : ByteArray) : Nat → Int → Int → Option Int
  | 0, _, n => some n
  | k + 1, i, n => bif decide (bt d i < 48) || decide (bt d i > 57) then none else igP d k (i + 1) (n * 10 + (bt d i - 48))
theorem u8_sub {c : Int} (h1 : 48 ≤ c) (h2 : c ≤ 57) : W (U8 (c - 48)) = c - 48 := by
  have e : U8 (c - 48) = c - 48 := by
    unfold U8 IntKind.wrap
    simp only [IntKind.bits]
    obtain ⟨n, rfl⟩ : ∃ n : Nat, c = (n : Int) := ⟨c.toNat, by omega⟩
    have : ∀ k : Fin 10, IntKind.wrap .u8 ((48 + k.val : Nat) - 48 : Int) = ((48 + k.val : Nat) : Int) - 48 := by decide +kernel
    have := this ⟨n - 48, by omega⟩
    simp only [show 48 + (n - 48) = n by omega] at this
    exact this
  rw [e]
  exact W_in ⟨by omega, by omega⟩
theorem ig_run (m : Nat) (neg : Bool) (d : ByteArray) (hs : d.size ≤ 14) : ∀ (k r : Nat) (i n : Int), 0 ≤ i → i + k = d.size → k < r → 0 ≤ n → n < 10 ^ i.toNat →
    igL m r neg d i n = match igP d k i n with | none => iB1 0 false | some x => bif neg then iB1 (0 - x) (inB (0 - x)) else iB1 x (inB x)
  | k, 0, i, n, _, _, h, _, _ => by omega
  | 0, r + 1, i, n, h0, h1, hr, hn, hn2 => by
    have hb : (10 : Int) ^ i.toNat ≤ 10 ^ 14 := by
      have := Nat.pow_le_pow_right (n := 10) (by omega) (show i.toNat ≤ 14 by omega)
      exact_mod_cast this
    rw [ig_1, decide_eq_false (by omega), cond_false, W_in (n := 0 - n) ⟨by omega, by omega⟩]
    rfl
  | k + 1, r + 1, i, n, h0, h1, hr, hn, hn2 => by
    have hlt : i < d.size := by omega
    rw [ig_1, decide_eq_true hlt, okI_of h0 hlt]
    simp only [cond_true]
    rw [orO_eq]
    unfold igP
    cases hc : decide (bt d i < 48) || decide (bt d i > 57)
    · rw [cond_false, cond_false]
      rw [Bool.or_eq_false_iff, decide_eq_false_iff_not, decide_eq_false_iff_not] at hc
      have hb : (10 : Int) ^ i.toNat ≤ 10 ^ 13 := by
        have := Nat.pow_le_pow_right (n := 10) (by omega) (show i.toNat ≤ 13 by omega)
        exact_mod_cast this
      have hp : (10 : Int) ^ (i + 1).toNat = 10 ^ i.toNat * 10 := by
        rw [show (i + 1).toNat = i.toNat + 1 by omega, Int.pow_succ]
      rw [u8_sub (by omega) (by omega), W_in (n := i + 1) ⟨by omega, by omega⟩, W_in (n := n * 10) ⟨by omega, by omega⟩, W_in (n := n * 10 + (bt d i - 48)) ⟨by omega, by omega⟩]
      exact ig_run m neg d hs k r (i + 1) _ (by omega) (by omega) (by omega) (by omega) (by omega)
    · rfl
def negB (w : ByteArray) : Bool := decide ((w.size : Int) > 0) && (bt w 0 == 45)
def digT (w : ByteArray) : ByteArray := bif negB w then sub' w 1 (w.size : Int) else w
def badB (w : ByteArray) : Bool := ((digT w).size == 0 || decide ((digT w).size > 14)) || ((bt (digT w) 0 == 48) && (decide ((digT w).size > 1) || negB w))
def intR (w : ByteArray) : Int × Bool := bif badB w then (0, false) else match igP (digT w) (digT w).size 0 0 with
  | none => (0, false)
  | some x => bif negB w then (0 - x, inB (0 - x)) else (x, inB x)
theorem igM_eq (m : Nat) (neg : Bool) (d : ByteArray) (hm : 14 < m) : igM m neg d = bif (d.size == 0 || decide (d.size > 14)) || ((bt d 0 == 48) && (decide (d.size > 1) || neg)) then iB1 0 false else
    match igP d d.size 0 0 with | none => iB1 0 false | some x => bif neg then iB1 (0 - x) (inB (0 - x)) else iB1 x (inB x) := by
  unfold igM
  have e1 : ((d.size : Int) == 0) = (d.size == 0) := by rw [Bool.eq_iff_iff, beq_iff_eq, beq_iff_eq]; omega
  have e2 : decide ((d.size : Int) > 14) = decide (d.size > 14) := by
    by_cases h : d.size > 14
    · rw [decide_eq_true h, decide_eq_true (by omega)]
    · rw [decide_eq_false h, decide_eq_false (by omega)]
  have e3 : decide ((d.size : Int) > 1) = decide (d.size > 1) := by
    by_cases h : d.size > 1
    · rw [decide_eq_true h, decide_eq_true (by omega)]
    · rw [decide_eq_false h, decide_eq_false (by omega)]
  rw [e1, e2, e3, orO_eq]
  cases hc : d.size == 0 || decide (d.size > 14)
  · rw [Bool.or_eq_false_iff, beq_eq_false_iff_ne, decide_eq_false_iff_not] at hc
    rw [okI_of (s := d) (a := 0) (by omega) (by omega), cond_true, orK_eq, andO_eq, orO_eq, Bool.false_or]
    cases hz : (bt d 0 == 48) && (decide (d.size > 1) || neg)
    · rw [cond_false, cond_false]
      exact ig_run m neg d (by omega) d.size m 0 0 (by omega) (by omega) (by omega) (by omega) (by decide)
    · rfl
  · rfl
theorem ig_eq (w : ByteArray) (hw : w.size ≤ 1000000) : evFn PR TK igC 20 115 [S w] [none] = iB1 (intR w).1 (intR w).2 := by
  rw [ig_0]
  have hn : (andO (decide ((w.size : Int) > 0)) (bif okI w 0 then some (bt w 0 == 45) else none) fun t => bif t then (bif slOk w 1 (w.size : Int) then igM 20 t (sub' w 1 (w.size : Int)) else none) else igM 20 t w) = igM 20 (negB w) (digT w) := by
    unfold digT negB
    by_cases h : (w.size : Int) > 0
    · rw [decide_eq_true h, okI_of (s := w) (a := 0) (by omega) (by omega), cond_true, andO_eq, Bool.true_and]
      cases bt w 0 == 45
      · rfl
      · rw [cond_true, cond_true, slOk_of (by omega) (by omega) (by omega)]
        rfl
    · rw [decide_eq_false h]
      rfl
  rw [hn, igM_eq _ _ _ (by omega)]
  unfold intR badB
  cases ((digT w).size == 0 || decide ((digT w).size > 14)) || ((bt (digT w) 0 == 48) && (decide ((digT w).size > 1) || negB w))
  · rw [cond_false, cond_false]
    cases igP (digT w) (digT w).size 0 0 with
    | none => rfl
    | some x => cases negB w <;> rfl
  · rfl
def igE : List AV → Bx → Option (Bool × Out)
  | [.v (.string w)], [none] => some (Nat.ble w.size 1000000, .ret (.tup [I (intR w).1, B (intR w).2]) [none])
  | _, _ => none
theorem ig_sound {ext : CallF} (hext : SoundCall PR ext) : SoundCall PR (addF 115 igE ext) := by
  refine sound_both (sound_add (takes := TK) hmixP (show SoundCall PR igC from rin_sound sound_none) _ (fn := (PR.funcs[115]?).getD default) (by kernel_rfl) (by kernel_rfl) igE fun xs bs out h => ?_) hext
  unfold igE at h
  split at h
  · rename_i w
    injection h with h
    injection h with h1 h2
    subst h2
    exact ⟨20, ig_eq w (Nat.le_of_ble_eq_true h1)⟩
  · cases h
abbrev RdR := Dat × Int × Bool
def rrO (x : RdR) : Out := .ret (.tup [.agg (obD x.1), I x.2.1, B x.2.2]) [none, none]
def aR3 (k n : Int) (b : Bool) (a : Int) (ok : Bool) : Option Out := some (.ret (.tup [.agg (obA k n b ⟨#[]⟩ [] []), I a, B ok]) [none, none])
section
variable (f : ByteArray → Bool × Int)
noncomputable def atC : CallF := addF 115 igE (addF 116 (dpE f) (addF 53 rblE (addF 114 rwdE fun _ _ _ => none)))
noncomputable def atN (s w : ByteArray) (e : Int) : Option Out := bif Nat.ble w.size 1000000 then (bif !(intR w).2 then
    (bif Nat.ble w.size 1000000 then andK (f w).1 ((f w).2.tmod 65536 != 0) fun t => aR3 3 (f w).2 false e t else none) else
    bif rdOk s e then (bif rdOk s (blA s e) then (bif rdOk s (rf1 s e) then (bif rdOk s (rf2 s e) then
      andK (decide (blA s e > e)) (decide (rf2 s e > rf1 s e)) fun t => andO t (bif slOk s (blA s e) (rf1 s e) then some ((sub' s (blA s e) (rf1 s e)).toList == zeroT.toList) else none) fun t => andO t (bif slOk s (rf2 s e) (rf3 s e) then some ((sub' s (rf2 s e) (rf3 s e)).toList == rT.toList) else none) fun t =>
        bif t then (andK (decide ((intR w).1 ≥ 1)) (decide ((intR w).1 ≤ 4096)) fun t => aR3 8 (intR w).1 false (rf3 s e) t) else aR3 2 (intR w).1 false e true
      else none) else none) else none) else none) else none
theorem at_0 (m : Nat) (s : ByteArray) (a : Int) : evFn PR TK (atC f) m 91 [S s, I a] [none, none] =
  bif rdOk s a then (bif slOk s a (wdA s a) then (bif isT (sub' s a (wdA s a)) nulT then aR3 0 0 false (wdA s a) true else bif isT (sub' s a (wdA s a)) trueT then aR3 1 0 true (wdA s a) true else bif isT (sub' s a (wdA s a)) falseT then aR3 1 0 false (wdA s a) true else
    atN f s (sub' s a (wdA s a)) (wdA s a)) else none) else none := by kernel_rfl
end
end Go.Proofs.YtckdgcpomkefpaaGreatDoor.En
end
section
set_option linter.unusedVariables false
set_option linter.unusedSimpArgs false
set_option maxRecDepth 100000
namespace Go.Proofs.YtckdgcpomkefpaaGreatDoor.En
open Go
section
variable (f : ByteArray → Bool × Int)
def atS (s : ByteArray) (a : Int) : RdR :=
  bif isT (sub' s a (wdA s a)) nulT then (plO 0 0 false ⟨#[]⟩, wdA s a, true) else bif isT (sub' s a (wdA s a)) trueT then (plO 1 0 true ⟨#[]⟩, wdA s a, true) else bif isT (sub' s a (wdA s a)) falseT then (plO 1 0 false ⟨#[]⟩, wdA s a, true) else
  bif (intR (sub' s a (wdA s a))).2 then (bif rfB s (wdA s a) then (plO 8 (intR (sub' s a (wdA s a))).1 false ⟨#[]⟩, rf3 s (wdA s a), decide ((intR (sub' s a (wdA s a))).1 ≥ 1) && decide ((intR (sub' s a (wdA s a))).1 ≤ 4096)) else (plO 2 (intR (sub' s a (wdA s a))).1 false ⟨#[]⟩, wdA s a, true)) else
  (plO 3 (f (sub' s a (wdA s a))).2 false ⟨#[]⟩, wdA s a, (f (sub' s a (wdA s a))).1 && ((f (sub' s a (wdA s a))).2.tmod 65536 != 0))
theorem at_eq (s : ByteArray) (a : Int) (h : rdOk s a = true) : evFn PR TK (atC f) 0 91 [S s, I a] [none, none] = some (rrO (atS f s a)) := by
  obtain ⟨h0, h1, hs⟩ := rdOk_eq h
  have w1 : a ≤ wdA s a := skA_ge _ _ _
  have w2 : wdA s a ≤ s.size := skA_le _ _ _ h1
  obtain ⟨b1, b2, b3, b4, b5⟩ := rf_bd s (wdA s a) (by omega) w2
  have hsz : (sub' s a (wdA s a)).size ≤ 1000000 := by
    unfold sub'
    rw [ByteArray.size_extract]
    omega
  rw [at_0, h, slOk_of h0 w1 w2]
  unfold atS atN
  rw [Nat.ble_eq_true_of_le hsz, rdOk_of (a := wdA s a) (by omega) w2 hs, rdOk_of (a := blA s (wdA s a)) (by omega) (by omega) hs, rdOk_of (a := rf1 s (wdA s a)) (by omega) (by omega) hs, rdOk_of (a := rf2 s (wdA s a)) (by omega) (by omega) hs, slOk_of (f := blA s (wdA s a)) (by omega) (by omega) (by omega), slOk_of (f := rf2 s (wdA s a)) (by omega) b4 b5]
  simp only [cond_true, andK_eq, andO_eq]
  cases isT (sub' s a (wdA s a)) nulT
  · cases isT (sub' s a (wdA s a)) trueT
    · cases isT (sub' s a (wdA s a)) falseT
      · cases (intR (sub' s a (wdA s a))).2
        · rfl
        · have hr : (((decide (blA s (wdA s a) > wdA s a) && decide (rf2 s (wdA s a) > rf1 s (wdA s a))) && ((sub' s (blA s (wdA s a)) (rf1 s (wdA s a))).toList == zeroT.toList)) && ((sub' s (rf2 s (wdA s a)) (rf3 s (wdA s a))).toList == rT.toList)) = rfB s (wdA s a) := by
            unfold rfB
            cases decide (blA s (wdA s a) > wdA s a) <;> cases decide (rf2 s (wdA s a) > rf1 s (wdA s a)) <;> cases ((sub' s (blA s (wdA s a)) (rf1 s (wdA s a))).toList == zeroT.toList) <;> cases ((sub' s (rf2 s (wdA s a)) (rf3 s (wdA s a))).toList == rT.toList) <;> rfl
          rw [hr]
          cases rfB s (wdA s a) <;> rfl
      · rfl
    · rfl
  · rfl
def atE : List AV → Bx → Option (Bool × Out)
  | [.v (.string s), .v (.int .i64 a)], [none, none] => some (rdOk s a, rrO (atS f s a))
  | _, _ => none
theorem at_sound (hd : SoundCall PR (addF 116 (dpE f) fun _ _ _ => none)) {ext : CallF} (hext : SoundCall PR ext) : SoundCall PR (addF 91 (atE f) ext) := by
  refine sound_both (sound_add (takes := TK) hmixP (show SoundCall PR (atC f) from ig_sound (sound_both hd (rbl_sound (rwd_sound sound_none)))) _ (fn := (PR.funcs[91]?).getD default) (by kernel_rfl) (by kernel_rfl) (atE f) fun xs bs out h => ?_) hext
  unfold atE at h
  split at h
  · rename_i s a
    injection h with h
    injection h with h1 h2
    subst h2
    exact ⟨0, at_eq f s a h1⟩
  · cases h
@[irreducible] def fuN : Nat := 65540
theorem fuN_eq : fuN = 65540 := by unfold fuN; rfl
def flR : RdR := (plO 0 0 false ⟨#[]⟩, 0, false)
def rlP (s : ByteArray) (rd : Int → RdR) : Nat → Int → List Dat → RdR
  | 0, _, _ => flR
  | q + 1, a, acc => bif isB s (blA s a) 93 then (mkO 6 0 false ⟨#[]⟩ [] acc, blA s a + 1, true) else
    bif !(rd (blA s a)).2.2 || decide ((acc.length : Int) > 65536) then flR else rlP s rd q (rd (blA s a)).2.1 (acc ++ [nrm (rd (blA s a)).1])
def rkP (s : ByteArray) (rd : Int → RdR) : Nat → Int → List Dat → List Dat → RdR
  | 0, _, _, _ => flR
  | q + 1, a, ks, acc => bif isB s (blA s a) 62 && isB s (blA s a + 1) 62 then (mkO 7 0 false ⟨#[]⟩ ks acc, blA s a + 2, true) else
    bif isB s (blA s a) 47 then (match nmA s (blA s a + 1) with
      | none => flR
      | some (b, c) => bif !namedB (bytesOf b) || decide ((acc.length : Int) > 65536) then flR else bif !(rd (blA s c)).2.2 then flR else rkP s rd q (rd (blA s c)).2.1 (ks ++ [.str (bytesOf b)]) (acc ++ [nrm (rd (blA s c)).1])) else flR
def tx3 (k : Int) (o : Option (List Dat × Int)) (g : ByteArray → Bool) : RdR := match o with
  | some (b, p) => (plO k 0 false (bytesOf b), p, g (bytesOf b))
  | none => (plO k 0 false ⟨#[]⟩, 0, false)
def rdB (s : ByteArray) (rd : Int → RdR) (a nest : Int) : RdR := bif decide (a ≥ (s.size : Int)) || decide (nest > 32) then flR else
  bif bt s a == 47 then tx3 4 (nmA s (a + 1)) namedB else bif bt s a == 40 then tx3 5 (txA s (a + 1)) (fun _ => true) else bif bt s a == 91 then rlP s rd fuN (a + 1) [] else
  bif bt s a == 60 then (bif isB s (a + 1) 60 then rkP s rd fuN (a + 2) [] [] else tx3 5 (hxA s (a + 1)) fun _ => true) else atS f s a
def rdP (s : ByteArray) : Nat → Int → Int → RdR
  | 0, _, _ => flR
  | k + 1, a, nest => rdB f s (fun a => rdP s k a (nest + 1)) a nest
end
def rdCo (k : Nat) (s : ByteArray) (a nest : Int) : Bool := rdOk s a && (decide (0 ≤ nest) && (decide (nest ≤ 33) && decide (34 ≤ nest + k)))
def rr3 (x : RdR) : Out := .ret (.tup [.agg (obD x.1), I x.2.1, B x.2.2]) [none, none, none]
section
variable (f : ByteArray → Bool × Int) (k : Nat)
def rdE : List AV → Bx → Option (Bool × Out)
  | [.v (.string s), .v (.int .i64 a), .v (.int .i64 nest)], [none, none, none] => some (rdCo k s a nest, rr3 (rdP f s k a nest))
  | _, _ => none
def rlE : List AV → Bx → Option (Bool × Out)
  | [.v (.string s), .v (.int .i64 a), .v (.int .i64 nest)], [none, none, none] => some (rdCo k s a nest, rr3 (rlP s (fun a => rdP f s k a nest) fuN a []))
  | _, _ => none
def rkE : List AV → Bx → Option (Bool × Out)
  | [.v (.string s), .v (.int .i64 a), .v (.int .i64 nest)], [none, none, none] => some (rdCo k s a nest, rr3 (rkP s (fun a => rdP f s k a nest) fuN a [] []))
  | _, _ => none
noncomputable def rlC : CallF := addF 53 rblE (addF 86 rnaE (addF 52 (rdE f k) fun _ _ _ => none))
def z6 : List AV := [I 0, B false, I 0, S ⟨#[]⟩, .row (some (sub 6 4)) 9 [], .row (some (sub 6 5)) 43 []]
def o9 (k : Int) (ks l : List Dat) : List AV := [I k, B false, I 0, S ⟨#[]⟩, .row (some (sub 9 4)) 9 ks, .row (some (sub 9 5)) 43 l]
def rT3 (k : Int) (ks l : List Dat) (a : Int) : Option Out := some (.ret (.tup [.agg (obA k 0 false ⟨#[]⟩ ks l), I a, B true]) [none, none, none])
def flT : Option Out := some (.ret (.tup [.agg (obA 0 0 false ⟨#[]⟩ [] []), I 0, B false]) [none, none, none])
variable (m : Nat) (s : ByteArray)
noncomputable def liL (r : Nat) (a nest : Int) (acc : List Dat) := loopF PR TK (rlC f k) m 88 [none, none, none] [true, true] r
  (sp 54 [(0, S s), (1, I a), (2, I nest), (6, .box 6 0), (9, .box 9 0)] [(6, z6), (9, o9 6 [] acc)])
theorem li_0 (a nest : Int) : evFn PR TK (rlC f k) m 88 [S s, I a, I nest] [none, none, none] = liL f k m s m a nest [] := by kernel_rfl
theorem li_1 (r : Nat) (a nest : Int) (acc : List Dat) : liL f k m s (r + 1) a nest acc =
  bif rdOk s a then andO (decide (blA s a < (s.size : Int))) (bif okI s (blA s a) then some (bt s (blA s a) == 93) else none) fun t => bif t then rT3 6 [] acc (W (blA s a + 1)) else
    bif rdCo k s (blA s a) nest then orO (!(rdP f s k (blA s a) nest).2.2) (some (decide ((acc.length : Int) > 65536))) fun t => bif t then flT else
      (bif Nat.ble (acc.length + 1) fitsN then liL f k m s r (rdP f s k (blA s a) nest).2.1 nest (acc ++ [nrm (rdP f s k (blA s a) nest).1]) else none) else none else none := by kernel_rfl
noncomputable def diL (r : Nat) (a nest : Int) (ks acc : List Dat) := loopF PR TK (rlC f k) m 89 [none, none, none] [true, true] r
  (sp 95 [(0, S s), (1, I a), (2, I nest), (6, .box 6 0), (9, .box 9 0)] [(6, z6), (9, o9 7 ks acc)])
theorem di_0 (a nest : Int) : evFn PR TK (rlC f k) m 89 [S s, I a, I nest] [none, none, none] = diL f k m s m a nest [] [] := by kernel_rfl
theorem di_1 (r : Nat) (a nest : Int) (ks acc : List Dat) : diL f k m s (r + 1) a nest ks acc =
  bif rdOk s a then andO (decide (W (blA s a + 1) < (s.size : Int))) (bif okI s (blA s a) then some (bt s (blA s a) == 62) else none) fun t => andO t (bif okI s (W (blA s a + 1)) then some (bt s (W (blA s a + 1)) == 62) else none) fun t => bif t then rT3 7 ks acc (W (blA s a + 2)) else
    orO (decide (blA s a ≥ (s.size : Int))) (bif okI s (blA s a) then some (bt s (blA s a) != 47) else none) fun t => bif t then flT else
      bif rdOk s (W (blA s a + 1)) then (bif (nmA s (W (blA s a + 1))).isSome then
        orO (!namedB (bytesOf (getP (nmA s (W (blA s a + 1)))).1)) (some (decide ((acc.length : Int) > 65536))) fun t => bif t then flT else
          bif rdOk s (getP (nmA s (W (blA s a + 1)))).2 then (bif rdCo k s (blA s (getP (nmA s (W (blA s a + 1)))).2) nest then
            (bif !(rdP f s k (blA s (getP (nmA s (W (blA s a + 1)))).2) nest).2.2 then flT else (bif Nat.ble (ks.length + 1) fitsN then (bif Nat.ble (acc.length + 1) fitsN then
              diL f k m s r (rdP f s k (blA s (getP (nmA s (W (blA s a + 1)))).2) nest).2.1 nest (ks ++ [Dat.str (bytesOf (getP (nmA s (W (blA s a + 1)))).1)]) (acc ++ [nrm (rdP f s k (blA s (getP (nmA s (W (blA s a + 1)))).2) nest).1]) else none) else none)) else none) else none
        else flT) else none else none := by kernel_rfl
noncomputable def reC : CallF := addF 88 (rlE f k) (addF 89 (rkE f k) (addF 86 rnaE (addF 87 rquE (addF 90 rdgE (addF 91 (atE f) fun _ _ _ => none)))))
def tx3Q (n : Int) (o : Option (List Dat × Int)) (g : ByteArray → Bool) : Option Out := bif o.isSome then some (.ret (.tup [.agg (obA n 0 false (bytesOf (getP o).1) [] []), I (getP o).2, B (g (bytesOf (getP o).1))]) [none, none, none]) else some (.ret (.tup [.agg (obA n 0 false ⟨#[]⟩ [] []), I 0, B false]) [none, none, none])
theorem re_0 (a nest : Int) : evFn PR TK (reC f k) m 52 [S s, I a, I nest] [none, none, none] =
  orK (decide (a ≥ (s.size : Int))) (decide (nest > 32)) fun t => bif t then flT else bif okI s a then
    (bif bt s a == 47 then (bif rdOk s (W (a + 1)) then tx3Q 4 (nmA s (W (a + 1))) namedB else none) else bif bt s a == 40 then (bif rdOk s (W (a + 1)) then tx3Q 5 (txA s (W (a + 1))) (fun _ => true) else none) else
      bif bt s a == 91 then (bif rdCo k s (W (a + 1)) (W (nest + 1)) then some (rr3 (rlP s (fun a => rdP f s k a (W (nest + 1))) fuN (W (a + 1)) [])) else none) else
        bif bt s a == 60 then andO (decide (W (a + 1) < (s.size : Int))) (bif okI s (W (a + 1)) then some (bt s (W (a + 1)) == 60) else none) fun t => bif t then (bif rdCo k s (W (a + 2)) (W (nest + 1)) then some (rr3 (rkP s (fun a => rdP f s k a (W (nest + 1))) fuN (W (a + 2)) [] [])) else none) else
          (bif rdOk s (W (a + 1)) then tx3Q 5 (hxA s (W (a + 1))) (fun _ => true) else none) else
        (bif rdOk s a then some (rr3 (atS f s a)) else none)) else none := by kernel_rfl
end
end Go.Proofs.YtckdgcpomkefpaaGreatDoor.En
end
section
set_option linter.unusedVariables false
set_option linter.unusedSimpArgs false
set_option maxRecDepth 100000
namespace Go.Proofs.YtckdgcpomkefpaaGreatDoor.En
open Go
theorem isB_lt {s : ByteArray} {b c : Int} (hb : isB s b c = true) : b < s.size := by
  unfold isB at hb
  rw [Bool.and_eq_true, decide_eq_true_eq] at hb
  exact hb.1
def RdBd (s : ByteArray) (rd : Int → RdR) : Prop := ∀ a : Int, 0 ≤ a → a ≤ s.size → (rd a).2.2 = true → 0 ≤ (rd a).2.1 ∧ (rd a).2.1 ≤ s.size
theorem rlP_bd {s : ByteArray} {rd : Int → RdR} (hrd : RdBd s rd) : ∀ (q : Nat) (a : Int) (acc : List Dat), 0 ≤ a → a ≤ s.size → (rlP s rd q a acc).2.2 = true → 0 ≤ (rlP s rd q a acc).2.1 ∧ (rlP s rd q a acc).2.1 ≤ s.size
  | 0, a, acc, _, _, h => by cases h
  | q + 1, a, acc, h0, h1, h => by
    obtain ⟨b1, b2⟩ := blA_bd (s := s) (a := a) h1
    unfold rlP at h ⊢
    cases hc : isB s (blA s a) 93 <;> rw [hc] at h
    · rw [cond_false] at h ⊢
      cases hx : !(rd (blA s a)).2.2 || decide ((acc.length : Int) > 65536) <;> rw [hx] at h
      · rw [cond_false] at h ⊢
        rw [Bool.or_eq_false_iff, Bool.not_eq_false'] at hx
        obtain ⟨e1, e2⟩ := hrd (blA s a) (by omega) b2 hx.1
        exact rlP_bd hrd q _ _ e1 e2 h
      · cases h
    · have := isB_lt hc
      rw [cond_true]
      exact ⟨by show 0 ≤ blA s a + 1; omega, by show blA s a + 1 ≤ _; omega⟩
theorem rkP_bd {s : ByteArray} {rd : Int → RdR} (hrd : RdBd s rd) : ∀ (q : Nat) (a : Int) (ks acc : List Dat), 0 ≤ a → a ≤ s.size → (rkP s rd q a ks acc).2.2 = true → 0 ≤ (rkP s rd q a ks acc).2.1 ∧ (rkP s rd q a ks acc).2.1 ≤ s.size
  | 0, a, ks, acc, _, _, h => by cases h
  | q + 1, a, ks, acc, h0, h1, h => by
    obtain ⟨b1, b2⟩ := blA_bd (s := s) (a := a) h1
    unfold rkP at h ⊢
    cases hc : isB s (blA s a) 62 && isB s (blA s a + 1) 62 <;> rw [hc] at h
    · rw [cond_false] at h ⊢
      cases h4 : isB s (blA s a) 47 <;> rw [h4] at h
      · cases h
      · have hlt := isB_lt h4
        rw [cond_true] at h ⊢
        cases hn : nmA s (blA s a + 1) with
        | none => rw [hn] at h; cases h
        | some t =>
          obtain ⟨b, c⟩ := t
          rw [hn] at h
          obtain ⟨n1, n2⟩ := nmP_bd s _ _ _ _ _ (by omega) hn
          obtain ⟨m1, m2⟩ := blA_bd (s := s) (a := c) n2
          dsimp only at h ⊢
          cases hx : !namedB (bytesOf b) || decide ((acc.length : Int) > 65536) <;> rw [hx] at h
          · rw [cond_false] at h ⊢
            cases hy : (rd (blA s c)).2.2 <;> rw [hy] at h
            · cases h
            · obtain ⟨e1, e2⟩ := hrd (blA s c) (by omega) m2 hy
              exact rkP_bd hrd q _ _ _ e1 e2 h
          · cases h
    · rw [Bool.and_eq_true] at hc
      have := isB_lt hc.2
      rw [cond_true]
      exact ⟨by show 0 ≤ blA s a + 2; omega, by show blA s a + 2 ≤ _; omega⟩
theorem atS_bd (f : ByteArray → Bool × Int) {s : ByteArray} {a : Int} (h0 : 0 ≤ a) (h1 : a ≤ s.size) : 0 ≤ (atS f s a).2.1 ∧ (atS f s a).2.1 ≤ s.size := by
  have w1 : a ≤ wdA s a := skA_ge _ _ _
  have w2 : wdA s a ≤ s.size := skA_le _ _ _ h1
  obtain ⟨b1, b2, b3, b4, b5⟩ := rf_bd s (wdA s a) (by omega) w2
  have hw : 0 ≤ wdA s a ∧ wdA s a ≤ s.size := ⟨by omega, w2⟩
  have hr : 0 ≤ rf3 s (wdA s a) ∧ rf3 s (wdA s a) ≤ s.size := ⟨by omega, b5⟩
  unfold atS
  cases isT (sub' s a (wdA s a)) nulT
  · cases isT (sub' s a (wdA s a)) trueT
    · cases isT (sub' s a (wdA s a)) falseT
      · cases (intR (sub' s a (wdA s a))).2
        · exact hw
        · cases rfB s (wdA s a)
          · exact hw
          · exact hr
      · exact hw
    · exact hw
  · exact hw
theorem tx3_bd {s : ByteArray} {a : Int} (h0 : 0 ≤ a) {o : Option (List Dat × Int)} (ho : ∀ x b, o = some (x, b) → a ≤ b ∧ b ≤ s.size) (k : Int) (g : ByteArray → Bool) (hg : (tx3 k o g).2.2 = true) : 0 ≤ (tx3 k o g).2.1 ∧ (tx3 k o g).2.1 ≤ s.size := by
  cases o with
  | none => cases hg
  | some t =>
    obtain ⟨x, b⟩ := t
    have := ho x b rfl
    exact ⟨by show 0 ≤ b; omega, this.2⟩
theorem rdB_bd (f : ByteArray → Bool × Int) {s : ByteArray} {rd : Int → RdR} (ih : RdBd s rd) {a nest : Int} (h0 : 0 ≤ a) (h1 : a ≤ s.size) (h : (rdB f s rd a nest).2.2 = true) : 0 ≤ (rdB f s rd a nest).2.1 ∧ (rdB f s rd a nest).2.1 ≤ s.size := by
  unfold rdB at h ⊢
  cases hc : decide (a ≥ (s.size : Int)) || decide (nest > 32)
  · simp only [hc, cond_false] at h ⊢
    rw [Bool.or_eq_false_iff, decide_eq_false_iff_not] at hc
    cases c1 : bt s a == 47
    · simp only [c1, cond_false] at h ⊢
      cases c2 : bt s a == 40
      · simp only [c2, cond_false] at h ⊢
        cases c3 : bt s a == 91
        · simp only [c3, cond_false] at h ⊢
          cases c4 : bt s a == 60
          · simp only [c4, cond_false] at h ⊢
            exact atS_bd f h0 h1
          · simp only [c4, cond_true] at h ⊢
            cases c5 : isB s (a + 1) 60
            · simp only [c5, cond_false] at h ⊢
              exact tx3_bd (a := a) h0 (fun x b e => by have := hxP_bd s _ _ _ _ _ e; omega) 5 _ h
            · simp only [c5, cond_true] at h ⊢
              have := isB_lt c5
              exact rkP_bd ih fuN (a + 2) [] [] (by omega) (by omega) h
        · simp only [c3, cond_true] at h ⊢
          exact rlP_bd ih fuN (a + 1) [] (by omega) (by omega) h
      · simp only [c2, cond_true] at h ⊢
        exact tx3_bd (a := a) h0 (fun x b e => by have := quP_bd s _ _ _ _ _ _ e; omega) 5 _ h
    · simp only [c1, cond_true] at h ⊢
      exact tx3_bd (a := a) h0 (fun x b e => by have := nmP_bd s _ _ _ _ _ (by omega) e; omega) 4 _ h
  · simp only [hc, cond_true] at h
    cases h
theorem rdP_succ (f : ByteArray → Bool × Int) (s : ByteArray) (k : Nat) (a nest : Int) : rdP f s (k + 1) a nest = rdB f s (fun a => rdP f s k a (nest + 1)) a nest := rfl
theorem rdP_bd (f : ByteArray → Bool × Int) (s : ByteArray) : ∀ (k : Nat) (nest : Int), RdBd s fun a => rdP f s k a nest
  | 0, nest => fun a _ _ h => by cases h
  | k + 1, nest => fun a h0 h1 h => by
    have ih := rdP_bd f s k (nest + 1)
    dsimp only at h ⊢
    rw [rdP_succ] at h ⊢
    exact rdB_bd f ih h0 h1 h
theorem rdCo_of {k : Nat} {s : ByteArray} {a nest : Int} (h0 : 0 ≤ a) (h1 : a ≤ s.size) (hs : s.size ≤ 1000000) (n0 : 0 ≤ nest) (n1 : nest ≤ 33) (n2 : 34 ≤ nest + k) : rdCo k s a nest = true := by
  unfold rdCo
  rw [rdOk_of h0 h1 hs, decide_eq_true n0, decide_eq_true n1, decide_eq_true n2]
  rfl
theorem rdCo_eq {k : Nat} {s : ByteArray} {a nest : Int} (h : rdCo k s a nest = true) : (0 ≤ a ∧ a ≤ s.size ∧ s.size ≤ 1000000) ∧ 0 ≤ nest ∧ nest ≤ 33 ∧ 34 ≤ nest + k := by
  unfold rdCo at h
  simp only [Bool.and_eq_true, decide_eq_true_eq] at h
  exact ⟨rdOk_eq h.1, h.2⟩
section
variable (f : ByteArray → Bool × Int) (k m : Nat) (s : ByteArray)
theorem li_run {nest : Int} (hs : s.size ≤ 1000000) (n0 : 0 ≤ nest) (n1 : nest ≤ 33) (n2 : 34 ≤ nest + k) : ∀ (q r : Nat) (a : Int) (acc : List Dat), 0 ≤ a → a ≤ s.size → acc.length + q = 65540 → acc.length ≤ 65537 → q ≤ r →
    liL f k m s r a nest acc = some (rr3 (rlP s (fun a => rdP f s k a nest) q a acc))
  | 0, r, a, acc, _, _, h, h2, _ => by omega
  | q + 1, 0, a, acc, _, _, _, _, h => by omega
  | q + 1, r + 1, a, acc, h0, h1, hq, hl, hr => by
    obtain ⟨b1, b2⟩ := blA_bd (s := s) (a := a) h1
    rw [li_1, rdOk_of h0 h1 hs, cond_true, rdCo_of (by omega) b2 hs n0 n1 n2]
    unfold rlP
    have hB : (andO (decide (blA s a < (s.size : Int))) (bif okI s (blA s a) then some (bt s (blA s a) == 93) else none) : (Bool → Option Out) → Option Out) = fun K => K (isB s (blA s a) 93) := by
      funext K
      unfold isB
      by_cases h : blA s a < s.size
      · rw [decide_eq_true h, okI_of (by omega) h, cond_true, andO_eq]
      · rw [decide_eq_false h]
        rfl
    rw [hB]
    show (bif isB s (blA s a) 93 then _ else _) = _
    cases hc : isB s (blA s a) 93
    · rw [cond_false, cond_true, orO_eq]
      cases hx : !(rdP f s k (blA s a) nest).2.2 || decide ((acc.length : Int) > 65536)
      · rw [cond_false, cond_false, cond_false, fits_of (by omega), cond_true]
        rw [Bool.or_eq_false_iff, Bool.not_eq_false', decide_eq_false_iff_not] at hx
        obtain ⟨e1, e2⟩ := rdP_bd f s k nest (blA s a) (by omega) b2 hx.1
        exact li_run hs n0 n1 n2 q r _ _ e1 e2 (by simp; omega) (by simp; omega) (by omega)
      · rfl
    · have := isB_lt hc
      rw [W_in (n := blA s a + 1) ⟨by omega, by omega⟩]
      rfl
theorem di_run {nest : Int} (hs : s.size ≤ 1000000) (n0 : 0 ≤ nest) (n1 : nest ≤ 33) (n2 : 34 ≤ nest + k) : ∀ (q r : Nat) (a : Int) (ks acc : List Dat), 0 ≤ a → a ≤ s.size → acc.length + q = 65540 → acc.length ≤ 65537 → ks.length = acc.length → q ≤ r →
    diL f k m s r a nest ks acc = some (rr3 (rkP s (fun a => rdP f s k a nest) q a ks acc))
  | 0, r, a, ks, acc, _, _, h, h2, _, _ => by omega
  | q + 1, 0, a, ks, acc, _, _, _, _, _, h => by omega
  | q + 1, r + 1, a, ks, acc, h0, h1, hq, hl, hkl, hr => by
    obtain ⟨b1, b2⟩ := blA_bd (s := s) (a := a) h1
    rw [di_1, rdOk_of h0 h1 hs, cond_true, W_in (n := blA s a + 1) ⟨by omega, by omega⟩, W_in (n := blA s a + 2) ⟨by omega, by omega⟩]
    unfold rkP
    have hB : ∀ K : Bool → Option Out, (andO (decide (blA s a + 1 < (s.size : Int))) (bif okI s (blA s a) then some (bt s (blA s a) == 62) else none) fun t => andO t (bif okI s (blA s a + 1) then some (bt s (blA s a + 1) == 62) else none) K) = K (isB s (blA s a) 62 && isB s (blA s a + 1) 62) := fun K => by
      unfold isB
      by_cases h : blA s a + 1 < s.size
      · rw [decide_eq_true h, okI_of (a := blA s a) (by omega) (by omega), okI_of (a := blA s a + 1) (by omega) h, decide_eq_true (p := blA s a < (s.size : Int)) (by omega)]
        simp only [cond_true]
        rw [andO_eq, andO_eq]
        simp only [Bool.true_and]
      · rw [decide_eq_false h, Bool.false_and, Bool.and_false]
        rfl
    rw [hB]
    cases hc : isB s (blA s a) 62 && isB s (blA s a + 1) 62
    · rw [cond_false, cond_false]
      have hB2 : ∀ K : Bool → Option Out, (orO (decide (blA s a ≥ (s.size : Int))) (bif okI s (blA s a) then some (bt s (blA s a) != 47) else none) K) = K (!isB s (blA s a) 47) := fun K => by
        unfold isB
        by_cases h : blA s a < s.size
        · rw [decide_eq_true h, okI_of (by omega) h, decide_eq_false (p := blA s a ≥ (s.size : Int)) (by omega), cond_true, orO_eq]
          rfl
        · rw [decide_eq_false h, decide_eq_true (p := blA s a ≥ (s.size : Int)) (by omega)]
          rfl
      rw [hB2]
      cases h4 : isB s (blA s a) 47
      · rfl
      · have hlt := isB_lt h4
        rw [Bool.not_true, cond_false, cond_true, rdOk_of (a := blA s a + 1) (by omega) (by omega) hs, cond_true]
        cases hn : nmA s (blA s a + 1) with
        | none => rfl
        | some t =>
          obtain ⟨b, c⟩ := t
          obtain ⟨p1, p2⟩ := nmP_bd s _ _ _ _ _ (by omega) hn
          obtain ⟨m1, m2⟩ := blA_bd (s := s) (a := c) p2
          show (orO (!namedB (bytesOf b)) (some (decide ((acc.length : Int) > 65536))) fun t => bif t then flT else
            bif rdOk s c then (bif rdCo k s (blA s c) nest then (bif !(rdP f s k (blA s c) nest).2.2 then flT else (bif Nat.ble (ks.length + 1) fitsN then (bif Nat.ble (acc.length + 1) fitsN then
              diL f k m s r (rdP f s k (blA s c) nest).2.1 nest (ks ++ [Dat.str (bytesOf b)]) (acc ++ [nrm (rdP f s k (blA s c) nest).1]) else none) else none)) else none) else none) = some (rr3 (bif !namedB (bytesOf b) || decide ((acc.length : Int) > 65536) then flR else bif !(rdP f s k (blA s c) nest).2.2 then flR else
                rkP s (fun a => rdP f s k a nest) q (rdP f s k (blA s c) nest).2.1 (ks ++ [.str (bytesOf b)]) (acc ++ [nrm (rdP f s k (blA s c) nest).1])))
          rw [orO_eq, rdOk_of (a := c) (by omega) p2 hs, rdCo_of (a := blA s c) (by omega) m2 hs n0 n1 n2]
          cases hx : !namedB (bytesOf b) || decide ((acc.length : Int) > 65536)
          · rw [Bool.or_eq_false_iff, decide_eq_false_iff_not] at hx
            cases hy : (rdP f s k (blA s c) nest).2.2
            · rfl
            · obtain ⟨e1, e2⟩ := rdP_bd f s k nest (blA s c) (by omega) m2 hy
              rw [fits_of (n := ks.length + 1) (by omega), fits_of (n := acc.length + 1) (by omega)]
              exact di_run hs n0 n1 n2 q r _ _ _ e1 e2 (by simp; omega) (by simp; omega) (by simp [hkl]) (by omega)
          · rfl
    · rw [Bool.and_eq_true] at hc
      rfl
theorem tx3Q_eq (n : Int) (o : Option (List Dat × Int)) (g : ByteArray → Bool) : tx3Q n o g = some (rr3 (tx3 n o g)) := by
  cases o with
  | none => rfl
  | some t => obtain ⟨b, p⟩ := t; rfl
theorem re_run {a nest : Int} (h : rdCo (k + 1) s a nest = true) : evFn PR TK (reC f k) 0 52 [S s, I a, I nest] [none, none, none] = some (rr3 (rdP f s (k + 1) a nest)) := by
  obtain ⟨⟨h0, h1, hs⟩, n0, n1, n2⟩ := rdCo_eq h
  rw [re_0, orK_eq, W_in (n := a + 1) ⟨by omega, by omega⟩, W_in (n := a + 2) ⟨by omega, by omega⟩, W_in (n := nest + 1) ⟨by omega, by omega⟩]
  rw [rdP_succ]
  unfold rdB
  cases hc : decide (a ≥ (s.size : Int)) || decide (nest > 32)
  · rw [Bool.or_eq_false_iff, decide_eq_false_iff_not, decide_eq_false_iff_not] at hc
    rw [cond_false, cond_false, okI_of h0 (by omega), cond_true, rdOk_of (a := a + 1) (by omega) (by omega) hs, rdOk_of h0 h1 hs, rdCo_of (a := a + 1) (by omega) (by omega) hs (by omega) (by omega) (by omega)]
    simp only [cond_true, tx3Q_eq]
    have hB : ∀ K : Bool → Option Out, (andO (decide (a + 1 < (s.size : Int))) (bif okI s (a + 1) then some (bt s (a + 1) == 60) else none) K) = K (isB s (a + 1) 60) := fun K => by
      unfold isB
      by_cases h : a + 1 < s.size
      · rw [decide_eq_true h, okI_of (by omega) h, cond_true, andO_eq]
      · rw [decide_eq_false h]
        rfl
    rw [hB]
    have h2 : isB s (a + 1) 60 = true → rdCo k s (a + 2) (nest + 1) = true := fun h5 => by
      have := isB_lt h5
      exact rdCo_of (by omega) (by omega) hs (by omega) (by omega) (by omega)
    cases bt s a == 47
    · simp only [cond_false]
      cases bt s a == 40
      · simp only [cond_false]
        cases bt s a == 91
        · simp only [cond_false]
          cases bt s a == 60
          · simp only [cond_false]
          · simp only [cond_true]
            cases h5 : isB s (a + 1) 60
            · simp only [cond_false]
            · simp only [cond_true, h2 h5]
        · simp only [cond_true]
      · simp only [cond_true]
    · simp only [cond_true]
  · rfl
end
theorem rdE_sound (f : ByteArray → Bool × Int) (hd : SoundCall PR (addF 116 (dpE f) fun _ _ _ => none)) : ∀ k, SoundCall PR (addF 52 (rdE f k) fun _ _ _ => none)
  | 0 => sound_both (sound_le0 fun xs bs out h => by
      unfold rdE at h
      split at h
      · injection h with h
        injection h with h _
        have := rdCo_eq h
        omega
      · cases h) sound_none
  | k + 1 => by
    have ih := rdE_sound f hd k
    have hC : SoundCall PR (rlC f k) := rbl_sound (rna_sound ih)
    have hli : SoundCall PR (addF 88 (rlE f k) (rlC f k)) := sound_add (takes := TK) hmixP hC _ (fn := (PR.funcs[88]?).getD default) (by kernel_rfl) (by kernel_rfl) (rlE f k) fun xs bs out h => by
      unfold rlE at h
      split at h
      · rename_i s a nest
        injection h with h
        injection h with h1 h2
        subst h2
        obtain ⟨⟨h0, h1, hs⟩, n0, n1, n2⟩ := rdCo_eq h1
        exact ⟨70000, (li_0 f k 70000 s a nest).trans (li_run f k 70000 s hs n0 n1 n2 fuN 70000 a [] h0 h1 (by simp [fuN_eq]) (by simp) (by rw [fuN_eq]; omega))⟩
      · cases h
    have hdi : SoundCall PR (addF 89 (rkE f k) (rlC f k)) := sound_add (takes := TK) hmixP hC _ (fn := (PR.funcs[89]?).getD default) (by kernel_rfl) (by kernel_rfl) (rkE f k) fun xs bs out h => by
      unfold rkE at h
      split at h
      · rename_i s a nest
        injection h with h
        injection h with h1 h2
        subst h2
        obtain ⟨⟨h0, h1, hs⟩, n0, n1, n2⟩ := rdCo_eq h1
        exact ⟨70000, (di_0 f k 70000 s a nest).trans (di_run f k 70000 s hs n0 n1 n2 fuN 70000 a [] [] h0 h1 (by simp [fuN_eq]) (by simp) rfl (by rw [fuN_eq]; omega))⟩
      · cases h
    have h2 : SoundCall PR (reC f k) := sound_both hli (sound_both hdi (rna_sound (rqu_sound (rdgt_sound (at_sound f hd sound_none)))))
    refine sound_both (sound_add (takes := TK) hmixP h2 _ (fn := (PR.funcs[52]?).getD default) (by kernel_rfl) (by kernel_rfl) (rdE f (k + 1)) fun xs bs out h => ?_) sound_none
    unfold rdE at h
    split at h
    · rename_i s a nest
      injection h with h
      injection h with h1 h2
      subst h2
      exact ⟨0, re_run f k s h1⟩
    · cases h
end Go.Proofs.YtckdgcpomkefpaaGreatDoor.En
end
section
set_option linter.unusedVariables false
set_option linter.unusedSimpArgs false
set_option maxRecDepth 100000
namespace Go.Proofs.YtckdgcpomkefpaaGreatDoor.En
open Go
theorem keysEq_nil (ks : List Dat) : keysEq ks [] = ks.isEmpty := by cases ks <;> rfl
theorem allEq_nil (f : Dat → Dat → Bool) (l : List Dat) : allEq f l [] = l.isEmpty := by cases l <;> rfl
def eS (s : ByteArray) : Bool := s.toList == (⟨#[]⟩ : ByteArray).toList
theorem sm_eq (k : Nat) (n : Int) (b : Bool) (s : ByteArray) (ks l : List Dat) : sm (k + 1) n b s ks l = (!b && ((n == 0) && (eS s && (ks.isEmpty && l.isEmpty)))) := by
  have : sm (k + 1) n b s ks l = (((0 : Int) == 0) && ((b == false) && ((n == 0) && (eS s && (keysEq ks [] && allEq (sameO k) l []))))) := rfl
  rw [this, keysEq_nil, allEq_nil]
  cases b <;> rfl
theorem len_pos (l : List Dat) : decide ((l.length : Int) > 0) = !l.isEmpty := by
  cases l with
  | nil => rfl
  | cons d l =>
    have : ((d :: l).length : Int) > 0 := by rw [List.length_cons]; omega
    rw [decide_eq_true this]; rfl
def bareN (k1 : Int) (b A E X Y : Bool) : Bool := ((((b && k1 != 1) || (((!A && k1 != 2) && k1 != 3) && k1 != 8)) || ((!E && k1 != 4) && k1 != 5)) || (!X && k1 != 7)) || ((!Y && k1 != 6) && k1 != 7)
theorem bareN_eq (k1 n1 : Int) (b1 : Bool) (s1 : ByteArray) (ks1 l1 : List Dat) : bareB k1 n1 b1 s1 ks1 l1 = bareN k1 b1 (n1 == 0) (eS s1) ks1.isEmpty l1.isEmpty := by
  unfold bareB bareN
  rw [len_pos, len_pos]
  rfl
theorem eS_nil : eS ⟨#[]⟩ = true := by unfold eS; simp
def rel (x : Bool × Int) (n : Int) : Prop := (x.1 = true ↔ 0 ≤ n) ∧ (x.1 = true → x.2 = 65536 - n)
theorem rel_no {left : Int} : rel (false, left) (-1) := ⟨⟨fun h => (by cases h), fun h => (by omega)⟩, fun h => (by cases h)⟩
theorem bn0 (b A E X Y : Bool) : (!bareN 0 b A E X Y) = (!b && (A && (E && (X && Y)))) := by cases b <;> cases A <;> cases E <;> cases X <;> cases Y <;> rfl
theorem bn1 (b A E X Y : Bool) : (!bareN 1 b A E X Y) = (A && (E && (X && Y))) := by cases b <;> cases A <;> cases E <;> cases X <;> cases Y <;> rfl
theorem bn2 (b A E X Y : Bool) : (!bareN 2 b A E X Y) = (!b && (E && (X && Y))) := by cases b <;> cases A <;> cases E <;> cases X <;> cases Y <;> rfl
theorem bn3 (b A E X Y : Bool) : (!bareN 3 b A E X Y) = (!b && (E && (X && Y))) := by cases b <;> cases A <;> cases E <;> cases X <;> cases Y <;> rfl
theorem bn4 (b A E X Y : Bool) : (!bareN 4 b A E X Y) = (!b && (A && (X && Y))) := by cases b <;> cases A <;> cases E <;> cases X <;> cases Y <;> rfl
theorem bn5 (b A E X Y : Bool) : (!bareN 5 b A E X Y) = (!b && (A && (X && Y))) := by cases b <;> cases A <;> cases E <;> cases X <;> cases Y <;> rfl
theorem bn6 (b A E X Y : Bool) : (!bareN 6 b A E X Y) = (!b && (A && (E && X))) := by cases b <;> cases A <;> cases E <;> cases X <;> cases Y <;> rfl
theorem bn7 (b A E X Y : Bool) : (!bareN 7 b A E X Y) = (!b && (A && E)) := by cases b <;> cases A <;> cases E <;> cases X <;> cases Y <;> rfl
theorem bn8 (b A E X Y : Bool) : (!bareN 8 b A E X Y) = (!b && (E && (X && Y))) := by cases b <;> cases A <;> cases E <;> cases X <;> cases Y <;> rfl
theorem ogI_rel {k : Nat} (hk : ∀ (d : Dat) (deep left nest ahead : Int), left + ahead = 65536 → deep + nest = 32 → 0 ≤ ahead → ahead ≤ 65536 → 0 ≤ deep → rel (ogO k d deep left) (goodO k d nest ahead)) {deep nest : Int} (hdn : deep + nest = 33) (hd : 1 ≤ deep) :
    ∀ (l : List Dat) (left ahead : Int), left + ahead = 65536 → 0 ≤ ahead → ahead ≤ 65536 → rel (ogI (ogO k) deep l left) (itemsG (fun e n => goodO k e nest n) l ahead)
  | [], left, ahead, h1, h2, h3 => ⟨⟨fun _ => h2, fun _ => rfl⟩, fun _ => by show left = 65536 - ahead; omega⟩
  | d :: l, left, ahead, h1, h2, h3 => by
    obtain ⟨r1, r2⟩ := hk d (deep - 1) left nest ahead h1 (by omega) h2 h3 (by omega)
    have hb := goodO_bd k d nest ahead h2
    unfold ogI itemsG
    cases hq : (ogO k d (deep - 1) left).1
    · have : goodO k d nest ahead < 0 := by
        rcases Int.lt_or_le (goodO k d nest ahead) 0 with h | h
        · exact h
        · rw [r1.2 h] at hq; cases hq
      rw [decide_eq_true this]
      exact rel_no
    · have h4 := r1.1 hq
      have h5 := r2 hq
      rw [Bool.not_true, cond_false, decide_eq_false (by omega), cond_false]
      exact ogI_rel hk hdn hd l _ _ (by omega) h4 hb.2
theorem allO_rel {k : Nat} (hk : ∀ (d : Dat) (deep left nest ahead : Int), left + ahead = 65536 → deep + nest = 32 → 0 ≤ ahead → ahead ≤ 65536 → 0 ≤ deep → rel (ogO k d deep left) (goodO k d nest ahead)) {deep nest : Int} (hdn : deep + nest = 32) (hd : 0 ≤ deep)
    (l : List Dat) (left ahead : Int) (h1 : left + ahead = 65536) (h2 : 0 ≤ ahead) (h3 : ahead ≤ 65536) : rel (allO (ogO k) l deep left) (bif decide (nest + 1 > 32) then -1 else itemsG (fun e n => goodO k e (nest + 1) n) l ahead) := by
  unfold allO
  by_cases h : deep < 1
  · rw [decide_eq_true h, decide_eq_true (show nest + 1 > 32 by omega)]; exact rel_no
  · rw [decide_eq_false h, decide_eq_false (show ¬ nest + 1 > 32 by omega)]
    exact ogI_rel hk (by omega) (by omega) l left ahead h1 h2 h3
theorem itemsG_ne {f : Dat → Int → Int} (hf : ∀ d n, 0 ≤ n → f d n ≠ 0) : ∀ (l : List Dat) (n : Int), 0 < n → itemsG f l n ≠ 0
  | [], n, h => by unfold itemsG; omega
  | d :: l, n, h => by
    unfold itemsG
    by_cases hn : f d n < 0
    · rw [decide_eq_true hn]; simp
    · rw [decide_eq_false hn, cond_false]
      have := hf d n (by omega)
      exact itemsG_ne hf l _ (by omega)
theorem goodO_ne : ∀ (k : Nat) (d : Dat) (nest ahead : Int), 0 ≤ ahead → goodO k d nest ahead ≠ 0
  | 0, d, nest, ahead, _ => by simp [goodO]
  | k + 1, d, nest, ahead, h => by
    unfold goodO
    cases decide (ahead + 1 > 65536) || !flatD d
    · cases (d.at 0).toI == 6 || (d.at 0).toI == 7
      · exact itemsG_ne (fun e n hn => goodO_ne k e nest n hn) _ _ (by omega)
      · cases decide (nest + 1 > 32)
        · exact itemsG_ne (fun e n hn => goodO_ne k e (nest + 1) n hn) _ _ (by omega)
        · simp
    · simp
theorem og_good : ∀ (k : Nat) (d : Dat) (deep left nest ahead : Int), left + ahead = 65536 → deep + nest = 32 → 0 ≤ ahead → ahead ≤ 65536 → 0 ≤ deep → rel (ogO k d deep left) (goodO k d nest ahead)
  | 0, d, deep, left, nest, ahead, _, _, _, _, _ => rel_no
  | k + 1, d, deep, left, nest, ahead, h1, h2, h3, h4, h5 => by
    have hk := og_good k
    unfold ogO goodO
    by_cases hl : left - 1 < 0
    · rw [decide_eq_true hl, decide_eq_true (show ahead + 1 > 65536 by omega)]; exact rel_no
    rw [decide_eq_false hl, decide_eq_false (show ¬ ahead + 1 > 65536 by omega), cond_false, Bool.false_or]
    have hfl : flatD d = (!bareN (d.at 0).toI (d.at 1).toB ((d.at 2).toI == 0) (eS (d.at 3).toS) (d.at 4).toL.isEmpty (d.at 5).toL.isEmpty && kindB (d.at 0).toI (d.at 2).toI (d.at 3).toS (d.at 4).toL (d.at 5).toL) := by
      unfold flatD flatB
      rw [bareN_eq]
    rw [hfl]
    have hall := allO_rel hk h2 h5 (d.at 5).toL (left - 1) (ahead + 1) (by omega) (by omega) (by omega)
    generalize hK : (d.at 0).toI = K
    generalize (d.at 1).toB = b
    generalize hn : (d.at 2).toI = n
    generalize hs : (d.at 3).toS = s
    generalize (d.at 4).toL = ks
    revert hall
    generalize hlst : (d.at 5).toL = l
    intro hall
    -- a kind without items
    have plain : ∀ (c : Bool) (g : Dat → Int → Int), (c = true → l.isEmpty = true) → rel (c, left - 1) (bif !c then -1 else itemsG g l (ahead + 1)) := fun c g hc => by
      cases c
      · exact rel_no
      · have : l = [] := by simpa using hc rfl
        subst this
        exact ⟨⟨fun _ => (by show 0 ≤ ahead + 1; omega), fun _ => rfl⟩, fun _ => (by show left - 1 = 65536 - (ahead + 1); omega)⟩
    have smE : ∀ (n : Int) (b : Bool) (s : ByteArray) (ok : Bool), (ok && sm (k + 1) n b s ks l) = true → l.isEmpty = true := fun n b s ok h => by
      rw [sm_eq] at h
      cases hq : l.isEmpty
      · rw [hq] at h; simp at h
      · rfl
    by_cases hk0 : K = 0
    · subst hk0
      have hc : (!bareN 0 b (n == 0) (eS s) ks.isEmpty l.isEmpty && true) = sm (k + 1) n b s ks l := by
        rw [bn0, sm_eq, Bool.and_true]
      show rel (sm (k + 1) n b s ks l, left - 1) (bif !(!bareN 0 b (n == 0) (eS s) ks.isEmpty l.isEmpty && true) then -1 else itemsG (fun e n => goodO k e nest n) l (ahead + 1))
      rw [hc]
      exact plain _ _ fun h => smE n b s true (by rw [h]; rfl)
    by_cases hk1 : K = 1
    · subst hk1
      have hc : (!bareN 1 b (n == 0) (eS s) ks.isEmpty l.isEmpty && true) = sm (k + 1) n false s ks l := by
        rw [bn1, sm_eq, Bool.and_true]; rfl
      show rel (sm (k + 1) n false s ks l, left - 1) (bif !(!bareN 1 b (n == 0) (eS s) ks.isEmpty l.isEmpty && true) then -1 else itemsG (fun e n => goodO k e nest n) l (ahead + 1))
      rw [hc]
      exact plain _ _ fun h => smE n false s true (by rw [h]; rfl)
    by_cases hk2 : K = 2
    · subst hk2
      have hc : (!bareN 2 b (n == 0) (eS s) ks.isEmpty l.isEmpty && inB n) = (inB n && sm (k + 1) 0 b s ks l) := by
        rw [bn2, sm_eq]
        cases inB n <;> cases b <;> cases (n == 0) <;> cases eS s <;> cases ks.isEmpty <;> cases l.isEmpty <;> rfl
      show rel (inB n && sm (k + 1) 0 b s ks l, left - 1) (bif !(!bareN 2 b (n == 0) (eS s) ks.isEmpty l.isEmpty && inB n) then -1 else itemsG (fun e n => goodO k e nest n) l (ahead + 1))
      rw [hc]
      exact plain _ _ (smE _ _ _ _)
    by_cases hk3 : K = 3
    · subst hk3
      have hc : (!bareN 3 b (n == 0) (eS s) ks.isEmpty l.isEmpty && (inB n && (n.tmod 65536) != 0)) = ((inB n && (n.tmod 65536) != 0) && sm (k + 1) 0 b s ks l) := by
        rw [bn3, sm_eq]
        cases (inB n && (n.tmod 65536) != 0) <;> cases b <;> cases (n == 0) <;> cases eS s <;> cases ks.isEmpty <;> cases l.isEmpty <;> rfl
      show rel ((inB n && (n.tmod 65536) != 0) && sm (k + 1) 0 b s ks l, left - 1) (bif !(!bareN 3 b (n == 0) (eS s) ks.isEmpty l.isEmpty && (inB n && (n.tmod 65536) != 0)) then -1 else itemsG (fun e n => goodO k e nest n) l (ahead + 1))
      rw [hc]
      exact plain _ _ (smE _ _ _ _)
    by_cases hk4 : K = 4
    · subst hk4
      have hc : (!bareN 4 b (n == 0) (eS s) ks.isEmpty l.isEmpty && namedB s) = (namedB s && sm (k + 1) n b ⟨#[]⟩ ks l) := by
        rw [bn4, sm_eq, eS_nil]
        cases namedB s <;> cases b <;> cases (n == 0) <;> cases eS s <;> cases ks.isEmpty <;> cases l.isEmpty <;> rfl
      show rel (namedB s && sm (k + 1) n b ⟨#[]⟩ ks l, left - 1) (bif !(!bareN 4 b (n == 0) (eS s) ks.isEmpty l.isEmpty && namedB s) then -1 else itemsG (fun e n => goodO k e nest n) l (ahead + 1))
      rw [hc]
      exact plain _ _ (smE _ _ _ _)
    by_cases hk5 : K = 5
    · subst hk5
      have hc : (!bareN 5 b (n == 0) (eS s) ks.isEmpty l.isEmpty && decide ((s.size : Int) ≤ 65536)) = (decide ((s.size : Int) ≤ 65536) && sm (k + 1) n b ⟨#[]⟩ ks l) := by
        rw [bn5, sm_eq, eS_nil]
        cases decide ((s.size : Int) ≤ 65536) <;> cases b <;> cases (n == 0) <;> cases eS s <;> cases ks.isEmpty <;> cases l.isEmpty <;> rfl
      show rel (decide ((s.size : Int) ≤ 65536) && sm (k + 1) n b ⟨#[]⟩ ks l, left - 1) (bif !(!bareN 5 b (n == 0) (eS s) ks.isEmpty l.isEmpty && decide ((s.size : Int) ≤ 65536)) then -1 else itemsG (fun e n => goodO k e nest n) l (ahead + 1))
      rw [hc]
      exact plain _ _ (smE _ _ _ _)
    by_cases hk6 : K = 6
    · subst hk6
      have hc : (!bareN 6 b (n == 0) (eS s) ks.isEmpty l.isEmpty && true) = sm (k + 1) n b s ks [] := by
        rw [bn6, sm_eq, Bool.and_true]
        cases b <;> cases (n == 0) <;> cases eS s <;> cases ks.isEmpty <;> rfl
      show rel ((allO (ogO k) l deep (left - 1)).1 && sm (k + 1) n b s ks [], (allO (ogO k) l deep (left - 1)).2) (bif !(!bareN 6 b (n == 0) (eS s) ks.isEmpty l.isEmpty && true) then -1 else (bif decide (nest + 1 > 32) then -1 else itemsG (fun e n => goodO k e (nest + 1) n) l (ahead + 1)))
      rw [hc]
      cases sm (k + 1) n b s ks []
      · rw [Bool.and_false]; exact rel_no
      · rw [Bool.and_true]; exact hall
    by_cases hk7 : K = 7
    · subst hk7
      have hc : (!bareN 7 b (n == 0) (eS s) ks.isEmpty l.isEmpty) = sm (k + 1) n b s [] [] := by
        rw [bn7, sm_eq]
        cases b <;> cases (n == 0) <;> cases eS s <;> rfl
      show rel (bif keysR [] ks && ((ks.length : Int) == l.length) then ((allO (ogO k) l deep (left - 1)).1 && sm (k + 1) n b s [] [], (allO (ogO k) l deep (left - 1)).2) else (false, left - 1)) (bif !(!bareN 7 b (n == 0) (eS s) ks.isEmpty l.isEmpty && (bif !((ks.length : Int) == l.length) then false else keysR [] ks)) then -1 else (bif decide (nest + 1 > 32) then -1 else itemsG (fun e n => goodO k e (nest + 1) n) l (ahead + 1)))
      rw [hc]
      cases sm (k + 1) n b s [] []
      · rw [Bool.and_false, Bool.false_and]
        cases keysR [] ks && ((ks.length : Int) == l.length) <;> exact rel_no
      · rw [Bool.and_true, Bool.true_and]
        cases keysR [] ks
        · cases ((ks.length : Int) == l.length) <;> exact rel_no
        · cases ((ks.length : Int) == l.length)
          · exact rel_no
          · exact hall
    by_cases hk8 : K = 8
    · subst hk8
      have hc : (!bareN 8 b (n == 0) (eS s) ks.isEmpty l.isEmpty && (decide (n ≥ 1) && decide (n ≤ 4096))) = ((decide (n ≥ 1) && decide (n ≤ 4096)) && sm (k + 1) 0 b s ks l) := by
        rw [bn8, sm_eq]
        cases (decide (n ≥ 1) && decide (n ≤ 4096)) <;> cases b <;> cases (n == 0) <;> cases eS s <;> cases ks.isEmpty <;> cases l.isEmpty <;> rfl
      show rel ((decide (n ≥ 1) && decide (n ≤ 4096)) && sm (k + 1) 0 b s ks l, left - 1) (bif !(!bareN 8 b (n == 0) (eS s) ks.isEmpty l.isEmpty && (decide (n ≥ 1) && decide (n ≤ 4096))) then -1 else itemsG (fun e n => goodO k e nest n) l (ahead + 1))
      rw [hc]
      exact plain _ _ (smE _ _ _ _)
    have c0 : (K == 0) = false := by simpa using hk0
    have c1 : (K == 1) = false := by simpa using hk1
    have c2 : (K == 2) = false := by simpa using hk2
    have c3 : (K == 3) = false := by simpa using hk3
    have c4 : (K == 4) = false := by simpa using hk4
    have c5 : (K == 5) = false := by simpa using hk5
    have c6 : (K == 6) = false := by simpa using hk6
    have c7 : (K == 7) = false := by simpa using hk7
    have c8 : (K == 8) = false := by simpa using hk8
    unfold ogS kindB
    rw [c0, c1, c2, c3, c4, c5, c6, c7, c8]
    simp only [cond_false, Bool.or_self, Bool.and_false, Bool.not_false, cond_true]
    exact rel_no
theorem Good_eq {k1 n1 : Int} {b1 : Bool} {s1 : ByteArray} {ks1 l1 : List Dat} : (ogO 101 (mkO k1 n1 b1 s1 ks1 l1) 32 65536).1 = decide (goodO 101 (mkO k1 n1 b1 s1 ks1 l1) 0 0 > 0) := by
  have h := (og_good 101 (mkO k1 n1 b1 s1 ks1 l1) 32 65536 0 0 (by decide) (by decide) (by decide) (by decide) (by decide)).1
  have hne := goodO_ne 101 (mkO k1 n1 b1 s1 ks1 l1) 0 0 (by decide)
  rw [Bool.eq_iff_iff, decide_eq_true_eq, h]
  omega
end Go.Proofs.YtckdgcpomkefpaaGreatDoor.En
end
section
set_option linter.unusedVariables false
set_option linter.unusedSimpArgs false
set_option maxRecDepth 100000
namespace Go.Proofs.YtckdgcpomkefpaaGreatDoor.En
open Go
section
variable (f : ByteArray → Bool × Int)
noncomputable def rpC : CallF := addF 53 rblE (addF 52 (rdE f 34) (addF 26 rGoodE fun _ _ _ => none))
noncomputable def rpK (x : RdR) : Option Out := orO (!x.2.2) (bif decP (okG 101 (x.1.at 4).toL (x.1.at 5).toL 0 0) then some (!decide (goodO 101 (nrm x.1) 0 0 > 0)) else none) fun t => bif t then paN 50 else
  paR (x.1.at 0).toI (x.1.at 2).toI (x.1.at 1).toB (x.1.at 3).toS (x.1.at 4).toL (x.1.at 5).toL x.2.1 0
theorem rp_0 (m : Nat) (s : ByteArray) (a : Int) : evFn PR TK (rpC f) m 32 [S s, I a] [none, none] =
  bif decide ((s.size : Int) > 16777216) then paN 2 else orK (decide (a < 0)) (decide (a > (s.size : Int))) fun t => bif t then paN 1 else
    bif rdOk s a then (bif rdCo 34 s (blA s a) 0 then rpK (rdP f s 34 (blA s a) 0) else none) else none := by kernel_rfl
end
def FitR (k : Nat) (d : Dat) : Prop := fitO k (d.at 4).toL (d.at 5).toL
def RdFit (j : Nat) (rd : Int → RdR) : Prop := ∀ a : Int, (rd a).2.2 = true → FitR j (rd a).1
theorem fitR_nil (k : Nat) : fitO (k + 1) [] [] := ⟨by simp, by simp, fun d hd => by cases hd⟩
theorem fitR_up : ∀ (k : Nat) (ks l : List Dat), fitO k ks l → fitO (k + 1) ks l
  | 0, ks, l, h => h.elim
  | k + 1, ks, l, ⟨h1, h2, h3⟩ => ⟨h1, h2, fun d hd => fitR_up k _ _ (h3 d hd)⟩
theorem fitR_le {k n : Nat} (h : k ≤ n) {ks l : List Dat} (hf : fitO k ks l) : fitO n ks l := by
  induction h with
  | refl => exact hf
  | step _ ih => exact fitR_up _ _ _ ih
theorem rlP_fit {s : ByteArray} {rd : Int → RdR} {j : Nat} (hrd : RdFit j rd) : ∀ (q : Nat) (a : Int) (acc : List Dat), acc.length ≤ 65537 → (∀ x ∈ acc, FitR j x) → (rlP s rd q a acc).2.2 = true → FitR (j + 1) (rlP s rd q a acc).1
  | 0, a, acc, _, _, h => by cases h
  | q + 1, a, acc, hl, hacc, h => by
    unfold rlP at h ⊢
    cases hc : isB s (blA s a) 93
    · simp only [hc, cond_false] at h ⊢
      cases hx : !(rd (blA s a)).2.2 || decide ((acc.length : Int) > 65536)
      · simp only [hx, cond_false] at h ⊢
        rw [Bool.or_eq_false_iff, Bool.not_eq_false', decide_eq_false_iff_not] at hx
        refine rlP_fit hrd q _ _ (by simp; omega) (fun x hm => ?_) h
        rcases List.mem_append.1 hm with hm | hm
        · exact hacc x hm
        · rw [List.mem_singleton] at hm
          subst hm
          exact hrd _ hx.1
      · simp only [hx, cond_true] at h
        cases h
    · simp only [hc, cond_true] at h ⊢
      exact ⟨by show (0 : Nat) ≤ _; omega, by show acc.length ≤ _; omega, hacc⟩
theorem rkP_fit {s : ByteArray} {rd : Int → RdR} {j : Nat} (hrd : RdFit j rd) : ∀ (q : Nat) (a : Int) (ks acc : List Dat), acc.length ≤ 65537 → ks.length = acc.length → (∀ x ∈ acc, FitR j x) → (rkP s rd q a ks acc).2.2 = true → FitR (j + 1) (rkP s rd q a ks acc).1
  | 0, a, ks, acc, _, _, _, h => by cases h
  | q + 1, a, ks, acc, hl, hkl, hacc, h => by
    unfold rkP at h ⊢
    cases hc : isB s (blA s a) 62 && isB s (blA s a + 1) 62
    · simp only [hc, cond_false] at h ⊢
      cases h4 : isB s (blA s a) 47
      · simp only [h4, cond_false] at h
        cases h
      · simp only [h4, cond_true] at h ⊢
        cases hn : nmA s (blA s a + 1) with
        | none => simp only [hn] at h; cases h
        | some t =>
          obtain ⟨b, c⟩ := t
          simp only [hn] at h ⊢
          cases hx : !namedB (bytesOf b) || decide ((acc.length : Int) > 65536)
          · simp only [hx, cond_false] at h ⊢
            rw [Bool.or_eq_false_iff, decide_eq_false_iff_not] at hx
            cases hy : (rd (blA s c)).2.2
            · simp only [hy, Bool.not_false, cond_true] at h
              cases h
            · simp only [hy, Bool.not_true, cond_false] at h ⊢
              refine rkP_fit hrd q _ _ _ (by simp; omega) (by simp [hkl]) (fun x hm => ?_) h
              rcases List.mem_append.1 hm with hm | hm
              · exact hacc x hm
              · rw [List.mem_singleton] at hm
                subst hm
                exact hrd _ hy
          · simp only [hx, cond_true] at h
            cases h
    · simp only [hc, cond_true] at h ⊢
      exact ⟨by show ks.length ≤ _; omega, by show acc.length ≤ _; omega, hacc⟩
theorem tx3_fit (j : Nat) (k : Int) (o : Option (List Dat × Int)) (g : ByteArray → Bool) : FitR (j + 1) (tx3 k o g).1 := by
  cases o with
  | none => exact fitR_nil j
  | some t => exact fitR_nil j
theorem atS_fit (f : ByteArray → Bool × Int) (j : Nat) (s : ByteArray) (a : Int) : FitR (j + 1) (atS f s a).1 := by
  unfold atS
  cases isT (sub' s a (wdA s a)) nulT
  · cases isT (sub' s a (wdA s a)) trueT
    · cases isT (sub' s a (wdA s a)) falseT
      · cases (intR (sub' s a (wdA s a))).2
        · exact fitR_nil j
        · cases rfB s (wdA s a)
          · exact fitR_nil j
          · exact fitR_nil j
      · exact fitR_nil j
    · exact fitR_nil j
  · exact fitR_nil j
theorem rdP_fit (f : ByteArray → Bool × Int) (s : ByteArray) : ∀ (k : Nat) (nest : Int), RdFit (k + 1) fun a => rdP f s k a nest
  | 0, nest => fun a h => by cases h
  | k + 1, nest => fun a h => by
    have ih := rdP_fit f s k (nest + 1)
    dsimp only at h ⊢
    rw [rdP_succ] at h ⊢
    unfold rdB at h ⊢
    cases hc : decide (a ≥ (s.size : Int)) || decide (nest > 32)
    · simp only [hc, cond_false] at h ⊢
      cases c1 : bt s a == 47
      · simp only [c1, cond_false] at h ⊢
        cases c2 : bt s a == 40
        · simp only [c2, cond_false] at h ⊢
          cases c3 : bt s a == 91
          · simp only [c3, cond_false] at h ⊢
            cases c4 : bt s a == 60
            · simp only [c4, cond_false] at h ⊢
              exact atS_fit f (k + 1) s a
            · simp only [c4, cond_true] at h ⊢
              cases c5 : isB s (a + 1) 60
              · simp only [c5, cond_false] at h ⊢
                exact tx3_fit (k + 1) _ _ _
              · simp only [c5, cond_true] at h ⊢
                exact rkP_fit ih fuN (a + 2) [] [] (by simp) rfl (by simp) h
          · simp only [c3, cond_true] at h ⊢
            exact rlP_fit ih fuN (a + 1) [] (by simp) (by simp) h
        · simp only [c2, cond_true] at h ⊢
          exact tx3_fit (k + 1) _ _ _
      · simp only [c1, cond_true] at h ⊢
        exact tx3_fit (k + 1) _ _ _
    · simp only [hc, cond_true] at h
      cases h
def rpO (f : ByteArray → Bool × Int) (s : ByteArray) (a : Int) : Option (Dat × Int) :=
  bif (rdP f s 34 (blA s a) 0).2.2 && decide (goodO 101 (nrm (rdP f s 34 (blA s a) 0).1) 0 0 > 0) then some (nrm (rdP f s 34 (blA s a) 0).1, (rdP f s 34 (blA s a) 0).2.1) else none
def rpE (f : ByteArray → Bool × Int) : List AV → Bx → Option (Bool × Out)
  | [.v (.string s), .v (.int .i64 a)], [none, none] => some (Nat.ble s.size 1000000, .alt (decide (a < 0) || decide (a > (s.size : Int))) (paZ 1) (paX (rpO f s a)))
  | _, _ => none
theorem rp_sound (f : ByteArray → Bool × Int) (hd : SoundCall PR (addF 116 (dpE f) fun _ _ _ => none)) {ext : CallF} (hext : SoundCall PR ext) : SoundCall PR (addF 32 (rpE f) ext) := by
  have hC : SoundCall PR (rpC f) := rbl_sound (sound_both (rdE_sound f hd 34) rGood_sound)
  refine sound_both (sound_addF (takes := TK) hmixP hC _ (fn := (PR.funcs[32]?).getD default) (by kernel_rfl) (by kernel_rfl) (rpE f) fun xs bs out h => ?_) hext
  unfold rpE at h
  split at h
  · rename_i s a
    injection h with h
    injection h with h1 h2
    subst h2
    have hs := Nat.le_of_ble_eq_true h1
    have e := rp_0 f 0 s a
    rw [decide_eq_false (p := (s.size : Int) > 16777216) (by omega), cond_false, orK_eq] at e
    cases hc : decide (a < 0) || decide (a > (s.size : Int)) <;> rw [hc] at e
    · rw [Bool.or_eq_false_iff, decide_eq_false_iff_not, decide_eq_false_iff_not] at hc
      obtain ⟨b1, b2⟩ := blA_bd (s := s) (a := a) (by omega)
      rw [cond_false, rdOk_of (by omega) (by omega) hs, cond_true, rdCo_of (by omega) b2 hs (by omega) (by omega) (by omega), cond_true] at e
      have hft := rdP_fit f s 34 0 (blA s a)
      unfold rpO
      dsimp only at hft
      generalize rdP f s 34 (blA s a) 0 = x at e hft ⊢
      obtain ⟨d, p, ok⟩ := x
      unfold rpK at e
      dsimp only at e hft ⊢
      cases ok with
      | false => exact ⟨0, _, e, rfl⟩
      | true =>
        have hG : decP (okG 101 (d.at 4).toL (d.at 5).toL 0 0) = true := decP_eq ⟨fitR_le (k := 35) (by omega) (hft rfl), by omega, by omega, by omega, by omega⟩
        rw [hG, cond_true, orO_eq] at e
        cases hg : decide (goodO 101 (nrm d) 0 0 > 0) <;> rw [hg] at e <;> exact ⟨0, _, e, rfl⟩
    · exact ⟨0, _, e, rfl⟩
  · cases h
end Go.Proofs.YtckdgcpomkefpaaGreatDoor.En
end
section
set_option linter.unusedVariables false
set_option linter.unusedSimpArgs false
set_option maxRecDepth 100000
namespace Go.Proofs.YtckdgcpomkefpaaGreatDoor.En
open Go
def okD (nest : Int) (d : Dat) : Prop := ∃ (k : Nat) (ahead : Int), 0 ≤ ahead ∧ 0 ≤ goodO k d nest ahead
theorem okD_nrm {nest : Int} {d : Dat} (h : okD nest (nrm d)) : okD nest d := by
  obtain ⟨k, n, h0, h1⟩ := h
  exact ⟨k, n, h0, by rw [goodO_nrm] at h1; exact h1⟩
theorem okD_flat {nest : Int} {d : Dat} (h : okD nest d) : flatD d = true := by
  obtain ⟨k, n, h0, h1⟩ := h
  cases k with
  | zero => simp [goodO] at h1
  | succ k =>
    unfold goodO at h1
    cases hc : decide (n + 1 > 65536) || !flatD d <;> rw [hc] at h1
    · rw [Bool.or_eq_false_iff] at hc
      simpa using hc.2
    · simp at h1
theorem itemsG_ok {f : Dat → Int → Int} : ∀ (l : List Dat) (n : Int), 0 ≤ n → 0 ≤ itemsG f l n → ∀ x ∈ l, ∃ n', 0 ≤ n' ∧ 0 ≤ f x n'
  | [], n, _, _, x, hx => by cases hx
  | d :: l, n, hn, h, x, hx => by
    unfold itemsG at h
    cases hc : decide (f d n < 0) <;> rw [hc] at h
    · have h1 : ¬ f d n < 0 := by simpa using hc
      rcases List.mem_cons.1 hx with rfl | hx
      · exact ⟨n, hn, by omega⟩
      · exact itemsG_ok l (f d n) (by omega) h x hx
    · simp at h
theorem okD_items {nest : Int} {d : Dat} (h : okD nest d) (hk : ((d.at 0).toI == 6 || (d.at 0).toI == 7) = true) : nest + 1 ≤ 32 ∧ ∀ x ∈ (d.at 5).toL, okD (nest + 1) x := by
  obtain ⟨k, n, h0, h1⟩ := h
  cases k with
  | zero => simp [goodO] at h1
  | succ k =>
    unfold goodO at h1
    cases hc : decide (n + 1 > 65536) || !flatD d <;> rw [hc] at h1
    · rw [cond_false, hk, cond_true] at h1
      cases h2 : decide (nest + 1 > 32) <;> rw [h2] at h1
      · have : ¬ nest + 1 > 32 := by simpa using h2
        refine ⟨by omega, fun x hx => ?_⟩
        obtain ⟨n', e1, e2⟩ := itemsG_ok _ _ (by omega) h1 x hx
        exact ⟨k, n', e1, e2⟩
      · simp at h1
    · simp at h1
theorem keysR_nm : ∀ (ks pre : List Dat), keysR pre ks = true → ∀ x ∈ ks, namedB (x.at 0).toS = true
  | [], pre, _, x, hx => by cases hx
  | d :: r, pre, h, x, hx => by
    unfold keysR at h
    simp only [Bool.and_eq_true] at h
    rcases List.mem_cons.1 hx with rfl | hx
    · exact h.1
    · exact keysR_nm r _ h.2.2 x hx
theorem okD_keys {nest : Int} {ks l : List Dat} (h : okD nest (mkO 7 0 false ⟨#[]⟩ ks l)) : ∀ x ∈ ks, namedB (x.at 0).toS = true := by
  have hf := okD_flat h
  have hf : (!bareB 7 0 false ⟨#[]⟩ ks l && kindB 7 0 ⟨#[]⟩ ks l) = true := hf
  rw [Bool.and_eq_true] at hf
  have h2 : (bif ((ks.length : Int) != l.length) then false else keysR [] ks) = true := hf.2
  cases hc : ((ks.length : Int) != l.length) <;> rw [hc] at h2
  · exact keysR_nm ks [] h2
  · cases h2
theorem okD_kind {nest : Int} {k n : Int} {b : Bool} {t : ByteArray} (h : okD nest (plO k n b t)) : kindB k n t [] [] = true := by
  have hf : (!bareB k n b t [] [] && kindB k n t [] []) = true := okD_flat h
  rw [Bool.and_eq_true] at hf
  exact hf.2
structure FOk (f : ByteArray → Bool × Int) : Prop where
  nil : ∀ w : ByteArray, w.size = 0 → (f w).1 = false
  int : ∀ w, isI w = true → (f w).1 = true → (f w).2.tmod 65536 = 0
structure IOk : Prop where
  one : ∀ w, (intR w).2 = true → isI w = true ∧ (intR w).1 = atV w
  two : ∀ w, isI w = true → inB (atV w) = true → (intR w).2 = true
section
variable {f : ByteArray → Bool × Int} {s : ByteArray}
theorem word_A (hI : IOk) {a l : Int} {d : Dat} {p l' nest : Int} (h : sdS f s (sub' s a (wdA s a)) (wdA s a) l = some (d, p, l')) (hd : okD nest d) : atS f s a = (d, p, true) := by
  unfold sdS at h
  unfold atS
  generalize sub' s a (wdA s a) = w at h ⊢
  generalize wdA s a = e at h ⊢
  cases c1 : isT w nulT
  · cases c2 : isT w trueT
    · cases c3 : isT w falseT
      · simp only [c1, c2, c3, cond_false] at h ⊢
        cases c4 : isI w
        · have hr : (intR w).2 = false := by
            cases hq : (intR w).2
            · rfl
            · have := (hI.one w hq).1
              rw [c4] at this
              cases this
          simp only [c4, hr, cond_false] at h ⊢
          cases c5 : (f w).1
          · simp only [c5, cond_false] at h
            cases h
          · simp only [c5, cond_true] at h
            cases h
            have hk : (inB (f w).2 && (f w).2.tmod 65536 != 0) = true := okD_kind hd
            rw [Bool.and_eq_true] at hk
            rw [hk.2]
            rfl
        · simp only [c4, cond_true] at h
          cases c5 : rfB s e
          · simp only [c5, cond_false] at h
            cases h
            have hk : inB (atV w) = true := okD_kind hd
            have h2 := hI.two w c4 hk
            have h3 := (hI.one w h2).2
            simp only [h2, cond_true, c5, cond_false, h3]
          · simp only [c5, cond_true] at h
            cases h
            have hk : (decide (atV w ≥ 1) && decide (atV w ≤ 4096)) = true := okD_kind hd
            have hk2 := hk
            simp only [Bool.and_eq_true, decide_eq_true_eq] at hk2
            have hin : inB (atV w) = true := by
              unfold inB
              rw [decide_eq_true (by omega), decide_eq_true (by omega)]
              rfl
            have h2 := hI.two w c4 hin
            have h3 := (hI.one w h2).2
            simp only [h2, cond_true, c5, h3, hk]
      · simp only [c1, c2, c3, cond_false, cond_true] at h ⊢
        cases h
        rfl
    · simp only [c1, c2, cond_false, cond_true] at h ⊢
      cases h
      rfl
  · simp only [c1, cond_true] at h ⊢
    cases h
    rfl
theorem word_B (hI : IOk) (hF : FOk f) {a l : Int} {d : Dat} {p nest : Int} (h : atS f s a = (d, p, true)) (hd : okD nest d) : sdS f s (sub' s a (wdA s a)) (wdA s a) l = some (d, p, l) := by
  unfold atS at h
  unfold sdS
  generalize sub' s a (wdA s a) = w at h ⊢
  generalize wdA s a = e at h ⊢
  cases c1 : isT w nulT
  · cases c2 : isT w trueT
    · cases c3 : isT w falseT
      · simp only [c1, c2, c3, cond_false] at h ⊢
        cases hr : (intR w).2
        · simp only [hr, cond_false] at h
          injection h with e1 h
          injection h with e2 e3
          rw [Bool.and_eq_true] at e3
          subst e1 e2
          cases c4 : isI w
          · simp only [cond_false, e3.1, cond_true]
          · have := hF.int w c4 e3.1
            rw [this] at e3
            have := e3.2
            simp at this
        · obtain ⟨c4, hv⟩ := hI.one w hr
          simp only [hr, cond_true] at h
          simp only [c4, cond_true]
          cases c5 : rfB s e
          · simp only [c5, cond_false] at h ⊢
            injection h with e1 h
            injection h with e2 e3
            subst e1 e2
            rw [hv]
          · simp only [c5, cond_true] at h ⊢
            injection h with e1 h
            injection h with e2 e3
            subst e1 e2
            rw [hv]
      · simp only [c1, c2, c3, cond_false, cond_true] at h ⊢
        injection h with e1 h
        injection h with e2 e3
        rw [e1, e2]
    · simp only [c1, c2, cond_false, cond_true] at h ⊢
      injection h with e1 h
      injection h with e2 e3
      rw [e1, e2]
  · simp only [c1, cond_true] at h ⊢
    injection h with e1 h
    injection h with e2 e3
    rw [e1, e2]
def ObPr (s : ByteArray) (ob : Int → Int → Option ObR) : Prop := ∀ (a l : Int) (d : Dat) (p l' : Int), 0 ≤ a → a ≤ s.size → ob a l = some (d, p, l') → a < p ∧ l - l' ≤ p - a
theorem arP_pr {ob : Int → Int → Option ObR} (hob : ObBd s ob) (hp : ObPr s ob) : ∀ (k : Nat) (a l : Int) (acc : List Dat) (d : Dat) (p l' : Int), 0 ≤ a → a ≤ s.size → arP s ob k a l acc = some (d, p, l') → a < p ∧ l - l' ≤ p - a
  | 0, a, l, acc, d, p, l', _, _, h => by cases h
  | k + 1, a, l, acc, d, p, l', h0, h1, h => by
    unfold arP at h
    cases hc : isB s a 93 <;> rw [hc] at h
    · rw [cond_false] at h
      split at h
      · cases h
      · rename_i d' p' l2 he
        obtain ⟨e1, e2, e3, e4⟩ := hob a l _ _ _ h0 h1 he
        obtain ⟨f1, f2⟩ := hp a l _ _ _ h0 h1 he
        obtain ⟨b1, b2⟩ := blA_bd (s := s) (a := p') e2
        have := arP_pr hob hp k _ _ _ d p l' (by omega) b2 h
        omega
    · cases h
      omega
theorem dcP_pr {ob : Int → Int → Option ObR} (hob : ObBd s ob) (hp : ObPr s ob) : ∀ (k : Nat) (a l : Int) (ks acc : List Dat) (d : Dat) (p l' : Int), 0 ≤ a → a ≤ s.size → dcP s ob k a l ks acc = some (d, p, l') → a < p ∧ l - l' ≤ p - a
  | 0, a, l, ks, acc, d, p, l', _, _, h => by cases h
  | k + 1, a, l, ks, acc, d, p, l', h0, h1, h => by
    unfold dcP at h
    cases hc : isB s a 62 && isB s (a + 1) 62 <;> rw [hc] at h
    · rw [cond_false] at h
      obtain ⟨h47, h⟩ := bif_some h
      have hlt := isB_lt h47
      split at h
      · cases h
      · rename_i b q hq
        obtain ⟨n1, n2⟩ := nmP_bd s _ _ _ _ _ (by omega) hq
        obtain ⟨m1, m2⟩ := blA_bd (s := s) (a := q) n2
        split at h
        · cases h
        · rename_i d' p' l2 he
          obtain ⟨e1, e2, e3, e4⟩ := hob _ l _ _ _ (by omega) m2 he
          obtain ⟨f1, f2⟩ := hp _ l _ _ _ (by omega) m2 he
          obtain ⟨b1, b2⟩ := blA_bd (s := s) (a := p') e2
          have := dcP_pr hob hp k _ _ _ _ d p l' (by omega) b2 h
          omega
    · cases h
      omega
theorem sub_nil (s : ByteArray) (a : Int) : (sub' s a a).size = 0 := by
  unfold sub'
  rw [ByteArray.size_extract]
  omega
theorem sdS_nil (hF : FOk f) {w : ByteArray} (hw : w.size = 0) (a l : Int) : sdS f s w a l = none := by
  have hl : w.toList = [] := by
    rw [Lib.toList_data]
    have : w.data.toList.length = 0 := hw
    exact List.length_eq_zero_iff.1 this
  have hd : w.data.toList = [] := by rw [← Lib.toList_data]; exact hl
  have h1 : ∀ t : ByteArray, (match t.toList with | [] => false | _ => true) = true → isT w t = false := fun t ht => by
    unfold isT
    rw [hl]
    cases h : t.toList with
    | nil => rw [h] at ht; cases ht
    | cons x y => rfl
  have hk : isI w = false := by
    unfold isI atK
    rw [hd]
    rfl
  unfold sdS
  rw [h1 nulT (by rw [Lib.toList_data]; rfl), h1 trueT (by rw [Lib.toList_data]; rfl), h1 falseT (by rw [Lib.toList_data]; rfl), hk, hF.nil w hw]
  rfl
theorem obB_pr (hF : FOk f) {ob : Int → Int → Option ObR} (hob : ObBd s ob) (hp : ObPr s ob) {a deep l : Int} {d : Dat} {p l' : Int} (h0 : 0 ≤ a) (h1 : a ≤ s.size) (h : obB f s ob a deep l = some (d, p, l')) : a < p ∧ l + 1 - l' ≤ p - a := by
  have ht : ∀ (n : Int) (o : Option (List Dat × Int)), (∀ x b, o = some (x, b) → a < b) → txR n o l = some (d, p, l') → a < p ∧ l + 1 - l' ≤ p - a := fun n o ho e => by
    obtain ⟨⟨x, b⟩, hx, e⟩ := Option.map_eq_some_iff.1 e
    cases e
    have := ho x b hx
    exact ⟨this, by show l + 1 - l ≤ b - a; omega⟩
  unfold obB at h
  obtain ⟨hl, h⟩ := bif_some h
  cases c1 : isB s a 60 && isB s (a + 1) 60 <;> rw [c1] at h
  · cases c2 : isB s a 60 <;> rw [c2] at h
    · cases c3 : isB s a 40 <;> rw [c3] at h
      · cases c4 : isB s a 47 <;> rw [c4] at h
        · cases c5 : isB s a 91 <;> rw [c5] at h
          · have hw1 : a ≤ wdA s a := skA_ge _ _ _
            have hw2 : wdA s a ≤ s.size := skA_le _ _ _ h1
            have h : sdS f s (sub' s a (wdA s a)) (wdA s a) l = some (d, p, l') := h
            obtain ⟨e1, e2, e3⟩ := sdS_bd f (by omega) hw2 h
            have : a ≠ wdA s a := fun e => by
              rw [← e, sdS_nil hF (sub_nil s a)] at h
              cases h
            omega
          · have := isB_lt c5
            have h : arR s ob (a + 1) deep l = some (d, p, l') := h
            unfold arR at h
            obtain ⟨_, h⟩ := bif_some h
            obtain ⟨b1, b2⟩ := blA_bd (s := s) (a := a + 1) (by omega)
            have := arP_pr hob hp _ _ _ _ _ _ _ (by omega) b2 h
            omega
        · have := isB_lt c4
          exact ht 4 _ (fun x b e => by have := nmP_bd s _ _ _ _ _ (by omega) e; omega) h
      · exact ht 5 _ (fun x b e => by have := quP_bd s _ _ _ _ _ _ e; omega) h
    · exact ht 5 _ (fun x b e => by have := hxP_bd s _ _ _ _ _ e; omega) h
  · rw [Bool.and_eq_true] at c1
    have := isB_lt c1.2
    have h : dcR s ob (a + 2) deep l = some (d, p, l') := h
    unfold dcR at h
    obtain ⟨_, h⟩ := bif_some h
    obtain ⟨b1, b2⟩ := blA_bd (s := s) (a := a + 2) (by omega)
    have := dcP_pr hob hp _ _ _ _ _ _ _ _ (by omega) b2 h
    omega
theorem obP_pr (hF : FOk f) : ∀ (k : Nat) (deep : Int), ObPr s fun a l => obP f s k a deep l
  | 0, deep => fun a l d p l' _ _ h => by cases h
  | k + 1, deep => fun a l d p l' h0 h1 h => by
    have h : obB f s (fun a l => obP f s k a (deep - 1) l) a deep (l - 1) = some (d, p, l') := h
    have := obB_pr hF (obP_bd f s k (deep - 1)) (obP_pr hF k (deep - 1)) h0 h1 h
    omega
end
end Go.Proofs.YtckdgcpomkefpaaGreatDoor.En
end
section
set_option linter.unusedVariables false
set_option linter.unusedSimpArgs false
set_option maxRecDepth 100000
namespace Go.Proofs.YtckdgcpomkefpaaGreatDoor.En
open Go
section
variable {f : ByteArray → Bool × Int} {s : ByteArray}
theorem arP_form {ob : Int → Int → Option ObR} : ∀ (q : Nat) (a l : Int) (acc : List Dat) (d : Dat) (p l' : Int), arP s ob q a l acc = some (d, p, l') → ∃ items, d = mkO 6 0 false ⟨#[]⟩ [] items ∧ ∀ x ∈ acc, x ∈ items
  | 0, a, l, acc, d, p, l', h => by cases h
  | q + 1, a, l, acc, d, p, l', h => by
    unfold arP at h
    cases hc : isB s a 93 <;> rw [hc] at h
    · rw [cond_false] at h
      split at h
      · cases h
      · obtain ⟨items, h1, h2⟩ := arP_form q _ _ _ d p l' h
        exact ⟨items, h1, fun x hx => h2 x (List.mem_append_left _ hx)⟩
    · cases h
      exact ⟨acc, rfl, fun x hx => hx⟩
theorem dcP_form {ob : Int → Int → Option ObR} : ∀ (q : Nat) (a l : Int) (ks acc : List Dat) (d : Dat) (p l' : Int), dcP s ob q a l ks acc = some (d, p, l') → ∃ ks' items, d = mkO 7 0 false ⟨#[]⟩ ks' items ∧ (∀ x ∈ acc, x ∈ items) ∧ ∀ x ∈ ks, x ∈ ks'
  | 0, a, l, ks, acc, d, p, l', h => by cases h
  | q + 1, a, l, ks, acc, d, p, l', h => by
    unfold dcP at h
    cases hc : isB s a 62 && isB s (a + 1) 62 <;> rw [hc] at h
    · rw [cond_false] at h
      obtain ⟨_, h⟩ := bif_some h
      split at h
      · cases h
      · split at h
        · cases h
        · obtain ⟨ks', items, h1, h2, h3⟩ := dcP_form q _ _ _ _ d p l' h
          exact ⟨ks', items, h1, fun x hx => h2 x (List.mem_append_left _ hx), fun x hx => h3 x (List.mem_append_left _ hx)⟩
    · cases h
      exact ⟨ks, acc, rfl, fun x hx => hx, fun x hx => hx⟩
theorem rlP_form {rd : Int → RdR} : ∀ (q : Nat) (a : Int) (acc : List Dat), (rlP s rd q a acc).2.2 = true → ∃ items, (rlP s rd q a acc).1 = mkO 6 0 false ⟨#[]⟩ [] items ∧ ∀ x ∈ acc, x ∈ items
  | 0, a, acc, h => by cases h
  | q + 1, a, acc, h => by
    unfold rlP at h ⊢
    cases hc : isB s (blA s a) 93
    · simp only [hc, cond_false] at h ⊢
      cases hx : !(rd (blA s a)).2.2 || decide ((acc.length : Int) > 65536)
      · simp only [hx, cond_false] at h ⊢
        obtain ⟨items, h1, h2⟩ := rlP_form q _ _ h
        exact ⟨items, h1, fun x hx => h2 x (List.mem_append_left _ hx)⟩
      · simp only [hx, cond_true] at h
        cases h
    · simp only [hc, cond_true] at h ⊢
      exact ⟨acc, rfl, fun x hx => hx⟩
theorem rkP_form {rd : Int → RdR} : ∀ (q : Nat) (a : Int) (ks acc : List Dat), (rkP s rd q a ks acc).2.2 = true → ∃ ks' items, (rkP s rd q a ks acc).1 = mkO 7 0 false ⟨#[]⟩ ks' items ∧ (∀ x ∈ acc, x ∈ items) ∧ ∀ x ∈ ks, x ∈ ks'
  | 0, a, ks, acc, h => by cases h
  | q + 1, a, ks, acc, h => by
    unfold rkP at h ⊢
    cases hc : isB s (blA s a) 62 && isB s (blA s a + 1) 62
    · simp only [hc, cond_false] at h ⊢
      cases h4 : isB s (blA s a) 47
      · simp only [h4, cond_false] at h
        cases h
      · simp only [h4, cond_true] at h ⊢
        cases hn : nmA s (blA s a + 1) with
        | none => simp only [hn] at h; cases h
        | some t =>
          obtain ⟨b, c⟩ := t
          simp only [hn] at h ⊢
          cases hx : !namedB (bytesOf b) || decide ((acc.length : Int) > 65536)
          · simp only [hx, cond_false] at h ⊢
            cases hy : (rd (blA s c)).2.2
            · simp only [hy, Bool.not_false, cond_true] at h
              cases h
            · simp only [hy, Bool.not_true, cond_false] at h ⊢
              obtain ⟨ks', items, h1, h2, h3⟩ := rkP_form q _ _ _ h
              exact ⟨ks', items, h1, fun x hx => h2 x (List.mem_append_left _ hx), fun x hx => h3 x (List.mem_append_left _ hx)⟩
          · simp only [hx, cond_true] at h
            cases h
    · simp only [hc, cond_true] at h ⊢
      exact ⟨ks, acc, rfl, fun x hx => hx, fun x hx => hx⟩
def DirA (s : ByteArray) (nest : Int) (ob : Int → Int → Option ObR) (rd : Int → RdR) : Prop := ∀ (a l : Int) (d : Dat) (p l' : Int), 0 ≤ a → a ≤ s.size → l ≤ 65536 → ob a l = some (d, p, l') → okD nest d → rd a = (d, p, true)
theorem arA {nest : Int} {ob : Int → Int → Option ObR} {rd : Int → RdR} (hob : ObBd s ob) (hA : DirA s nest ob rd) : ∀ (q q2 : Nat) (a l : Int) (acc : List Dat) (d : Dat) (p l' : Int), 0 ≤ a → a ≤ s.size → 0 ≤ l → (acc.length : Int) + l ≤ 65536 → acc.length + q2 = 65540 →
    arP s ob q (blA s a) l acc = some (d, p, l') → (∀ x ∈ (d.at 5).toL, okD nest x) → rlP s rd q2 a acc = (d, p, true)
  | 0, q2, a, l, acc, d, p, l', _, _, _, _, _, h, _ => by cases h
  | q + 1, 0, a, l, acc, d, p, l', _, _, h0, h1, h2, _, _ => by omega
  | q + 1, q2 + 1, a, l, acc, d, p, l', h0, h1, l0, hl, hq, h, hd => by
    obtain ⟨b1, b2⟩ := blA_bd (s := s) (a := a) h1
    have hform := arP_form _ _ _ _ _ _ _ h
    unfold arP at h
    unfold rlP
    cases hc : isB s (blA s a) 93 <;> rw [hc] at h
    · rw [cond_false] at h
      simp only [cond_false]
      split at h
      · cases h
      · rename_i d' p' l2 he
        obtain ⟨e1, e2, e3, e4⟩ := hob _ l _ _ _ (by omega) b2 he
        obtain ⟨items, f1, f2⟩ := arP_form _ _ _ _ _ _ _ h
        have hm : nrm d' ∈ (d.at 5).toL := by
          rw [f1]
          exact f2 _ (by simp)
        have hx := hA _ l _ _ _ (by omega) b2 (by omega) he (okD_nrm (hd _ hm))
        rw [hx]
        simp only [Bool.not_true, Bool.false_or]
        rw [decide_eq_false (by omega), cond_false]
        exact arA hob hA q q2 p' l2 _ d p l' (by omega) e2 e3 (by simp; omega) (by simp; omega) h hd
    · cases h
      rfl
theorem dcA {nest : Int} {ob : Int → Int → Option ObR} {rd : Int → RdR} (hob : ObBd s ob) (hA : DirA s nest ob rd) : ∀ (q q2 : Nat) (a l : Int) (ks acc : List Dat) (d : Dat) (p l' : Int), 0 ≤ a → a ≤ s.size → 0 ≤ l → (acc.length : Int) + l ≤ 65536 → acc.length + q2 = 65540 →
    dcP s ob q (blA s a) l ks acc = some (d, p, l') → (∀ x ∈ (d.at 5).toL, okD nest x) → (∀ x ∈ (d.at 4).toL, namedB (x.at 0).toS = true) → rkP s rd q2 a ks acc = (d, p, true)
  | 0, q2, a, l, ks, acc, d, p, l', _, _, _, _, _, h, _, _ => by cases h
  | q + 1, 0, a, l, ks, acc, d, p, l', _, _, h0, h1, h2, _, _, _ => by omega
  | q + 1, q2 + 1, a, l, ks, acc, d, p, l', h0, h1, l0, hl, hq, h, hd, hk => by
    obtain ⟨b1, b2⟩ := blA_bd (s := s) (a := a) h1
    unfold dcP at h
    unfold rkP
    cases hc : isB s (blA s a) 62 && isB s (blA s a + 1) 62 <;> rw [hc] at h
    · rw [cond_false] at h
      simp only [cond_false]
      obtain ⟨h47, h⟩ := bif_some h
      have hlt := isB_lt h47
      rw [h47, cond_true]
      split at h
      · cases h
      · rename_i b c hn
        rw [hn]
        obtain ⟨n1, n2⟩ := nmP_bd s _ _ _ _ _ (by omega) hn
        obtain ⟨m1, m2⟩ := blA_bd (s := s) (a := c) n2
        dsimp only
        split at h
        · cases h
        · rename_i d' p' l2 he
          obtain ⟨e1, e2, e3, e4⟩ := hob _ l _ _ _ (by omega) m2 he
          obtain ⟨ks', items, f1, f2, f3⟩ := dcP_form _ _ _ _ _ _ _ _ h
          have hm : nrm d' ∈ (d.at 5).toL := by
            rw [f1]
            exact f2 _ (by simp)
          have hmk : Dat.str (bytesOf b) ∈ (d.at 4).toL := by
            rw [f1]
            exact f3 _ (by simp)
          have hnm : namedB (bytesOf b) = true := hk _ hmk
          have hx := hA _ l _ _ _ (by omega) m2 (by omega) he (okD_nrm (hd _ hm))
          rw [hx, hnm]
          simp only [Bool.not_true, Bool.false_or, cond_false]
          rw [decide_eq_false (by omega), cond_false]
          exact dcA hob hA q q2 p' l2 _ _ d p l' (by omega) e2 e3 (by simp; omega) (by simp; omega) h hd hk
    · cases h
      rfl
theorem isB_eq {a c : Int} (h : a < s.size) : isB s a c = (bt s a == c) := by
  unfold isB
  rw [decide_eq_true h]
  rfl
theorem tx_A {k : Int} {o : Option (List Dat × Int)} {l : Int} {d : Dat} {p l' : Int} {g : ByteArray → Bool} (h : txR k o l = some (d, p, l')) (hg : ∀ b, d = plO k 0 false (bytesOf b) → g (bytesOf b) = true) : tx3 k o g = (d, p, true) := by
  obtain ⟨⟨b, c⟩, hx, e⟩ := Option.map_eq_some_iff.1 h
  cases e
  subst hx
  show (plO k 0 false (bytesOf b), c, g (bytesOf b)) = _
  rw [hg b rfl]
theorem rdB_name {rd : Int → RdR} {a nest : Int} (hlt : a < s.size) (hn : nest ≤ 32) (e : bt s a = 47) : rdB f s rd a nest = tx3 4 (nmA s (a + 1)) namedB := by
  unfold rdB
  rw [decide_eq_false (p := a ≥ (s.size : Int)) (by omega), decide_eq_false (p := nest > 32) (by omega), e, show ((47 : Int) == 47) = true from rfl, Bool.or_false, cond_false, cond_true]
theorem rdB_text {rd : Int → RdR} {a nest : Int} (hlt : a < s.size) (hn : nest ≤ 32) (e : bt s a = 40) : rdB f s rd a nest = tx3 5 (txA s (a + 1)) (fun _ => true) := by
  unfold rdB
  rw [decide_eq_false (p := a ≥ (s.size : Int)) (by omega), decide_eq_false (p := nest > 32) (by omega), e, show ((40 : Int) == 47) = false from rfl, show ((40 : Int) == 40) = true from rfl, Bool.or_false, cond_false, cond_false, cond_true]
theorem rdB_list {rd : Int → RdR} {a nest : Int} (hlt : a < s.size) (hn : nest ≤ 32) (e : bt s a = 91) : rdB f s rd a nest = rlP s rd fuN (a + 1) [] := by
  unfold rdB
  rw [decide_eq_false (p := a ≥ (s.size : Int)) (by omega), decide_eq_false (p := nest > 32) (by omega), e, show ((91 : Int) == 47) = false from rfl, show ((91 : Int) == 40) = false from rfl, show ((91 : Int) == 91) = true from rfl, Bool.or_false, cond_false, cond_false, cond_false, cond_true]
theorem rdB_dict {rd : Int → RdR} {a nest : Int} (hlt : a < s.size) (hn : nest ≤ 32) (e : bt s a = 60) (e2 : isB s (a + 1) 60 = true) : rdB f s rd a nest = rkP s rd fuN (a + 2) [] [] := by
  unfold rdB
  rw [decide_eq_false (p := a ≥ (s.size : Int)) (by omega), decide_eq_false (p := nest > 32) (by omega), e, e2, show ((60 : Int) == 47) = false from rfl, show ((60 : Int) == 40) = false from rfl, show ((60 : Int) == 91) = false from rfl, show ((60 : Int) == 60) = true from rfl, Bool.or_false, cond_false, cond_false, cond_false, cond_false, cond_true, cond_true]
theorem rdB_hex {rd : Int → RdR} {a nest : Int} (hlt : a < s.size) (hn : nest ≤ 32) (e : bt s a = 60) (e2 : isB s (a + 1) 60 = false) : rdB f s rd a nest = tx3 5 (hxA s (a + 1)) (fun _ => true) := by
  unfold rdB
  rw [decide_eq_false (p := a ≥ (s.size : Int)) (by omega), decide_eq_false (p := nest > 32) (by omega), e, e2, show ((60 : Int) == 47) = false from rfl, show ((60 : Int) == 40) = false from rfl, show ((60 : Int) == 91) = false from rfl, show ((60 : Int) == 60) = true from rfl, Bool.or_false, cond_false, cond_false, cond_false, cond_false, cond_true, cond_false]
theorem rdB_atom {rd : Int → RdR} {a nest : Int} (hlt : a < s.size) (hn : nest ≤ 32) (e1 : (bt s a == 47) = false) (e2 : (bt s a == 40) = false) (e3 : (bt s a == 91) = false) (e4 : (bt s a == 60) = false) : rdB f s rd a nest = atS f s a := by
  unfold rdB
  rw [decide_eq_false (p := a ≥ (s.size : Int)) (by omega), decide_eq_false (p := nest > 32) (by omega), e1, e2, e3, e4, Bool.or_false, cond_false, cond_false, cond_false, cond_false, cond_false]
theorem isB_val {a c : Int} (h : isB s a c = true) : bt s a = c := by
  unfold isB at h
  rw [Bool.and_eq_true, beq_iff_eq] at h
  exact h.2
def DA (f : ByteArray → Bool × Int) (s : ByteArray) (k k2 : Nat) (nest : Int) : Prop := ∀ (a l : Int) (d : Dat) (p l' : Int), 0 ≤ a → a ≤ s.size → l ≤ 65536 → obP f s k a (32 - nest) l = some (d, p, l') → okD nest d → rdP f s k2 a nest = (d, p, true)
theorem obP_succ (f : ByteArray → Bool × Int) (s : ByteArray) (k : Nat) (a deep l : Int) : obP f s (k + 1) a deep l = obB f s (fun a l => obP f s k a (deep - 1) l) a deep (l - 1) := rfl
theorem dirA_step (hI : IOk) (hF : FOk f) {k k2 : Nat} {nest : Int} (n0 : 0 ≤ nest) (n1 : nest ≤ 32) (ih : ∀ nest : Int, 0 ≤ nest → nest ≤ 32 → DA f s k k2 nest) : DA f s (k + 1) (k2 + 1) nest := fun a l d p l' h0 h1 hl h hd => by
  have hob := obP_bd f s k (32 - nest - 1)
  rw [obP_succ] at h
  rw [rdP_succ]
  -- items
  have hit : ((d.at 0).toI == 6 || (d.at 0).toI == 7) = true → (∀ x ∈ (d.at 5).toL, okD (nest + 1) x) ∧ DirA s (nest + 1) (fun a l => obP f s k a (32 - nest - 1) l) (fun a => rdP f s k2 a (nest + 1)) := fun hk7 => by
    have := okD_items hd hk7
    refine ⟨this.2, fun a l d p l' g0 g1 gl g2 g3 => ?_⟩
    dsimp only at g2
    rw [show 32 - nest - 1 = 32 - (nest + 1) by omega] at g2
    exact ih (nest + 1) (by omega) this.1 a l d p l' g0 g1 gl g2 g3
  unfold obB at h
  obtain ⟨hl2, h⟩ := bif_some h
  rw [decide_eq_true_eq] at hl2
  cases c1 : isB s a 60 && isB s (a + 1) 60
  · simp only [c1, cond_false] at h
    cases c2 : isB s a 60
    · simp only [c2, cond_false] at h
      cases c3 : isB s a 40
      · simp only [c3, cond_false] at h
        cases c4 : isB s a 47
        · simp only [c4, cond_false] at h
          cases c5 : isB s a 91
          · simp only [c5, cond_false] at h
            have hlt : a < s.size := by
              by_cases hlt : a < s.size
              · exact hlt
              · have hw : wdA s a = a := by
                  unfold wdA
                  rw [skA_eq, decide_eq_false hlt]
                  rfl
                rw [hw, sdS_nil hF (sub_nil s a)] at h
                cases h
            rw [isB_eq hlt] at c2 c3 c4 c5
            exact (rdB_atom hlt n1 c4 c3 c5 c2).trans (word_A hI h hd)
          · have hlt := isB_lt c5
            simp only [c5, cond_true] at h
            unfold arR at h
            obtain ⟨_, h⟩ := bif_some h
            obtain ⟨items, f1, f2⟩ := arP_form _ _ _ _ _ _ _ h
            obtain ⟨g1, g2⟩ := hit (by rw [f1]; rfl)
            exact (rdB_list hlt n1 (isB_val c5)).trans (arA hob g2 _ fuN (a + 1) (l - 1) [] d p l' (by omega) (by omega) hl2 (by simp; omega) (by simp [fuN_eq]) h g1)
        · have hlt := isB_lt c4
          simp only [c4, cond_true] at h
          exact (rdB_name hlt n1 (isB_val c4)).trans (tx_A h fun b e => by
            rw [e] at hd
            exact okD_kind hd)
      · have hlt := isB_lt c3
        simp only [c3, cond_true] at h
        exact (rdB_text hlt n1 (isB_val c3)).trans (tx_A h fun b e => rfl)
    · have hlt := isB_lt c2
      simp only [c2, cond_true] at h
      have c6 : isB s (a + 1) 60 = false := by
        rw [c2, Bool.true_and] at c1
        exact c1
      exact (rdB_hex hlt n1 (isB_val c2) c6).trans (tx_A h fun b e => rfl)
  · simp only [c1, cond_true] at h
    rw [Bool.and_eq_true] at c1
    have hlt := isB_lt c1.1
    have hlt2 := isB_lt c1.2
    unfold dcR at h
    obtain ⟨_, h⟩ := bif_some h
    obtain ⟨ks', items, f1, f2, f3⟩ := dcP_form _ _ _ _ _ _ _ _ h
    obtain ⟨g1, g2⟩ := hit (by rw [f1]; rfl)
    refine (rdB_dict hlt n1 (isB_val c1.1) c1.2).trans (dcA hob g2 _ fuN (a + 2) (l - 1) [] [] d p l' (by omega) (by omega) hl2 (by simp; omega) (by simp [fuN_eq]) h g1 ?_)
    rw [f1] at hd ⊢
    exact okD_keys hd
theorem dirA (hI : IOk) (hF : FOk f) : ∀ (k k2 : Nat) (nest : Int), k ≤ k2 → 0 ≤ nest → nest ≤ 32 → DA f s k k2 nest
  | 0, k2, nest, _, _, _ => fun a l d p l' _ _ _ h _ => by cases h
  | k + 1, 0, nest, hk, _, _ => by omega
  | k + 1, k2 + 1, nest, hk, n0, n1 => dirA_step hI hF n0 n1 fun nest' h0 h1 => dirA hI hF k k2 nest' (by omega) h0 h1
def DirB (s : ByteArray) (nest : Int) (ob : Int → Int → Option ObR) (rd : Int → RdR) : Prop := ∀ (a l : Int) (d : Dat) (p : Int), 0 ≤ a → a ≤ s.size → s.size - a < l → l ≤ 65536 → rd a = (d, p, true) → okD nest d → ∃ l', ob a l = some (d, p, l')
theorem rd_eq {x : RdR} (h : x.2.2 = true) : x = (x.1, x.2.1, true) := by
  obtain ⟨d, p, b⟩ := x
  have h : b = true := h
  rw [h]
theorem arB {nest : Int} {ob : Int → Int → Option ObR} {rd : Int → RdR} (hob : ObBd s ob) (hpr : ObPr s ob) (hB : DirB s nest ob rd) : ∀ (q2 q : Nat) (a l : Int) (acc : List Dat) (d : Dat) (p : Int), 0 ≤ a → a ≤ s.size → s.size - a < l → l ≤ 65536 → l.toNat < q →
    rlP s rd q2 a acc = (d, p, true) → (∀ x ∈ (d.at 5).toL, okD nest x) → ∃ l', arP s ob q (blA s a) l acc = some (d, p, l')
  | 0, q, a, l, acc, d, p, _, _, _, _, _, h, _ => by cases h
  | q2 + 1, 0, a, l, acc, d, p, _, _, _, _, hq, _, _ => by omega
  | q2 + 1, q + 1, a, l, acc, d, p, h0, h1, hl, hl2, hq, h, hd => by
    obtain ⟨b1, b2⟩ := blA_bd (s := s) (a := a) h1
    unfold rlP at h
    unfold arP
    cases hc : isB s (blA s a) 93
    · simp only [hc, cond_false] at h ⊢
      cases hx : !(rd (blA s a)).2.2 || decide ((acc.length : Int) > 65536)
      · simp only [hx, cond_false] at h
        rw [Bool.or_eq_false_iff, Bool.not_eq_false'] at hx
        obtain ⟨items, f1, f2⟩ := rlP_form (s := s) (rd := rd) q2 _ _ (by rw [h])
        rw [h] at f1
        have f1 : d = mkO 6 0 false ⟨#[]⟩ [] items := f1
        have hm : nrm (rd (blA s a)).1 ∈ (d.at 5).toL := by
          rw [f1]
          exact f2 _ (by simp)
        obtain ⟨l2, he⟩ := hB (blA s a) l _ _ (by omega) b2 (by omega) hl2 (rd_eq hx.1) (okD_nrm (hd _ hm))
        obtain ⟨e1, e2, e3, e4⟩ := hob _ l _ _ _ (by omega) b2 he
        obtain ⟨g1, g2⟩ := hpr _ l _ _ _ (by omega) b2 he
        rw [he]
        exact arB hob hpr hB q2 q _ l2 _ d p (by omega) e2 (by omega) (by omega) (by omega) h hd
      · simp only [hx, cond_true] at h
        cases h
    · simp only [hc, cond_true] at h ⊢
      injection h with e1 h
      injection h with e2 e3
      rw [e1, e2]
      exact ⟨l, rfl⟩
theorem dcB {nest : Int} {ob : Int → Int → Option ObR} {rd : Int → RdR} (hob : ObBd s ob) (hpr : ObPr s ob) (hB : DirB s nest ob rd) : ∀ (q2 q : Nat) (a l : Int) (ks acc : List Dat) (d : Dat) (p : Int), 0 ≤ a → a ≤ s.size → s.size - a < l → l ≤ 65536 → l.toNat < q →
    rkP s rd q2 a ks acc = (d, p, true) → (∀ x ∈ (d.at 5).toL, okD nest x) → ∃ l', dcP s ob q (blA s a) l ks acc = some (d, p, l')
  | 0, q, a, l, ks, acc, d, p, _, _, _, _, _, h, _ => by cases h
  | q2 + 1, 0, a, l, ks, acc, d, p, _, _, _, _, hq, _, _ => by omega
  | q2 + 1, q + 1, a, l, ks, acc, d, p, h0, h1, hl, hl2, hq, h, hd => by
    obtain ⟨b1, b2⟩ := blA_bd (s := s) (a := a) h1
    unfold rkP at h
    unfold dcP
    cases hc : isB s (blA s a) 62 && isB s (blA s a + 1) 62
    · simp only [hc, cond_false] at h ⊢
      cases h4 : isB s (blA s a) 47
      · simp only [h4, cond_false] at h
        cases h
      · have hlt := isB_lt h4
        simp only [h4, cond_true] at h ⊢
        cases hn : nmA s (blA s a + 1) with
        | none => simp only [hn] at h; cases h
        | some t =>
          obtain ⟨b, c⟩ := t
          obtain ⟨n1, n2⟩ := nmP_bd s _ _ _ _ _ (by omega) hn
          obtain ⟨m1, m2⟩ := blA_bd (s := s) (a := c) n2
          simp only [hn] at h ⊢
          cases hx : !namedB (bytesOf b) || decide ((acc.length : Int) > 65536)
          · simp only [hx, cond_false] at h
            cases hy : (rd (blA s c)).2.2
            · simp only [hy, Bool.not_false, cond_true] at h
              cases h
            · simp only [hy, Bool.not_true, cond_false] at h
              obtain ⟨ks', items, f1, f2, f3⟩ := rkP_form (s := s) (rd := rd) q2 _ _ _ (by rw [h])
              rw [h] at f1
              have f1 : d = mkO 7 0 false ⟨#[]⟩ ks' items := f1
              have hm : nrm (rd (blA s c)).1 ∈ (d.at 5).toL := by
                rw [f1]
                exact f2 _ (by simp)
              obtain ⟨l2, he⟩ := hB (blA s c) l _ _ (by omega) m2 (by omega) hl2 (rd_eq hy) (okD_nrm (hd _ hm))
              obtain ⟨e1, e2, e3, e4⟩ := hob _ l _ _ _ (by omega) m2 he
              obtain ⟨g1, g2⟩ := hpr _ l _ _ _ (by omega) m2 he
              rw [he]
              exact dcB hob hpr hB q2 q _ l2 _ _ d p (by omega) e2 (by omega) (by omega) (by omega) h hd
          · simp only [hx, cond_true] at h
            cases h
    · simp only [hc, cond_true] at h ⊢
      injection h with e1 h
      injection h with e2 e3
      rw [e1, e2]
      exact ⟨l, rfl⟩
end
end Go.Proofs.YtckdgcpomkefpaaGreatDoor.En
end
section
set_option linter.unusedVariables false
set_option linter.unusedSimpArgs false
set_option maxRecDepth 100000
namespace Go.Proofs.YtckdgcpomkefpaaGreatDoor.En
open Go
section
variable {f : ByteArray → Bool × Int} {s : ByteArray}
theorem obB_name {ob : Int → Int → Option ObR} {a deep l : Int} (hlt : a < s.size) (hl : 0 ≤ l) (e : bt s a = 47) : obB f s ob a deep l = txR 4 (nmA s (a + 1)) l := by
  unfold obB
  rw [decide_eq_true (p := l ≥ 0) hl, isB_eq (c := 60) hlt, isB_eq (c := 40) hlt, isB_eq (c := 47) hlt, isB_eq (c := 91) hlt, e]
  simp only [show ((47 : Int) == 60) = false from rfl, show ((47 : Int) == 40) = false from rfl, show ((47 : Int) == 47) = true from rfl, show ((47 : Int) == 91) = false from rfl, Bool.false_and, Bool.true_and, cond_true, cond_false]
theorem obB_text {ob : Int → Int → Option ObR} {a deep l : Int} (hlt : a < s.size) (hl : 0 ≤ l) (e : bt s a = 40) : obB f s ob a deep l = txR 5 (txA s (a + 1)) l := by
  unfold obB
  rw [decide_eq_true (p := l ≥ 0) hl, isB_eq (c := 60) hlt, isB_eq (c := 40) hlt, isB_eq (c := 47) hlt, isB_eq (c := 91) hlt, e]
  simp only [show ((40 : Int) == 60) = false from rfl, show ((40 : Int) == 40) = true from rfl, show ((40 : Int) == 47) = false from rfl, show ((40 : Int) == 91) = false from rfl, Bool.false_and, Bool.true_and, cond_true, cond_false]
theorem obB_list {ob : Int → Int → Option ObR} {a deep l : Int} (hlt : a < s.size) (hl : 0 ≤ l) (e : bt s a = 91) : obB f s ob a deep l = arR s ob (a + 1) deep l := by
  unfold obB
  rw [decide_eq_true (p := l ≥ 0) hl, isB_eq (c := 60) hlt, isB_eq (c := 40) hlt, isB_eq (c := 47) hlt, isB_eq (c := 91) hlt, e]
  simp only [show ((91 : Int) == 60) = false from rfl, show ((91 : Int) == 40) = false from rfl, show ((91 : Int) == 47) = false from rfl, show ((91 : Int) == 91) = true from rfl, Bool.false_and, Bool.true_and, cond_true, cond_false]
theorem obB_dict {ob : Int → Int → Option ObR} {a deep l : Int} (hlt : a < s.size) (hl : 0 ≤ l) (e : bt s a = 60) (e2 : isB s (a + 1) 60 = true) : obB f s ob a deep l = dcR s ob (a + 2) deep l := by
  unfold obB
  rw [decide_eq_true (p := l ≥ 0) hl, isB_eq (c := 60) hlt, isB_eq (c := 40) hlt, isB_eq (c := 47) hlt, isB_eq (c := 91) hlt, e]
  simp only [e2, show ((60 : Int) == 60) = true from rfl, show ((60 : Int) == 40) = false from rfl, show ((60 : Int) == 47) = false from rfl, show ((60 : Int) == 91) = false from rfl, Bool.false_and, Bool.true_and, cond_true, cond_false]
theorem obB_hex {ob : Int → Int → Option ObR} {a deep l : Int} (hlt : a < s.size) (hl : 0 ≤ l) (e : bt s a = 60) (e2 : isB s (a + 1) 60 = false) : obB f s ob a deep l = txR 5 (hxA s (a + 1)) l := by
  unfold obB
  rw [decide_eq_true (p := l ≥ 0) hl, isB_eq (c := 60) hlt, isB_eq (c := 40) hlt, isB_eq (c := 47) hlt, isB_eq (c := 91) hlt, e]
  simp only [e2, show ((60 : Int) == 60) = true from rfl, show ((60 : Int) == 40) = false from rfl, show ((60 : Int) == 47) = false from rfl, show ((60 : Int) == 91) = false from rfl, Bool.false_and, Bool.true_and, cond_true, cond_false]
theorem obB_atom {ob : Int → Int → Option ObR} {a deep l : Int} (hlt : a < s.size) (hl : 0 ≤ l) (e1 : (bt s a == 47) = false) (e2 : (bt s a == 40) = false) (e3 : (bt s a == 91) = false) (e4 : (bt s a == 60) = false) : obB f s ob a deep l = sdS f s (sub' s a (wdA s a)) (wdA s a) l := by
  unfold obB
  rw [decide_eq_true (p := l ≥ 0) hl, isB_eq (c := 60) hlt, isB_eq (c := 40) hlt, isB_eq (c := 47) hlt, isB_eq (c := 91) hlt]
  simp only [e1, e2, e3, e4, Bool.false_and, Bool.true_and, cond_true, cond_false]
theorem tx_B {k : Int} {o : Option (List Dat × Int)} {l : Int} {d : Dat} {p : Int} {g : ByteArray → Bool} (h : tx3 k o g = (d, p, true)) : txR k o l = some (d, p, l) := by
  cases o with
  | none =>
    unfold tx3 at h
    injection h with e1 h
    injection h with e2 e3
    cases e3
  | some t =>
    obtain ⟨b, c⟩ := t
    unfold tx3 at h
    dsimp only at h
    injection h with e1 h
    injection h with e2 e3
    unfold txR
    rw [Option.map_some, ← e1, ← e2]
def DB (f : ByteArray → Bool × Int) (s : ByteArray) (k2 k : Nat) (nest : Int) : Prop := ∀ (a l : Int) (d : Dat) (p : Int), 0 ≤ a → a ≤ s.size → s.size - a < l → l ≤ 65536 → rdP f s k a nest = (d, p, true) → okD nest d → ∃ l', obP f s k2 a (32 - nest) l = some (d, p, l')
theorem rdB_ok {rd : Int → RdR} {a nest : Int} {d : Dat} {p : Int} (h : rdB f s rd a nest = (d, p, true)) : a < s.size ∧ nest ≤ 32 := by
  unfold rdB at h
  cases hc : decide (a ≥ (s.size : Int)) || decide (nest > 32)
  · rw [Bool.or_eq_false_iff, decide_eq_false_iff_not, decide_eq_false_iff_not] at hc
    omega
  · rw [hc, cond_true] at h
    injection h with e1 h
    injection h with e2 e3
    cases e3
theorem dirB_step (hI : IOk) (hF : FOk f) {k2 k : Nat} {nest : Int} (n0 : 0 ≤ nest) (ih : DB f s k2 k (nest + 1)) : DB f s (k2 + 1) (k + 1) nest := fun a l d p h0 h1 hl hl2 h hd => by
  have hob := obP_bd f s k2 (32 - nest - 1)
  have hpr := obP_pr (s := s) hF k2 (32 - nest - 1)
  rw [rdP_succ] at h
  rw [obP_succ]
  obtain ⟨hlt, n1⟩ := rdB_ok h
  have hB : DirB s (nest + 1) (fun a l => obP f s k2 a (32 - nest - 1) l) (fun a => rdP f s k a (nest + 1)) := fun a l d p g0 g1 g2 g3 g4 g5 => by
    dsimp only at g4 ⊢
    rw [show 32 - nest - 1 = 32 - (nest + 1) by omega]
    exact ih a l d p g0 g1 g2 g3 g4 g5
  cases c1 : bt s a == 47
  · cases c2 : bt s a == 40
    · cases c3 : bt s a == 91
      · cases c4 : bt s a == 60
        · rw [rdB_atom hlt n1 c1 c2 c3 c4] at h
          rw [obB_atom hlt (by omega) c1 c2 c3 c4]
          exact ⟨_, word_B hI hF h hd⟩
        · have e := beq_iff_eq.1 c4
          cases c5 : isB s (a + 1) 60
          · rw [rdB_hex hlt n1 e c5] at h
            rw [obB_hex hlt (by omega) e c5]
            exact ⟨_, tx_B h⟩
          · have hlt2 := isB_lt c5
            rw [rdB_dict hlt n1 e c5] at h
            rw [obB_dict hlt (by omega) e c5]
            obtain ⟨ks', items, f1, f2, f3⟩ := rkP_form (s := s) (rd := fun a => rdP f s k a (nest + 1)) fuN (a + 2) [] [] (by rw [h])
            rw [h] at f1
            have f1 : d = mkO 7 0 false ⟨#[]⟩ ks' items := f1
            obtain ⟨g1, g2⟩ := okD_items hd (by rw [f1]; rfl)
            unfold dcR
            rw [decide_eq_true (p := 32 - nest > 0) (by omega), cond_true]
            exact dcB hob hpr hB fuN _ (a + 2) (l - 1) [] [] d p (by omega) (by omega) (by omega) (by omega) (by omega) h g2
      · have e := beq_iff_eq.1 c3
        rw [rdB_list hlt n1 e] at h
        rw [obB_list hlt (by omega) e]
        obtain ⟨items, f1, f2⟩ := rlP_form (s := s) (rd := fun a => rdP f s k a (nest + 1)) fuN (a + 1) [] (by rw [h])
        rw [h] at f1
        have f1 : d = mkO 6 0 false ⟨#[]⟩ [] items := f1
        obtain ⟨g1, g2⟩ := okD_items hd (by rw [f1]; rfl)
        unfold arR
        rw [decide_eq_true (p := 32 - nest > 0) (by omega), cond_true]
        exact arB hob hpr hB fuN _ (a + 1) (l - 1) [] d p (by omega) (by omega) (by omega) (by omega) (by omega) h g2
    · have e := beq_iff_eq.1 c2
      rw [rdB_text hlt n1 e] at h
      rw [obB_text hlt (by omega) e]
      exact ⟨_, tx_B h⟩
  · have e := beq_iff_eq.1 c1
    rw [rdB_name hlt n1 e] at h
    rw [obB_name hlt (by omega) e]
    exact ⟨_, tx_B h⟩
theorem dirB (hI : IOk) (hF : FOk f) : ∀ (k2 k : Nat) (nest : Int), 0 ≤ nest → 33 ≤ nest + k2 → DB f s k2 k nest
  | k2, 0, nest, n0, hk => fun a l d p h0 h1 hl hl2 h hd => by
    have : (rdP f s 0 a nest).2.2 = true := by rw [h]
    cases this
  | 0, k + 1, nest, n0, hk => fun a l d p h0 h1 hl hl2 h hd => by
    rw [rdP_succ] at h
    have := (rdB_ok h).2
    omega
  | k2 + 1, k + 1, nest, n0, hk => dirB_step hI hF n0 (dirB hI hF k2 k (nest + 1) (by omega) (by omega))
theorem good_mk (d : Dat) : (ogO 101 (nrm d) 32 65536).1 = decide (goodO 101 (nrm d) 0 0 > 0) := Good_eq
theorem parse_eq (hI : IOk) (hF : FOk f) (hs : s.size ≤ 60000) {a : Int} (h0 : 0 ≤ a) (h1 : a ≤ s.size) : paO f s a = rpO f s a := by
  obtain ⟨b1, b2⟩ := blA_bd (s := s) (a := a) h1
  have hA : ∀ d p l', obP f s 33 (blA s a) 32 65536 = some (d, p, l') → goodO 101 (nrm d) 0 0 > 0 → rdP f s 34 (blA s a) 0 = (d, p, true) := fun d p l' h hg =>
    dirA hI hF 33 34 0 (by omega) (by omega) (by omega) (blA s a) 65536 d p l' (by omega) b2 (by omega) h (okD_nrm ⟨101, 0, by omega, by omega⟩)
  have hB : ∀ d p, rdP f s 34 (blA s a) 0 = (d, p, true) → goodO 101 (nrm d) 0 0 > 0 → ∃ l', obP f s 33 (blA s a) 32 65536 = some (d, p, l') := fun d p h hg =>
    dirB hI hF 33 34 0 (by omega) (by omega) (blA s a) 65536 d p (by omega) b2 (by omega) (by omega) h (okD_nrm ⟨101, 0, by omega, by omega⟩)
  unfold paO rpO
  generalize rdP f s 34 (blA s a) 0 = x at hA hB ⊢
  obtain ⟨d, p, ok⟩ := x
  cases ho : obP f s 33 (blA s a) 32 65536 with
  | none =>
    rw [Option.bind_none]
    dsimp only
    cases ok with
    | false => rfl
    | true =>
      cases hg : decide (goodO 101 (nrm d) 0 0 > 0)
      · rfl
      · obtain ⟨l', e⟩ := hB d p rfl (of_decide_eq_true hg)
        rw [ho] at e
        cases e
  | some t =>
    obtain ⟨d', p', l'⟩ := t
    rw [Option.bind_some, good_mk]
    dsimp only
    cases hg : decide (goodO 101 (nrm d') 0 0 > 0)
    · rw [cond_false]
      cases ok with
      | false => rfl
      | true =>
        cases hg2 : decide (goodO 101 (nrm d) 0 0 > 0)
        · rfl
        · obtain ⟨l2, e⟩ := hB d p rfl (of_decide_eq_true hg2)
          rw [ho] at e
          injection e with e
          injection e with e1 e
          subst e1
          rw [hg] at hg2
          cases hg2
    · have e := hA d' p' l' ho (of_decide_eq_true hg)
      injection e with e1 e
      injection e with e2 e3
      subst e1 e2 e3
      rw [hg]
      rfl
end
end Go.Proofs.YtckdgcpomkefpaaGreatDoor.En
end
section
set_option linter.unusedVariables false
set_option linter.unusedSimpArgs false
set_option maxRecDepth 100000
namespace Go.Proofs.YtckdgcpomkefpaaGreatDoor.En
open Go
def valF : Nat → List UInt8 → Nat
  | n, [] => n
  | n, c :: r => valF (n * 10 + (c.toNat - 48)) r
def digC (c : UInt8) : Prop := 48 ≤ c.toNat ∧ c.toNat ≤ 57
theorem valF_le : ∀ (l : List UInt8) (n : Nat), n ≤ valF n l
  | [], n => Nat.le_refl _
  | c :: r, n => by
    have := valF_le r (n * 10 + (c.toNat - 48))
    unfold valF
    omega
theorem valF_app : ∀ (l m : List UInt8) (n : Nat), valF n (l ++ m) = valF (valF n l) m
  | [], m, n => rfl
  | c :: r, m, n => valF_app r m _
theorem parse_val : ∀ (l : List UInt8) (n : Nat), (∀ c ∈ l, digC c) → valF n l < 18446744073709551616 → Lib.parseUint10 n l = .ok (valF n l)
  | [], n, _, _ => rfl
  | c :: r, n, h, hv => by
    have hc := h c (by simp)
    have h2 := valF_le r (n * 10 + (c.toNat - 48))
    have hv : valF (n * 10 + (c.toNat - 48)) r < 18446744073709551616 := hv
    unfold digC at hc
    unfold Lib.parseUint10
    rw [if_pos hc, if_neg (by omega), if_neg (by omega), parse_val r _ (fun x hx => h x (by simp [hx])) hv]
    rfl
theorem mag_val {l : List UInt8} (hl : l ≠ []) (h : ∀ c ∈ l, digC c) (hv : valF 0 l < 18446744073709551616) : Lib.parseMag l = .ok (valF 0 l) := by
  unfold Lib.parseMag
  rw [if_neg hl, parse_val l 0 h hv]
theorem dig_of {c : UInt8} (h : digC c) : UInt8.ofNat (48 + (c.toNat - 48)) = c := by
  unfold digC at h
  rw [show 48 + (c.toNat - 48) = c.toNat by omega]
  exact UInt8.ofNat_toNat
theorem dec_val : ∀ (k : Nat) (l : List UInt8), l.length = k → l ≠ [] → (∀ c ∈ l, digC c) → (l.head? ≠ some 48 ∨ l.length = 1) → Lib.decDigits (valF 0 l) = l
  | 0, l, hk, hl, _, _ => (hl (List.length_eq_zero_iff.1 hk)).elim
  | k + 1, l, hk, hl, hd, hh => by
    obtain ⟨a, c, rfl⟩ : ∃ a c, l = a ++ [c] := ⟨l.dropLast, l.getLast hl, (List.dropLast_concat_getLast hl).symm⟩
    have hc := hd c (by simp)
    have e : valF 0 (a ++ [c]) = valF 0 a * 10 + (c.toNat - 48) := by rw [valF_app]; rfl
    have hc' := hc
    unfold digC at hc'
    rw [e]
    by_cases ha : a = []
    · subst ha
      have e0 : valF 0 [] * 10 + (c.toNat - 48) = c.toNat - 48 := by show 0 * 10 + _ = _; omega
      rw [e0, Lib.decDigits_one (by omega), dig_of hc]
      rfl
    · have hh2 : a.head? ≠ some 48 := by
        rcases hh with h | h
        · cases a with
          | nil => exact (ha rfl).elim
          | cons x y => exact h
        · cases a with
          | nil => exact (ha rfl).elim
          | cons x y => simp at h
      have ih := dec_val k a (by simpa using hk) ha (fun x hx => hd x (by simp [hx])) (.inl hh2)
      have hpos : 1 ≤ valF 0 a := by
        cases a with
        | nil => exact (ha rfl).elim
        | cons x y =>
          have hx := hd x (by simp)
          unfold digC at hx
          have : x.toNat ≠ 48 := fun e => hh2 (by rw [List.head?_cons]; congr 1; exact UInt8.toNat_inj.1 e)
          have h2 := valF_le y (0 * 10 + (x.toNat - 48))
          show 1 ≤ valF (0 * 10 + (x.toNat - 48)) y
          omega
      rw [Lib.decDigits, dif_neg (by omega), show (valF 0 a * 10 + (c.toNat - 48)) / 10 = valF 0 a by omega, ih, show (valF 0 a * 10 + (c.toNat - 48)) % 10 = c.toNat - 48 by omega, dig_of hc]
theorem digit_nat {u : Nat} (h : u < 10) : (UInt8.ofNat (48 + u)).toNat = 48 + u := by
  have : ∀ u : Fin 10, (UInt8.ofNat (48 + u.val)).toNat = 48 + u.val := by decide
  exact this ⟨u, h⟩
theorem dec_all (u : Nat) : (∀ c ∈ Lib.decDigits u, digC c) ∧ valF 0 (Lib.decDigits u) = u ∧ Lib.decDigits u ≠ [] ∧ (1 ≤ u → (Lib.decDigits u).head? ≠ some 48) := by
  induction u using Nat.strongRecOn with
  | _ u ih =>
    rw [Lib.decDigits]
    by_cases h : u < 10
    · rw [dif_pos h]
      have e := digit_nat h
      refine ⟨fun c hc => ?_, ?_, by simp, fun hu => ?_⟩
      · rw [List.mem_singleton] at hc
        subst hc
        exact ⟨by omega, by omega⟩
      · show 0 * 10 + ((UInt8.ofNat (48 + u)).toNat - 48) = u
        rw [e]
        omega
      · rw [List.head?_cons]
        intro hq
        injection hq with hq
        rw [hq] at e
        have : (48 : UInt8).toNat = 48 := rfl
        omega
    · rw [dif_neg h]
      obtain ⟨h1, h2, h3, h4⟩ := ih (u / 10) (by omega)
      have e := digit_nat (u := u % 10) (by omega)
      refine ⟨fun c hc => ?_, ?_, by simp, fun hu => ?_⟩
      · rw [List.mem_append] at hc
        rcases hc with hc | hc
        · exact h1 c hc
        · rw [List.mem_singleton] at hc
          subst hc
          exact ⟨by omega, by omega⟩
      · rw [valF_app, h2]
        show u / 10 * 10 + ((UInt8.ofNat (48 + u % 10)).toNat - 48) = u
        rw [e]
        omega
      · have h4 := h4 (by omega)
        generalize Lib.decDigits (u / 10) = l at h3 h4
        cases l with
        | nil => exact (h3 rfl).elim
        | cons x y => exact h4
theorem dec_len {u : Nat} (h : u < 10 ^ 14) : (Lib.decDigits u).length ≤ 14 := by
  rw [Lib.decDigits_length]
  have h2 : 10 ^ (Lib.nDigits u - 1) ≤ u ∨ u < 10 := by
    clear h
    induction u using Nat.strongRecOn with
    | _ u ih =>
      by_cases h : u < 10
      · exact .inr h
      · left
        rw [Lib.nDigits_big h]
        have hp := Lib.nDigits_pos (u / 10)
        rcases ih (u / 10) (by omega) with h2 | h2
        · rw [show Lib.nDigits (u / 10) + 1 - 1 = (Lib.nDigits (u / 10) - 1) + 1 by omega, Nat.pow_succ]
          omega
        · rw [Lib.nDigits_small h2]
          omega
  rcases h2 with h2 | h2
  · have h3 : 10 ^ (Lib.nDigits u - 1) < 10 ^ 14 := by omega
    have := (Nat.pow_lt_pow_iff_right (a := 10) (by omega)).1 h3
    omega
  · rw [Lib.nDigits_small h2]; omega
theorem bt_at (s : ByteArray) (i : Nat) (h : i < s.data.toList.length) : bt s (i : Int) = ((s.data.toList[i]'h).toNat : Int) := bt_nat s i h
theorem igP_val (d : ByteArray) : ∀ (k i n : Nat), i + k = d.size → (∀ c ∈ d.data.toList.drop i, digC c) → igP d k (i : Int) (n : Int) = some (valF n (d.data.toList.drop i) : Int)
  | 0, i, n, h, hd => by
    have hl : d.data.toList.length = d.size := rfl
    rw [List.drop_eq_nil_of_le (by omega)]
    rfl
  | k + 1, i, n, h, hd => by
    have hl : d.data.toList.length = d.size := rfl
    have hlt : i < d.data.toList.length := by omega
    have e := List.drop_eq_getElem_cons hlt
    have hc : digC d.data.toList[i] := hd _ (by rw [e]; simp)
    have ih := igP_val d k (i + 1) (n * 10 + (d.data.toList[i].toNat - 48)) (by omega) (fun c hc => hd c (by rw [e]; simp [hc]))
    unfold igP
    rw [e, bt_at d i hlt]
    unfold digC at hc
    rw [decide_eq_false (by omega), decide_eq_false (by omega)]
    show igP d k ((i : Int) + 1) ((n : Int) * 10 + ((d.data.toList[i].toNat : Int) - 48)) = _
    rw [show (i : Int) + 1 = ((i + 1 : Nat) : Int) by omega, show (n : Int) * 10 + ((d.data.toList[i].toNat : Int) - 48) = ((n * 10 + (d.data.toList[i].toNat - 48) : Nat) : Int) by omega, ih]
    rfl
theorem igP_dig (d : ByteArray) : ∀ (k i : Nat) (n x : Int), i + k = d.size → igP d k (i : Int) n = some x → ∀ c ∈ d.data.toList.drop i, digC c
  | 0, i, n, x, h, hx => by
    have hl : d.data.toList.length = d.size := rfl
    rw [List.drop_eq_nil_of_le (by omega)]
    intro c hc
    cases hc
  | k + 1, i, n, x, h, hx => by
    have hl : d.data.toList.length = d.size := rfl
    have hlt : i < d.data.toList.length := by omega
    unfold igP at hx
    rw [bt_at d i hlt] at hx
    cases hc : decide (((d.data.toList[i].toNat : Nat) : Int) < 48) || decide (((d.data.toList[i].toNat : Nat) : Int) > 57) <;> rw [hc] at hx
    · rw [cond_false, show (i : Int) + 1 = ((i + 1 : Nat) : Int) by omega] at hx
      rw [List.drop_eq_getElem_cons hlt]
      rw [Bool.or_eq_false_iff, decide_eq_false_iff_not, decide_eq_false_iff_not] at hc
      intro c hm
      rcases List.mem_cons.1 hm with rfl | hm
      · exact ⟨by omega, by omega⟩
      · exact igP_dig d k (i + 1) _ x (by omega) hx c hm
    · cases hx
theorem digT_neg {w : ByteArray} (h : negB w = true) : w.data.toList = 45 :: (digT w).data.toList := by
  unfold negB at h
  rw [Bool.and_eq_true, decide_eq_true_eq, beq_iff_eq] at h
  have hl : w.data.toList.length = w.size := rfl
  have hlt : 0 < w.data.toList.length := by omega
  have e : digT w = w.extract 1 w.size := by unfold digT negB; rw [decide_eq_true h.1, h.2]; rfl
  have e2 : (digT w).data.toList = w.data.toList.drop 1 := by
    rw [e]
    rw [ByteArray.data_extract, Array.toList_extract]
    simp [List.extract, List.take_of_length_le]
  rw [e2]
  have h2 := h.2
  rw [show (0 : Int) = ((0 : Nat) : Int) from rfl, bt_at w 0 hlt] at h2
  have h3 : w.data.toList[0] = 45 := UInt8.toNat_inj.1 (by have : (45 : UInt8).toNat = 45 := rfl; omega)
  generalize w.data.toList = l at hlt h3
  cases l with
  | nil => simp at hlt
  | cons x y =>
    simp only [List.getElem_cons_zero] at h3
    rw [h3]
    rfl
theorem digT_pos {w : ByteArray} (h : negB w = false) : digT w = w := by unfold digT; rw [h]; rfl
theorem isT_itT {w : ByteArray} {v : Int} (h0 : -9223372036854775808 ≤ v) (h1 : v ≤ 9223372036854775807) : isT (itT v) w = decide (Lib.itoa v = w.data.toList) := by
  unfold isT itT
  rw [Lib.toList_data, Lib.toList_data, itoaF_eq h0 h1, Bool.eq_iff_iff, beq_iff_eq, decide_eq_true_iff]
theorem plain_head {c : UInt8} {r : List UInt8} (h : digC c) : Lib.atoiAll (c :: r) = Lib.signless (Lib.parseMag (c :: r)) := by
  unfold digC at h
  exact Lib.atoiAll_plain c r (by omega) (by omega)
theorem bt_head {d : ByteArray} {c : UInt8} (h : d.data.toList.head? = some c) : bt d 0 = (c.toNat : Int) := by
  have hl : 0 < d.data.toList.length := by
    cases hd : d.data.toList with
    | nil => rw [hd] at h; cases h
    | cons x y => simp
  rw [show (0 : Int) = ((0 : Nat) : Int) from rfl, bt_at d 0 hl]
  have : d.data.toList.head? = some d.data.toList[0] := by
    rw [List.head?_eq_getElem?, List.getElem?_eq_getElem hl]
  rw [this] at h
  injection h with h
  rw [h]
theorem int_one (w : ByteArray) (h : (intR w).2 = true) : isI w = true ∧ (intR w).1 = atV w := by
  unfold intR at h ⊢
  cases hb : badB w <;> rw [hb] at h
  · rw [cond_false] at h ⊢
    cases hx : igP (digT w) (digT w).size 0 0 <;> rw [hx] at h
    · cases h
    rename_i x
    have hl : (digT w).data.toList.length = (digT w).size := rfl
    have hd := igP_dig (digT w) (digT w).size 0 0 x (by omega) hx
    have hv := igP_val (digT w) (digT w).size 0 0 (by omega) hd
    rw [List.drop_zero] at hd hv
    have hx2 : some x = some ((valF 0 (digT w).data.toList : Nat) : Int) := by rw [← hv]; exact hx.symm
    injection hx2 with hx2
    subst hx2
    unfold badB at hb
    rw [Bool.or_eq_false_iff, Bool.or_eq_false_iff, Bool.and_eq_false_iff, beq_eq_false_iff_ne, decide_eq_false_iff_not, beq_eq_false_iff_ne, Bool.or_eq_false_iff, decide_eq_false_iff_not] at hb
    obtain ⟨⟨b1, b2⟩, b3⟩ := hb
    have hne : (digT w).data.toList ≠ [] := fun e => b1 (by rw [← hl, e]; rfl)
    have hh : (digT w).data.toList.head? ≠ some 48 ∨ (digT w).data.toList.length = 1 := by
      rcases b3 with b3 | b3
      · exact .inl fun e => b3 (by rw [bt_head e]; rfl)
      · right; omega
    have hdec := dec_val _ _ rfl hne hd hh
    have hlen : (digT w).data.toList.length ≤ 14 := by omega
    have hval : valF 0 (digT w).data.toList < 10 ^ 14 := by
      have := Lib.lt_pow_nDigits (valF 0 (digT w).data.toList)
      rw [← Lib.decDigits_length, hdec] at this
      exact Nat.lt_of_lt_of_le this (Nat.pow_le_pow_right (by omega) hlen)
    have hmag := mag_val hne hd (by omega)
    generalize hdl : (digT w).data.toList = dl at hd hv hne hh hdec hlen hval hmag h
    generalize hu : valF 0 dl = u at hdec hval hmag h
    cases hn : negB w
    · rw [digT_pos hn] at hdl
      have e : Lib.atoiAll w.data.toList = .ok (u : Int) := by
        rw [hdl]
        cases dl with
        | nil => exact (hne rfl).elim
        | cons c r =>
          rw [plain_head (hd c (by simp)), hmag]
          unfold Lib.signless
          simp only
          rw [if_neg (by omega)]
      have e1 : atK w = true := by unfold atK; rw [e]
      have e2 : atV w = u := by unfold atV; rw [e]
      unfold isI
      rw [e1, e2, isT_itT (by omega) (by omega)]
      refine ⟨?_, rfl⟩
      rw [Bool.true_and, decide_eq_true_iff, Lib.itoa_nonneg, hdl, hdec]
    · have hw := digT_neg hn
      rw [hdl] at hw
      have hu1 : 1 ≤ u := by
        rcases b3 with b3 | b3
        · cases hz : u with
          | zero =>
            exfalso
            rw [hz, Lib.decDigits_one (by omega)] at hdec
            apply b3
            rw [bt_head (c := 48) (by rw [hdl, ← hdec]; rfl)]
            rfl
          | succ n => omega
        · rw [hn] at b3; cases b3.2
      have e : Lib.atoiAll w.data.toList = .ok (-(u : Int)) := by
        rw [hw, Lib.atoiAll_minus, hmag]
        unfold Lib.signed
        simp only
        rw [if_neg (by omega)]
      have e1 : atK w = true := by unfold atK; rw [e]
      have e2 : atV w = -(u : Int) := by unfold atV; rw [e]
      unfold isI
      rw [e1, e2, isT_itT (by omega) (by omega)]
      refine ⟨?_, ?_⟩
      · rw [Bool.true_and, decide_eq_true_iff, Lib.itoa_neg u hu1, hw, hdec]
      · show 0 - (u : Int) = _
        omega
  · cases h
theorem inB_bd {n : Int} (h : inB n = true) : -1099511627776 ≤ n ∧ n ≤ 1099511627776 := by
  unfold inB at h
  simpa only [Bool.and_eq_true, decide_eq_true_eq] using h
theorem int_two (w : ByteArray) (h : isI w = true) (hi : inB (atV w) = true) : (intR w).2 = true := by
  obtain ⟨v0, v1⟩ := inB_bd hi
  unfold isI at h
  rw [Bool.and_eq_true, isT_itT (by omega) (by omega), decide_eq_true_iff] at h
  obtain ⟨_, hw⟩ := h
  generalize atV w = v at hw hi v0 v1
  have key : ∀ u : Nat, u < 10 ^ 14 → (digT w).data.toList = Lib.decDigits u → (negB w = true → 1 ≤ u) → badB w = false ∧ igP (digT w) (digT w).size 0 0 = some (u : Int) := fun u hu hd hn => by
    obtain ⟨d1, d2, d3, d4⟩ := dec_all u
    have hl := dec_len hu
    rw [← hd] at d1 d2 d3 d4 hl
    have hs : (digT w).data.toList.length = (digT w).size := rfl
    constructor
    · unfold badB
      have hne : (digT w).size ≠ 0 := fun e => d3 (List.length_eq_zero_iff.1 (by omega))
      rw [beq_eq_false_iff_ne.2 hne, decide_eq_false (by omega), Bool.false_or]
      cases hz : bt (digT w) 0 == 48
      · rfl
      · rw [Bool.true_and]
        rw [beq_iff_eq] at hz
        have hhead : (digT w).data.toList.head? = some 48 := by
          cases hq : (digT w).data.toList with
          | nil => exact (d3 hq).elim
          | cons c r =>
            have := bt_head (d := digT w) (c := c) (by rw [hq]; rfl)
            rw [hz] at this
            rw [List.head?_cons]
            congr 1
            exact UInt8.toNat_inj.1 (by have : (48 : UInt8).toNat = 48 := rfl; omega)
        have hu0 : u = 0 := by
          cases u with
          | zero => rfl
          | succ n => exact (d4 (by omega) hhead).elim
        subst hu0
        have : (digT w).size = 1 := by rw [← hs, hd, Lib.decDigits_one (by omega)]; rfl
        rw [this]
        cases hn' : negB w
        · rfl
        · have := hn hn'; omega
    · have := igP_val (digT w) (digT w).size 0 0 (by omega) (by rw [List.drop_zero]; exact d1)
      rw [List.drop_zero, d2] at this
      exact this
  unfold intR
  by_cases hv : v < 0
  · obtain ⟨u, rfl⟩ : ∃ u : Nat, v = -(u : Int) := ⟨v.natAbs, by omega⟩
    rw [Lib.itoa_neg u (by omega)] at hw
    have hn : negB w = true := by
      unfold negB
      rw [bt_head (c := 45) (by rw [← hw]; rfl)]
      have : w.size = (45 :: Lib.decDigits u).length := by rw [hw]; rfl
      rw [decide_eq_true (by rw [this, List.length_cons]; omega)]
      rfl
    have hd : (digT w).data.toList = Lib.decDigits u := by
      have := digT_neg hn
      rw [← hw] at this
      injection this with _ this
      exact this.symm
    obtain ⟨k1, k2⟩ := key u (by omega) hd (fun _ => by omega)
    rw [k1, k2, hn]
    show inB (0 - (u : Int)) = true
    rw [show 0 - (u : Int) = -(u : Int) by omega]
    exact hi
  · obtain ⟨u, rfl⟩ : ∃ u : Nat, v = (u : Int) := ⟨v.toNat, by omega⟩
    rw [Lib.itoa_nonneg] at hw
    have hn : negB w = false := by
      obtain ⟨d1, d2, d3, d4⟩ := dec_all u
      rw [hw] at d1 d3
      unfold negB
      cases hq : w.data.toList with
      | nil => exact (d3 hq).elim
      | cons c r =>
        rw [bt_head (c := c) (by rw [hq]; rfl)]
        have := d1 c (by rw [hq]; simp)
        unfold digC at this
        rw [show (((c.toNat : Nat) : Int) == 45) = false by rw [beq_eq_false_iff_ne]; omega, Bool.and_false]
    have hd : (digT w).data.toList = Lib.decDigits u := by rw [digT_pos hn, hw]
    obtain ⟨k1, k2⟩ := key u (by omega) hd (fun h => by rw [hn] at h; cases h)
    rw [k1, k2, hn]
    exact hi
theorem iOk : IOk := ⟨int_one, int_two⟩
end Go.Proofs.YtckdgcpomkefpaaGreatDoor.En
end
section
namespace Go.Proofs.YtckdgcpomkefpaaGreatDoor.En
open Go
set_option linter.unusedVariables false
set_option linter.unusedSimpArgs false
def val (l : List Nat) : Nat := l.foldl (fun n d => 10 * n + d) 0
theorem val_from (l : List Nat) : ∀ n, l.foldl (fun n d => 10 * n + d) n = n * 10 ^ l.length + val l := by
  induction l with
  | nil => intro n; simp [val]
  | cons a l ih =>
    intro n
    simp only [List.foldl_cons, List.length_cons, val]
    rw [ih, ih (10 * 0 + a), Nat.pow_succ]
    have : (10 * n + a) * 10 ^ l.length = n * (10 ^ l.length * 10) + a * 10 ^ l.length := by
      rw [Nat.add_mul]; congr 1
      rw [Nat.mul_comm 10 n, Nat.mul_assoc, Nat.mul_comm 10]
    rw [this]; simp; omega
theorem val_cons (a : Nat) (l : List Nat) : val (a :: l) = a * 10 ^ l.length + val l := by
  show l.foldl _ (10 * 0 + a) = _
  rw [val_from]; simp
theorem val_snoc (l : List Nat) (a : Nat) : val (l ++ [a]) = 10 * val l + a := by simp [val]
theorem val_lt : ∀ l : List Nat, (∀ d ∈ l, d < 10) → val l < 10 ^ l.length
  | [], _ => by simp [val]
  | a :: l, h => by
    have h1 := val_lt l (fun d hd => h d (List.mem_cons_of_mem _ hd))
    have h2 := h a List.mem_cons_self
    rw [val_cons, List.length_cons, Nat.pow_succ]
    have : a * 10 ^ l.length ≤ 9 * 10 ^ l.length := Nat.mul_le_mul_right _ (by omega)
    omega
theorem val_inj : ∀ a b : List Nat, a.length = b.length → (∀ d ∈ a, d < 10) → (∀ d ∈ b, d < 10) → val a = val b → a = b
  | [], [], _, _, _, _ => rfl
  | [], _ :: _, h, _, _, _ => by simp at h
  | _ :: _, [], h, _, _, _ => by simp at h
  | x :: a, y :: b, hl, ha, hb, hv => by
    have hl' : a.length = b.length := by simpa using hl
    have h1 := val_lt a (fun d hd => ha d (List.mem_cons_of_mem _ hd))
    have h2 := val_lt b (fun d hd => hb d (List.mem_cons_of_mem _ hd))
    rw [val_cons, val_cons, hl'] at hv
    rw [hl'] at h1
    have hxy : x = y := by
      have e1 : (x * 10 ^ b.length + val a) / 10 ^ b.length = x := by
        rw [Nat.mul_comm, Nat.mul_add_div (Nat.pow_pos (by omega)), Nat.div_eq_of_lt h1]; rfl
      have e2 : (y * 10 ^ b.length + val b) / 10 ^ b.length = y := by
        rw [Nat.mul_comm, Nat.mul_add_div (Nat.pow_pos (by omega)), Nat.div_eq_of_lt h2]; rfl
      rw [← e1, ← e2, hv]
    subst hxy
    rw [val_inj a b hl' (fun d hd => ha d (List.mem_cons_of_mem _ hd)) (fun d hd => hb d (List.mem_cons_of_mem _ hd)) (by omega)]
theorem val_replicate (k : Nat) (l : List Nat) : val (List.replicate k 0 ++ l) = val l := by
  induction k with
  | zero => simp
  | succ k ih => rw [List.replicate_succ, List.cons_append, val_cons, ih]; simp
def natDigits (u : Nat) : List Nat := if h : u < 10 then [u] else natDigits (u / 10) ++ [u % 10]
termination_by u
decreasing_by omega
theorem natDigits_small {u : Nat} (h : u < 10) : natDigits u = [u] := by rw [natDigits, dif_pos h]
theorem natDigits_big {u : Nat} (h : ¬ u < 10) : natDigits u = natDigits (u / 10) ++ [u % 10] := by rw [natDigits, dif_neg h]
theorem natDigits_digits (u : Nat) : ∀ d ∈ natDigits u, d < 10 := by
  induction u using Nat.strongRecOn with
  | _ u ih =>
    by_cases h : u < 10
    · rw [natDigits_small h]; simpa using h
    · rw [natDigits_big h]
      intro d hd
      rcases List.mem_append.1 hd with h1 | h1
      · exact ih (u / 10) (by omega) d h1
      · simp at h1; omega
theorem val_natDigits (u : Nat) : val (natDigits u) = u := by
  induction u using Nat.strongRecOn with
  | _ u ih =>
    by_cases h : u < 10
    · rw [natDigits_small h]; simp [val]
    · rw [natDigits_big h, val_snoc, ih (u / 10) (by omega)]; omega
theorem natDigits_pos (u : Nat) : 1 ≤ (natDigits u).length := by
  by_cases h : u < 10
  · rw [natDigits_small h]; simp
  · rw [natDigits_big h]; simp
theorem natDigits_length (k : Nat) : ∀ u, u < 10 ^ (k + 1) → (natDigits u).length ≤ k + 1 := by
  induction k with
  | zero => intro u h; rw [natDigits_small (by simpa using h)]; simp
  | succ k ih =>
    intro u h
    by_cases h1 : u < 10
    · rw [natDigits_small h1]; simp
    · rw [natDigits_big h1, List.length_append, List.length_singleton]
      have := ih (u / 10) (by rw [Nat.pow_succ] at h; omega)
      omega
def full : Nat → Nat → List Nat
  | 0, _ => []
  | k + 1, r => (r * 10 / 65536) :: full k (r * 10 % 65536)
def remk : Nat → Nat → Nat
  | 0, r => r
  | k + 1, r => remk k (r * 10 % 65536)
def fracD : Nat → Nat → List Nat
  | 0, _ => []
  | k + 1, r => if r = 0 then [] else (r * 10 / 65536) :: fracD k (r * 10 % 65536)
theorem full_length : ∀ k r, (full k r).length = k
  | 0, _ => rfl
  | k + 1, r => by simp [full, full_length k]
theorem full_digits : ∀ k r, r < 65536 → ∀ d ∈ full k r, d < 10
  | 0, _, _, d, h => by simp [full] at h
  | k + 1, r, hr, d, h => by
    simp only [full, List.mem_cons] at h
    rcases h with rfl | h
    · omega
    · exact full_digits k _ (Nat.mod_lt _ (by omega)) d h
theorem full_val : ∀ k r, r < 65536 → val (full k r) * 65536 + remk k r = r * 10 ^ k ∧ remk k r < 65536
  | 0, r, hr => by simp [full, remk, val, hr]
  | k + 1, r, hr => by
    obtain ⟨h1, h2⟩ := full_val k (r * 10 % 65536) (Nat.mod_lt _ (by omega))
    refine ⟨?_, h2⟩
    simp only [full, remk]
    rw [val_cons, full_length, Nat.add_mul, Nat.add_assoc, h1, Nat.pow_succ]
    have e : r * (10 ^ k * 10) = (r * 10) * 10 ^ k := by rw [Nat.mul_comm (10 ^ k) 10, Nat.mul_assoc]
    rw [e, Nat.mul_right_comm, ← Nat.add_mul, Nat.div_add_mod']
theorem fracD_zero (k : Nat) : fracD k 0 = [] := by cases k <;> simp [fracD]
theorem fracD_length : ∀ k r, (fracD k r).length ≤ k
  | 0, _ => by simp [fracD]
  | k + 1, r => by
    simp only [fracD]
    split
    · simp
    · have := fracD_length k (r * 10 % 65536)
      simp; omega
def trimZ (l : List Nat) : List Nat := (l.reverse.dropWhile (· == 0)).reverse
theorem dropWhile_append_ {α : Type} (p : α → Bool) (a b : List α) : (a ++ b).dropWhile p = if a.dropWhile p = [] then b.dropWhile p else a.dropWhile p ++ b := by
  induction a with
  | nil => simp
  | cons x a ih =>
    simp only [List.cons_append, List.dropWhile_cons]
    split
    · exact ih
    · simp
theorem trimZ_cons (d : Nat) (l : List Nat) : trimZ (d :: l) = if trimZ l = [] ∧ d = 0 then [] else d :: trimZ l := by
  unfold trimZ
  rw [List.reverse_cons, dropWhile_append_]
  by_cases h : l.reverse.dropWhile (· == 0) = []
  · rw [if_pos h, h]
    by_cases hd : d = 0
    · subst hd; simp
    · simp [hd]
  · rw [if_neg h]
    simp [h]
theorem trimZ_full : ∀ k r, r < 65536 → remk k r = 0 → trimZ (full k r) = fracD k r
  | 0, _, _, _ => rfl
  | k + 1, r, hr, h => by
    have ih := trimZ_full k (r * 10 % 65536) (Nat.mod_lt _ (by omega)) h
    simp only [full, trimZ_cons, ih, fracD]
    by_cases h0 : r = 0
    · subst h0; simp [fracD_zero]
    · rw [if_neg h0, if_neg]
      rintro ⟨h1, h2⟩
      have h3 : r * 10 % 65536 = 0 := by
        cases k with
        | zero => simpa [remk] using h
        | succ k =>
          simp only [fracD] at h1
          split at h1
          · assumption
          · cases h1
      omega
theorem ten16 : (10 : Nat) ^ 16 = 152587890625 * 65536 := by decide
theorem rem_key (v m r : Nat) (h1 : v * 65536 + m = r * 10 ^ 16) (h2 : m < 65536) : m = 0 ∧ v = r * 152587890625 := by
  rw [ten16, ← Nat.mul_assoc] at h1
  obtain ⟨q, hq⟩ : ∃ q, q = r * 152587890625 := ⟨_, rfl⟩
  rw [← hq] at h1 ⊢
  omega
theorem rem16 (r : Nat) (hr : r < 65536) : remk 16 r = 0 ∧ val (full 16 r) = r * 152587890625 :=
  rem_key _ _ r (full_val 16 r hr).1 (full_val 16 r hr).2
theorem fracD_succ (k r : Nat) : fracD (k + 1) r = if r = 0 then [] else (r * 10 / 65536) :: fracD k (r * 10 % 65536) := rfl
theorem remk_succ (k r : Nat) : remk (k + 1) r = remk k (r * 10 % 65536) := rfl
theorem remk_zero (r : Nat) : remk 0 r = r := rfl
attribute [irreducible] full fracD remk
end Go.Proofs.YtckdgcpomkefpaaGreatDoor.En
end
section
set_option linter.unusedVariables false
set_option linter.unusedSimpArgs false
set_option maxRecDepth 100000
namespace Go.Proofs.YtckdgcpomkefpaaGreatDoor.En
open Go
def trimE : List AV → Bx → Option (Bool × Out)
  | [.v (.string s), .v (.string c)], [none, none] => (match c.data.toList with
    | [b] => some (Nat.blt b.toNat 128 && Nat.ble s.size 9223372036854775807, .ret (S ⟨(Lib.trimRightB s.data.toList b).toArray⟩) [none, none])
    | _ => none)
  | _, _ => none
theorem trim_sound {ext : CallF} (hext : SoundCall PR ext) : SoundCall PR (addF 98 trimE ext) := by
  refine sound_ext hext _ (fn := (PR.funcs[98]?).getD default) (by kernel_rfl) (by kernel_rfl) trimE fun xs bs out h g w vs hm hL hl hv hr => ?_
  unfold trimE at h
  split at h
  · rename_i s c
    split at h
    · rename_i b hb
      injection h with h
      injection h with hc h
      subst h
      rw [Bool.and_eq_true] at hc
      obtain rfl := args_v (P := PR) [.string s, .string c] hv hr
      have hc' : c = ⟨#[b]⟩ := by
        cases c with | mk d => cases d with | mk l => simp at hb; subst hb; rfl
      subst hc'
      refine (Tryz.strings_TrimRight_one s b (Nat.le_of_ble_eq_true hc.1) w (Nat.le_of_ble_eq_true hc.2)).mono fun e w' he => ?_
      obtain ⟨rfl, rfl⟩ := he
      exact post_v hm (by simp) rfl (Fr.refl _ _)
    · cases h
  · cases h
def repE : List AV → Bx → Option (Bool × Out)
  | [.v (.string s), .v (.int .i64 n)], [none, none] => some (decide (0 ≤ n) && (decide (n ≤ 9223372036854775807) && Nat.ble (s.size * n.toNat) 140737488355328), .ret (S ⟨(Lib.repeatL s.data.toList n.toNat).toArray⟩) [none, none])
  | _, _ => none
theorem rep_sound {ext : CallF} (hext : SoundCall PR ext) : SoundCall PR (addF 99 repE ext) := by
  refine sound_ext hext _ (fn := (PR.funcs[99]?).getD default) (by kernel_rfl) (by kernel_rfl) repE fun xs bs out h g w vs hm hL hl hv hr => ?_
  unfold repE at h
  split at h
  · rename_i s n
    injection h with h
    injection h with hc h
    subst h
    rw [Bool.and_eq_true, Bool.and_eq_true, decide_eq_true_eq, decide_eq_true_eq] at hc
    obtain ⟨c1, c2, c3⟩ := hc
    obtain rfl := args_v (P := PR) [.string s, .int .i64 n] hv hr
    have hn : ((n.toNat : Nat) : Int) = n := Int.toNat_of_nonneg c1
    have := Tryz.strings_Repeat s n.toNat w (by omega) (Nat.le_of_ble_eq_true c3)
    rw [hn] at this
    refine this.mono fun e w' he => ?_
    obtain ⟨rfl, hb⟩ := he
    exact post_v hm (by simp) rfl (Fr.of_below hb (Nat.le_refl _))
  · cases h
def itOk (n : Int) : Bool := decide (-9223372036854775808 ≤ n) && decide (n ≤ 9223372036854775807)
def itS (n : Int) : ByteArray := ⟨(itoaF n).toArray⟩
def glueO {β : Type} (a b : ByteArray) (k : ByteArray → Option β) : Option β := bif decide (a.size + b.size ≤ 4611686018427387904) then k (a ++ b) else none
noncomputable def decF : Nat → Int → ByteArray
  | 0, _ => ⟨#[]⟩
  | k + 1, n => bif decide (n < 10) then bytesOf [.int (IntKind.u8.wrap (W (48 + n)))] else decF k (W (n.tdiv 10)) ++ bytesOf [.int (IntKind.u8.wrap (W (48 + n.tmod 10)))]
def decOk (k : Nat) (n : Int) : Bool := Nat.ble 1 k && (Nat.ble k 18 && (decide (0 ≤ n) && decide (n < 10 ^ k)))
noncomputable def decE (k : Nat) : List AV → Bx → Option (Bool × Out)
  | [.v (.int .i64 n)], [none] => some (decOk k n, .ret (S (decF k n)) [none])
  | _, _ => none
theorem dec_0 (k : Nat) (ext : CallF) (m : Nat) (n : Int) : evFn PR TK (addF 59 (decE k) ext) m 59 [I n] [none] =
  bif decide (n < 10) then some (.ret (S (bytesOf [.int (IntKind.u8.wrap (W (48 + n)))])) [none]) else
    bif decOk k (W (n.tdiv 10)) then
      glueO (decF k (W (n.tdiv 10))) (bytesOf [.int (IntKind.u8.wrap (W (48 + n.tmod 10)))]) fun s => some (.ret (S s) [none]) else none := by kernel_rfl
def sh16 (x : Int) : Int := x.fdiv (2 ^ (min (16 : Int).toNat IntKind.i64.bits))
def an16 (x : Int) : Int := IntKind.i64.wrap (BitVec.ofInt IntKind.i64.bits x &&& BitVec.ofInt IntKind.i64.bits 65535).toNat
def repOk (n : Int) : Bool := decide (0 ≤ n) && (decide (n ≤ 9223372036854775807) && Nat.ble (1 * n.toNat) 140737488355328)
def zeros (n : Int) : ByteArray := ⟨(Lib.repeatL [48] n.toNat).toArray⟩
def cut0 (s : ByteArray) : ByteArray := ⟨(Lib.trimRightB s.data.toList 48).toArray⟩
noncomputable def dgC (ext : CallF) : CallF := addF 62 inE (addF 58 itoaE (addF 99 repE (addF 98 trimE ext)))
def dR (s : ByteArray) (b : Bool) : Option Out := some (.ret (.tup [S s, B b]) [none])
noncomputable def dgK (sg : ByteArray) (x : Int) : Option Out :=
  bif itOk (sh16 x) then glueO sg (itS (sh16 x)) fun s =>
    bif an16 x != 0 then (bif itOk (W (an16 x * 152587890625)) then
      (bif repOk (W (16 - (itS (W (an16 x * 152587890625))).size)) then glueO (zeros (W (16 - (itS (W (an16 x * 152587890625))).size))) (itS (W (an16 x * 152587890625))) fun t =>
        (bif Nat.ble t.size 9223372036854775807 then glueO ⟨#[46]⟩ (cut0 t) fun u => glueO s u fun v => dR v true else none) else none) else none)
    else dR s true else none
theorem dg_0 (ext : CallF) (m : Nat) (x : Int) : evFn PR TK (dgC ext) m 68 [I x] [none] =
  bif !inB x then dR ⟨#[]⟩ false else bif decide (x < 0) then dgK ⟨#[45]⟩ (W (0 - x)) else dgK ⟨#[]⟩ x := by kernel_rfl
end Go.Proofs.YtckdgcpomkefpaaGreatDoor.En
end
