/- Part 9 of a proof: what it needs of the program's functions as plain Lean functions, with the proof that the machine's calls come to them, and of plain laws; put together out of smaller texts. No conditions besides those that each statement names. -/
import Derived.Test.YtckdgcpomkefpaaGreatDoorBa8
section
set_option linter.unusedVariables false
set_option linter.unusedSimpArgs false
set_option maxRecDepth 100000
namespace Go.Proofs.YtckdgcpomkefpaaGreatDoor.En
open Go
theorem nmP_rel (s : ByteArray) : ∀ (k : Nat) (a : Int) (acc x : List Dat) (b : Int), nmP s k a acc = some (x, b) → (x.length : Int) + a ≤ b + acc.length
  | 0, a, acc, x, b, h => by cases h
  | k + 1, a, acc, x, b, h => by
    unfold nmP at h
    cases c0 : decide (a < s.size) && wordB (bt s a) <;> rw [c0] at h
    · cases h; omega
    · rw [cond_true] at h
      cases c1 : bt s a == 35 <;> rw [c1] at h
      · rw [cond_false] at h
        obtain ⟨_, h⟩ := bif_some h
        have := nmP_rel s k _ _ _ _ h
        rw [List.length_append, List.length_singleton] at this
        omega
      · rw [cond_true] at h
        obtain ⟨_, h⟩ := bif_some h
        have := nmP_rel s k _ _ _ _ h
        rw [List.length_append, List.length_singleton] at this
        omega
theorem hxP_rel (s : ByteArray) : ∀ (k : Nat) (a : Int) (acc x : List Dat) (b : Int), hxP s k a acc = some (x, b) → (x.length : Int) + a + 1 ≤ b + acc.length
  | 0, a, acc, x, b, h => by cases h
  | k + 1, a, acc, x, b, h => by
    unfold hxP at h
    cases c0 : isB s a 62 <;> rw [c0] at h
    · rw [cond_false] at h
      obtain ⟨_, h⟩ := bif_some h
      have := hxP_rel s k _ _ _ _ h
      rw [List.length_append, List.length_singleton] at this
      omega
    · cases h; omega
theorem quP_rel (s : ByteArray) : ∀ (k : Nat) (a o : Int) (acc x : List Dat) (b : Int), quP s k a o acc = some (x, b) → (x.length : Int) + a + 1 ≤ b + acc.length
  | 0, a, o, acc, x, b, h => by cases h
  | k + 1, a, o, acc, x, b, h => by
    unfold quP at h
    obtain ⟨_, h⟩ := bif_some h
    have step : ∀ (a' o' : Int) (v : Dat), a + 1 ≤ a' → quP s k a' o' (acc ++ [v]) = some (x, b) → (x.length : Int) + a + 1 ≤ b + acc.length := fun a' o' v ha h => by
      have := quP_rel s k _ _ _ _ _ h
      rw [List.length_append, List.length_singleton] at this
      omega
    cases c1 : bt s a == 40 <;> rw [c1] at h
    · rw [cond_false] at h
      cases c2 : bt s a == 41 <;> rw [c2] at h
      · rw [cond_false] at h
        cases c3 : bt s a == 92 <;> rw [c3] at h
        · exact step _ _ _ (by omega) h
        · rw [cond_true] at h
          obtain ⟨_, h⟩ := bif_some h
          refine step _ _ _ ?_ h
          unfold esP
          cases eB (bt s (a + 1))
          · show a + 1 ≤ a + 1 + 3; omega
          · show a + 1 ≤ a + 1 + 1; omega
      · rw [cond_true] at h
        cases c3 : o == 0 <;> rw [c3] at h
        · exact step _ _ _ (by omega) h
        · cases h; omega
    · exact step _ _ _ (by omega) h
def ObTx (s : ByteArray) (ob : Int → Int → Option ObR) : Prop := ∀ (a l : Int) (d : Dat) (p l' : Int), 0 ≤ a → a ≤ s.size → ob a l = some (d, p, l') → ∀ j, ((txtO j d).length : Int) + 1 ≤ 4 * (p - a)
theorem arP_tx {s : ByteArray} {ob : Int → Int → Option ObR} (hob : ObBd s ob) (hp : ObTx s ob) : ∀ (k : Nat) (a l : Int) (acc : List Dat) (d : Dat) (p l' : Int), 0 ≤ a → a ≤ s.size → arP s ob k a l acc = some (d, p, l') →
    ∃ items, d = mkO 6 0 false ⟨#[]⟩ [] (acc ++ items) ∧ ∀ j first, ((sepT (txtO j) first items).length : Int) + 1 ≤ 4 * (p - a)
  | 0, a, l, acc, d, p, l', _, _, h => by cases h
  | k + 1, a, l, acc, d, p, l', h0, h1, h => by
    unfold arP at h
    cases hc : isB s a 93 <;> rw [hc] at h
    · rw [cond_false] at h
      split at h
      · cases h
      · rename_i d' p' l2 he
        obtain ⟨e1, e2, e3, e4⟩ := hob a l _ _ _ h0 h1 he
        have f1 := hp a l _ _ _ h0 h1 he
        obtain ⟨b1, b2⟩ := blA_bd (s := s) (a := p') e2
        obtain ⟨items, g1, g2⟩ := arP_tx hob hp k _ _ _ d p l' (by omega) b2 h
        refine ⟨nrm d' :: items, by rw [g1, List.append_assoc]; rfl, fun j first => ?_⟩
        have f1 := f1 j
        have g2 := g2 j false
        rw [sepT_cons, List.length_append, List.length_append, txtO_nrm]
        have h4 : (bif first then ([] : List Dat) else [Dat.int 32]).length ≤ 1 := by cases first <;> simp
        omega
    · cases h
      refine ⟨[], by rw [List.append_nil], fun j first => ?_⟩
      show ((sepT (txtO j) first []).length : Int) + 1 ≤ 4 * (a + 1 - a)
      unfold sepT
      simp only [List.length_nil]
      omega
theorem dcP_tx {s : ByteArray} {ob : Int → Int → Option ObR} (hob : ObBd s ob) (hp : ObTx s ob) : ∀ (k : Nat) (a l : Int) (ks acc : List Dat) (d : Dat) (p l' : Int), 0 ≤ a → a ≤ s.size → dcP s ob k a l ks acc = some (d, p, l') →
    ∃ ks' items, d = mkO 7 0 false ⟨#[]⟩ (ks ++ ks') (acc ++ items) ∧ ∀ j first, ((dicT (txtO j) first ks' items).length : Int) + 1 ≤ 4 * (p - a)
  | 0, a, l, ks, acc, d, p, l', _, _, h => by cases h
  | k + 1, a, l, ks, acc, d, p, l', h0, h1, h => by
    unfold dcP at h
    cases hc : isB s a 62 && isB s (a + 1) 62 <;> rw [hc] at h
    · rw [cond_false] at h
      obtain ⟨h47, h⟩ := bif_some h
      have hlt := isB_lt h47
      split at h
      · cases h
      · rename_i b q hq
        obtain ⟨n1, n2⟩ := nmP_bd s _ _ _ _ _ (by omega) hq
        have n3 := nmP_rel s _ _ _ _ _ hq
        rw [List.length_nil] at n3
        obtain ⟨m1, m2⟩ := blA_bd (s := s) (a := q) n2
        split at h
        · cases h
        · rename_i d' p' l2 he
          obtain ⟨e1, e2, e3, e4⟩ := hob _ l _ _ _ (by omega) m2 he
          have f1 := hp _ l _ _ _ (by omega) m2 he
          obtain ⟨b1, b2⟩ := blA_bd (s := s) (a := p') e2
          obtain ⟨ks', items, g1, g2⟩ := dcP_tx hob hp k _ _ _ _ d p l' (by omega) b2 h
          refine ⟨Dat.str (bytesOf b) :: ks', nrm d' :: items, by rw [g1, List.append_assoc, List.append_assoc]; rfl, fun j first => ?_⟩
          have f1 := f1 j
          have g2 := g2 j false
          have hn := (nameT_len (bytesOf b)).1
          rw [bytesOf_size] at hn
          have e : ((Dat.str (bytesOf b)).at 0).toS = bytesOf b := rfl
          rw [dicT_cons, List.length_append, List.length_append, List.length_append, List.length_append, txtO_nrm, List.length_singleton, e]
          have h4 : (bif first then ([] : List Dat) else [Dat.int 32]).length ≤ 1 := by cases first <;> simp
          omega
    · cases h
      refine ⟨[], [], by rw [List.append_nil, List.append_nil], fun j first => ?_⟩
      show ((dicT (txtO j) first [] []).length : Int) + 1 ≤ 4 * (a + 2 - a)
      unfold dicT
      simp only [List.length_nil]
      omega
theorem isT_size {w t : ByteArray} (h : isT w t = true) : w.size = t.size := by
  unfold isT at h
  rw [Lib.toList_data, Lib.toList_data, beq_iff_eq] at h
  show w.data.toList.length = t.data.toList.length
  rw [h]
theorem txt_small {j : Nat} {k n : Int} {b : Bool} {t : ByteArray} {m q : Int} (h0 : 0 < q) (h : ((txtK (txtO (j - 1)) k n b t [] []).length : Int) + 1 ≤ q) : ((txtO j (plO k n b t)).length : Int) + 1 ≤ q := by
  cases j with
  | zero =>
    show ((0 : Nat) : Int) + 1 ≤ q
    omega
  | succ j => exact h
theorem sd_tx {s : ByteArray} {a l : Int} {d : Dat} {p l' : Int} (h0 : 0 ≤ a) (h1 : a ≤ s.size) (h : sdS dpF s (sub' s a (wdA s a)) (wdA s a) l = some (d, p, l')) (j : Nat) : ((txtO j d).length : Int) + 1 ≤ 4 * (p - a) := by
  have hw1 : a ≤ wdA s a := skA_ge _ _ _
  have hw2 : wdA s a ≤ s.size := skA_le _ _ _ h1
  have hne : a ≠ wdA s a := fun e => by
    rw [← e, sdS_nil fOk (sub_nil s a)] at h
    cases h
  have hsz : ((sub' s a (wdA s a)).size : Int) = wdA s a - a := by
    unfold sub'
    rw [ByteArray.size_extract]
    omega
  obtain ⟨f1, f2, f3, f4, f5⟩ := rf_bd s (wdA s a) (by omega) hw2
  unfold sdS at h
  generalize sub' s a (wdA s a) = w at h hsz
  generalize wdA s a = e at *
  cases c1 : isT w nulT <;> rw [c1] at h
  · cases c2 : isT w trueT <;> rw [c2] at h
    · cases c3 : isT w falseT <;> rw [c3] at h
      · simp only [cond_false] at h
        cases c4 : isI w <;> rw [c4] at h
        · simp only [cond_false] at h
          obtain ⟨c5, h⟩ := bif_some h
          cases h
          obtain ⟨_, g2, g3⟩ := dpF_fix c5
          refine txt_small (m := 0) (by omega) ?_
          have : (txtK (txtO (j - 1)) 3 (dpF w).2 false ⟨#[]⟩ [] []).length = w.size := by
            rw [g3]
            show (bytesTo (fixT (nr1 w))).length = _
            rw [bytesTo_len, g2]
          omega
        · simp only [cond_true] at h
          have g1 := isI_itoa c4
          have hb := c4
          unfold isI at hb
          rw [Bool.and_eq_true] at hb
          have hb := atV_bd hb.1
          unfold i64B at hb
          rw [Bool.and_eq_true, decide_eq_true_eq, decide_eq_true_eq] at hb
          have g2 : (itS (atV w)).size = w.size := by
            rw [itS_itoa hb.1 hb.2, g1]
            rfl
          cases c5 : rfB s e <;> rw [c5] at h
          · cases h
            refine txt_small (m := 0) (by omega) ?_
            have : (txtK (txtO (j - 1)) 2 (atV w) false ⟨#[]⟩ [] []).length = w.size := by
              show (bytesTo (itS (atV w))).length = _
              rw [bytesTo_len, g2]
            omega
          · cases h
            have hbl : blA s e > e := by
              unfold rfB at c5
              rw [Bool.and_eq_true] at c5
              exact of_decide_eq_true c5.1
            refine txt_small (m := 0) (by omega) ?_
            have : (txtK (txtO (j - 1)) 8 (atV w) false ⟨#[]⟩ [] []).length = w.size + 4 := by
              show (bytesTo (itS (atV w) ++ refT)).length = _
              rw [bytesTo_len, ByteArray.size_append, g2]
              rfl
            omega
      · cases h
        have := isT_size c3
        have e5 : falseT.size = 5 := rfl
        refine txt_small (m := 0) (by omega) ?_
        have : (txtK (txtO (j - 1)) 1 0 false ⟨#[]⟩ [] []).length = 5 := rfl
        omega
    · cases h
      have := isT_size c2
      have e5 : trueT.size = 4 := rfl
      refine txt_small (m := 0) (by omega) ?_
      have : (txtK (txtO (j - 1)) 1 0 true ⟨#[]⟩ [] []).length = 4 := rfl
      omega
  · cases h
    have := isT_size c1
    have e5 : nulT.size = 4 := rfl
    refine txt_small (m := 0) (by omega) ?_
    have : (txtK (txtO (j - 1)) 0 0 false ⟨#[]⟩ [] []).length = 4 := rfl
    omega
theorem obB_tx {s : ByteArray} {ob : Int → Int → Option ObR} (hob : ObBd s ob) (hp : ObTx s ob) {a deep l : Int} {d : Dat} {p l' : Int} (h0 : 0 ≤ a) (h1 : a ≤ s.size) (h : obB dpF s ob a deep l = some (d, p, l')) (j : Nat) : ((txtO j d).length : Int) + 1 ≤ 4 * (p - a) := by
  have ht : ∀ (o : Option (List Dat × Int)), (∀ x b, o = some (x, b) → (x.length : Int) + a + 2 ≤ b) → txR 5 o l = some (d, p, l') → ((txtO j d).length : Int) + 1 ≤ 4 * (p - a) := fun o ho e => by
    obtain ⟨⟨x, b⟩, hx, e⟩ := Option.map_eq_some_iff.1 e
    cases e
    have := ho x b hx
    refine txt_small (m := 0) (by omega) ?_
    have hl := (txtT_len (bytesOf x)).1
    rw [bytesOf_size] at hl
    show ((txtT (bytesOf x)).length : Int) + 1 ≤ _
    omega
  unfold obB at h
  obtain ⟨hl, h⟩ := bif_some h
  cases c1 : isB s a 60 && isB s (a + 1) 60 <;> rw [c1] at h
  · cases c2 : isB s a 60 <;> rw [c2] at h
    · cases c3 : isB s a 40 <;> rw [c3] at h
      · cases c4 : isB s a 47 <;> rw [c4] at h
        · cases c5 : isB s a 91 <;> rw [c5] at h
          · exact sd_tx h0 h1 h j
          · have := isB_lt c5
            have h : arR s ob (a + 1) deep l = some (d, p, l') := h
            unfold arR at h
            obtain ⟨_, h⟩ := bif_some h
            obtain ⟨b1, b2⟩ := blA_bd (s := s) (a := a + 1) (by omega)
            obtain ⟨items, g1, g2⟩ := arP_tx hob hp _ _ _ _ _ _ _ (by omega) b2 h
            rw [g1]
            cases j with
            | zero =>
              have := g2 0 true
              show ((0 : Nat) : Int) + 1 ≤ _
              omega
            | succ j =>
              have := g2 j true
              show (((Dat.int 91 :: sepT (txtO j) true ([] ++ items)) ++ [Dat.int 93]).length : Int) + 1 ≤ _
              rw [List.nil_append, List.length_append, List.length_cons, List.length_singleton]
              omega
        · have := isB_lt c4
          have h : txR 4 (nmA s (a + 1)) l = some (d, p, l') := h
          obtain ⟨⟨x, b⟩, hx, e⟩ := Option.map_eq_some_iff.1 h
          cases e
          have hr := nmP_rel s _ _ _ _ _ hx
          rw [List.length_nil] at hr
          refine txt_small (m := 0) (by show 0 < 4 * (b - a); omega) ?_
          have hn := (nameT_len (bytesOf x)).1
          rw [bytesOf_size] at hn
          show ((nameT (bytesOf x)).length : Int) + 1 ≤ 4 * (b - a)
          omega
      · exact ht _ (fun x b e => by have := quP_rel s _ _ _ _ _ _ e; rw [List.length_nil] at this; omega) h
    · exact ht _ (fun x b e => by have := hxP_rel s _ _ _ _ _ e; rw [List.length_nil] at this; omega) h
  · rw [Bool.and_eq_true] at c1
    have := isB_lt c1.2
    have h : dcR s ob (a + 2) deep l = some (d, p, l') := h
    unfold dcR at h
    obtain ⟨_, h⟩ := bif_some h
    obtain ⟨b1, b2⟩ := blA_bd (s := s) (a := a + 2) (by omega)
    obtain ⟨ks', items, g1, g2⟩ := dcP_tx hob hp _ _ _ _ _ _ _ _ (by omega) b2 h
    rw [g1]
    cases j with
    | zero =>
      have := g2 0 true
      show ((0 : Nat) : Int) + 1 ≤ _
      omega
    | succ j =>
      have := g2 j true
      show (((bytesTo ⟨#[60, 60]⟩ ++ dicT (txtO j) true ([] ++ ks') ([] ++ items)) ++ bytesTo ⟨#[62, 62]⟩).length : Int) + 1 ≤ _
      rw [List.nil_append, List.nil_append, List.length_append, List.length_append, bytesTo_len, bytesTo_len]
      have e2 : (⟨#[60, 60]⟩ : ByteArray).size = 2 := rfl
      have e3 : (⟨#[62, 62]⟩ : ByteArray).size = 2 := rfl
      omega
theorem obP_tx (s : ByteArray) : ∀ (k : Nat) (deep : Int), ObTx s fun a l => obP dpF s k a deep l
  | 0, deep => fun a l d p l' _ _ h => by cases h
  | k + 1, deep => fun a l d p l' h0 h1 h j => by
    have h : obB dpF s (fun a l => obP dpF s k a (deep - 1) l) a deep (l - 1) = some (d, p, l') := h
    exact obB_tx (obP_bd dpF s k (deep - 1)) (obP_tx s k (deep - 1)) h0 h1 h j
theorem keysN_ge : ∀ (ks : List Dat) (n : Int), n ≤ keysN ks n
  | [], n => Int.le_refl _
  | d :: ks, n => by
    have := keysN_ge ks (n + ((d.at 0).toS.size : Int).tdiv 100)
    unfold keysN
    have h : 0 ≤ ((d.at 0).toS.size : Int).tdiv 100 := Int.tdiv_nonneg (by omega) (by omega)
    omega
theorem itemsN_neg {f : Dat → Int → Int} : ∀ (l : List Dat) (n : Int), n < 0 → itemsN f l n = n
  | [], n, _ => rfl
  | d :: l, n, h => by
    unfold itemsN
    rw [decide_eq_false (by omega)]
    rfl
theorem itemsN_eq (f : Dat → Int → Int) (d : Dat) (l : List Dat) (n : Int) : itemsN f (d :: l) n = bif decide (n ≥ 0) then itemsN f l (f d n) else n := rfl
theorem itemsN_step {f : Dat → Int → Int} {d : Dat} {l : List Dat} {n : Int} (h : 0 ≤ itemsN f (d :: l) n) : 0 ≤ n ∧ itemsN f (d :: l) n = itemsN f l (f d n) := by
  rw [itemsN_eq] at h ⊢
  by_cases hn : n ≥ 0
  · rw [decide_eq_true hn, cond_true]
    exact ⟨hn, rfl⟩
  · rw [decide_eq_false hn, cond_false] at h
    omega
def LenD (k : Nat) (d : Dat) : Prop := ∀ (k2 : Nat) (nest ahead : Int), 0 ≤ ahead → 0 ≤ largeO k2 d nest ahead → ((txtO k d).length : Int) + 2 ≤ 400 * (largeO k2 d nest ahead - ahead) ∧ largeO k2 d nest ahead ≤ 2000
theorem sep_large {k k2 : Nat} {nest : Int} : ∀ (l : List Dat) (first : Bool) (n : Int), (∀ e ∈ l, LenD k e) → 0 ≤ n → 0 ≤ itemsN (fun e n => largeO k2 e nest n) l n →
    ((sepT (txtO k) first l).length : Int) ≤ 400 * (itemsN (fun e n => largeO k2 e nest n) l n - n) ∧ (l ≠ [] → itemsN (fun e n => largeO k2 e nest n) l n ≤ 2000)
  | [], first, n, _, _, _ => by
    refine ⟨?_, fun h => (h rfl).elim⟩
    unfold sepT itemsN
    simp only [List.length_nil]
    omega
  | d :: l, first, n, hd, h0, h => by
    obtain ⟨_, e⟩ := itemsN_step h
    rw [e] at h ⊢
    have h1 : 0 ≤ largeO k2 d nest n := by
      by_cases hx : largeO k2 d nest n < 0
      · rw [itemsN_neg l _ hx] at h
        exact h
      · omega
    obtain ⟨a1, a2⟩ := hd d (by simp) k2 nest n h0 h1
    obtain ⟨b1, b2⟩ := sep_large l false (largeO k2 d nest n) (fun e he => hd e (by simp [he])) h1 h
    rw [sepT_cons, List.length_append, List.length_append]
    have h4 : (bif first then ([] : List Dat) else [Dat.int 32]).length ≤ 1 := by cases first <;> simp
    refine ⟨by omega, fun _ => ?_⟩
    by_cases hl : l = []
    · subst hl
      exact a2
    · exact b2 hl
theorem dic_large {k k2 : Nat} {nest : Int} : ∀ (ks l : List Dat) (first : Bool) (n : Int), ks.length = l.length → (∀ d ∈ ks, (d.at 0).toS.size ≤ 127) → (∀ e ∈ l, LenD k e) → 0 ≤ n → 0 ≤ itemsN (fun e n => largeO k2 e nest n) l n →
    ((dicT (txtO k) first ks l).length : Int) ≤ 400 * (itemsN (fun e n => largeO k2 e nest n) l n - n) + 400 * l.length ∧ (l ≠ [] → itemsN (fun e n => largeO k2 e nest n) l n ≤ 2000)
  | [], [], first, n, _, _, _, _, _ => by
    refine ⟨?_, fun h => (h rfl).elim⟩
    unfold dicT itemsN
    simp only [List.length_nil]
    omega
  | [], d :: l, first, n, hl, _, _, _, _ => by cases hl
  | key :: ks, [], first, n, hl, _, _, _, _ => by cases hl
  | key :: ks, d :: l, first, n, hl, hk, hd, h0, h => by
    obtain ⟨_, e⟩ := itemsN_step h
    rw [e] at h ⊢
    have h1 : 0 ≤ largeO k2 d nest n := by
      by_cases hx : largeO k2 d nest n < 0
      · rw [itemsN_neg l _ hx] at h
        exact h
      · omega
    obtain ⟨a1, a2⟩ := hd d (by simp) k2 nest n h0 h1
    obtain ⟨b1, b2⟩ := dic_large ks l false (largeO k2 d nest n) (by simpa using hl) (fun e he => hk e (by simp [he])) (fun e he => hd e (by simp [he])) h1 h
    rw [dicT_cons, List.length_append, List.length_append, List.length_append, List.length_append, List.length_singleton, List.length_cons]
    have h4 : (bif first then ([] : List Dat) else [Dat.int 32]).length ≤ 1 := by cases first <;> simp
    have h5 := (nameT_len (key.at 0).toS).1
    have h6 := hk key (by simp)
    refine ⟨by omega, fun _ => ?_⟩
    by_cases hl : l = []
    · subst hl
      exact a2
    · exact b2 hl
end Go.Proofs.YtckdgcpomkefpaaGreatDoor.En
end
section
set_option linter.unusedVariables false
set_option linter.unusedSimpArgs false
set_option maxRecDepth 100000
namespace Go.Proofs.YtckdgcpomkefpaaGreatDoor.En
open Go Go.RowKit
theorem good_each {k : Nat} {d : Dat} {nest n : Int} (hn : 0 ≤ n) (h : 0 ≤ goodO (k + 1) d nest n) : ∀ e ∈ (d.at 5).toL, ∃ nest' n', 0 ≤ n' ∧ 0 ≤ goodO k e nest' n' := fun e he => by
  unfold goodO at h
  cases hc : decide (n + 1 > 65536) || !flatD d
  · rw [hc, cond_false] at h
    cases hk : (d.at 0).toI == 6 || (d.at 0).toI == 7
    · rw [hk, cond_false] at h
      obtain ⟨n', a1, a2⟩ := itemsG_all (g := fun e n => goodO k e nest n) (fun e n hn he => goodO_mono k e nest n hn he) _ _ (by omega) h e he
      exact ⟨_, n', a1, a2⟩
    · rw [hk, cond_true] at h
      cases hq : decide (nest + 1 > 32)
      · rw [hq, cond_false] at h
        obtain ⟨n', a1, a2⟩ := itemsG_all (g := fun e n => goodO k e (nest + 1) n) (fun e n hn he => goodO_mono k e (nest + 1) n hn he) _ _ (by omega) h e he
        exact ⟨_, n', a1, a2⟩
      · rw [hq] at h; simp at h
  · rw [hc] at h; simp at h
theorem tdiv_100 (n : Nat) : (n : Int).tdiv 100 = ((n / 100 : Nat) : Int) := by
  rw [Int.tdiv_eq_ediv_of_nonneg (by omega)]
  rfl
theorem len_all : ∀ (k : Nat) (d : Dat) (nest n : Int), 0 ≤ n → 0 ≤ goodO k d nest n → LenD k d
  | 0, d, nest, n, _, h => by simp [goodO] at h
  | k + 1, d, nest, n, hn, h => by
    obtain ⟨_, _, hfl⟩ := good_flat h
    have hkb := kindB_of (show flatB (d.at 0).toI (d.at 2).toI (d.at 1).toB (d.at 3).toS (d.at 4).toL (d.at 5).toL = true from hfl)
    have hz := bare_zero (flat_bare hfl)
    have hit : ∀ e ∈ (d.at 5).toL, LenD k e := fun e he => by
      obtain ⟨nest', n', a1, a2⟩ := good_each hn h e he
      exact len_all k e nest' n' a1 a2
    intro k2 nest2 ahead ha hl
    cases k2 with
    | zero => simp [largeO] at hl
    | succ k2 =>
      have el : largeO (k2 + 1) d nest2 ahead = bif decide (headN (d.at 3).toS (d.at 4).toL (d.at 5).toL ahead > 2000) || decide (nest2 > 100) then -1 else itemsN (fun e n => largeO k2 e (nest2 + 1) n) (d.at 5).toL (keysN (d.at 4).toL (headN (d.at 3).toS (d.at 4).toL (d.at 5).toL ahead)) := rfl
      rw [el] at hl ⊢
      cases hc : decide (headN (d.at 3).toS (d.at 4).toL (d.at 5).toL ahead > 2000) || decide (nest2 > 100) <;> rw [hc] at hl
      rotate_left
      · simp at hl
      rw [Bool.or_eq_false_iff, decide_eq_false_iff_not] at hc
      have hhead := hc.1
      rw [cond_false] at hl ⊢
      show ((txtK (txtO k) (d.at 0).toI (d.at 2).toI (d.at 1).toB (d.at 3).toS (d.at 4).toL (d.at 5).toL).length : Int) + 2 ≤ _ ∧ _
      clear el hc h hfl
      revert hkb hz hit hl hhead
      generalize (d.at 0).toI = k1
      generalize (d.at 2).toI = n1
      generalize (d.at 1).toB = b1
      generalize (d.at 3).toS = s1
      generalize (d.at 4).toL = ks1
      generalize (d.at 5).toL = l1
      intro hkb hz hit hl hhead
      obtain ⟨z1, z2, z3, z4, z5⟩ := hz
      have hg := keysN_ge ks1 (headN s1 ks1 l1 ahead)
      have hH : headN s1 ks1 l1 ahead = ahead + 1 + ks1.length + l1.length + ((s1.size / 100 : Nat) : Int) := by unfold headN; rw [tdiv_100]
      have small : ks1 = [] → l1 = [] → ∀ t : Nat, (t : Int) + 2 ≤ 400 * (1 + ((s1.size / 100 : Nat) : Int)) → (t : Int) + 2 ≤ 400 * (itemsN (fun e n => largeO k2 e (nest2 + 1) n) l1 (keysN ks1 (headN s1 ks1 l1 ahead)) - ahead) ∧ itemsN (fun e n => largeO k2 e (nest2 + 1) n) l1 (keysN ks1 (headN s1 ks1 l1 ahead)) ≤ 2000 := fun e1 e2 t ht => by
        subst e1 e2
        unfold itemsN keysN
        rw [List.length_nil] at hH
        exact ⟨by omega, by omega⟩
      rcases kinds9 hkb with rfl | rfl | rfl | rfl | rfl | rfl | rfl | rfl | rfl
      · exact small (z4 rfl) (z5 rfl) 4 (by omega)
      · refine small (z4 rfl) (z5 rfl) (bytesTo (boolT b1)).length ?_
        rw [bytesTo_len]
        cases b1
        · show ((5 : Nat) : Int) + 2 ≤ _; omega
        · show ((4 : Nat) : Int) + 2 ≤ _; omega
      · refine small (z4 rfl) (z5 rfl) (bytesTo (itS n1)).length ?_
        have := itS_size n1
        rw [bytesTo_len]; omega
      · have hk : (inB n1 && (n1.tmod 65536) != 0) = true := hkb
        rw [Bool.and_eq_true] at hk
        have := fixT_size hk.1
        refine small (z4 rfl) (z5 rfl) (bytesTo (fixT n1)).length ?_
        rw [bytesTo_len]; omega
      · have hk : namedB s1 = true := hkb
        have h1 := named_size hk
        have := nameT_len s1
        exact small (z4 rfl) (z5 rfl) (nameT s1).length (by omega)
      · have := txtT_len s1
        exact small (z4 rfl) (z5 rfl) (txtT s1).length (by omega)
      · obtain rfl : ks1 = [] := z4 rfl
        rw [List.length_nil] at hH
        have hg2 : keysN [] (headN s1 [] l1 ahead) = headN s1 [] l1 ahead := rfl
        rw [hg2] at hl ⊢
        obtain ⟨a1, a2⟩ := sep_large (k := k) (k2 := k2) (nest := nest2 + 1) l1 true _ hit (by omega) hl
        show (((Dat.int 91 :: sepT (txtO k) true l1) ++ [Dat.int 93]).length : Int) + 2 ≤ _ ∧ _
        rw [List.length_append, List.length_cons, List.length_singleton]
        refine ⟨by omega, ?_⟩
        by_cases hl0 : l1 = []
        · subst hl0
          unfold itemsN
          omega
        · exact a2 hl0
      · obtain ⟨c1, c2⟩ := kb7 hkb
        obtain ⟨a1, a2⟩ := dic_large (k := k) (k2 := k2) (nest := nest2 + 1) ks1 l1 true _ c1 c2 hit (by omega) hl
        show (((bytesTo ⟨#[60, 60]⟩ ++ dicT (txtO k) true ks1 l1) ++ bytesTo ⟨#[62, 62]⟩).length : Int) + 2 ≤ _ ∧ _
        rw [List.length_append, List.length_append, bytesTo_len, bytesTo_len]
        have e2 : (⟨#[60, 60]⟩ : ByteArray).size = 2 := rfl
        have e3 : (⟨#[62, 62]⟩ : ByteArray).size = 2 := rfl
        refine ⟨by omega, ?_⟩
        by_cases hl0 : l1 = []
        · subst hl0
          have : ks1 = [] := List.length_eq_zero_iff.1 c1
          subst this
          unfold itemsN keysN
          omega
        · exact a2 hl0
      · refine small (z4 rfl) (z5 rfl) (bytesTo (itS n1 ++ refT)).length ?_
        have := itS_size n1
        have e : (bytesTo (itS n1 ++ refT)).length = (itS n1).size + 4 := by rw [bytesTo_len, ByteArray.size_append]; rfl
        omega
theorem keysEq_symm : ∀ (l m : List Dat), keysEq l m = keysEq m l
  | [], [] => rfl
  | d :: l, e :: m => by rw [keysEq, keysEq, keysEq_symm l m, Bool.beq_comm]
  | [], _ :: _ => rfl
  | _ :: _, [] => rfl
theorem sameO_symm : ∀ (k : Nat) (a b : Dat), sameO k a b = sameO k b a
  | 0, a, b => rfl
  | k + 1, a, b => by
    have hl : ∀ l m : List Dat, allEq (sameO k) l m = allEq (sameO k) m l := fun l => by
      induction l with
      | nil => intro m; cases m <;> rfl
      | cons d l ih =>
        intro m
        cases m with
        | nil => rfl
        | cons e m => rw [allEq, allEq, ih, sameO_symm k d e]
    unfold sameO
    rw [hl, keysEq_symm, Bool.beq_comm, Bool.beq_comm (a := (a.at 1).toB), Bool.beq_comm (a := (a.at 2).toI), Bool.beq_comm (a := (a.at 3).toS.toList)]
theorem eqK_same {d d' e e' : Dat} (h1 : ((d.at 0).toS.toList == (d'.at 0).toS.toList) = true) (h2 : ((e.at 0).toS.toList == (e'.at 0).toS.toList) = true) : eqK d e = eqK d' e' := by
  unfold eqK
  rw [beq_iff_eq] at h1 h2
  rw [h1, h2]
theorem any_same {d d' : Dat} (h1 : ((d.at 0).toS.toList == (d'.at 0).toS.toList) = true) : ∀ (p p' : List Dat), keysEq p p' = true → (p.any fun e => eqK e d) = (p'.any fun e => eqK e d')
  | [], [], _ => rfl
  | e :: p, e' :: p', h => by
    rw [keysEq, Bool.and_eq_true] at h
    rw [List.any_cons, List.any_cons, any_same h1 p p' h.2, eqK_same h.1 h1]
  | [], _ :: _, h => by cases h
  | _ :: _, [], h => by cases h
theorem toS_eq {s t : ByteArray} (h : (s.toList == t.toList) = true) : s = t := by
  rw [beq_iff_eq, Lib.toList_data, Lib.toList_data] at h
  exact ba_inj h
theorem keysEq_app : ∀ (p p' : List Dat) (d d' : Dat), keysEq p p' = true → ((d.at 0).toS.toList == (d'.at 0).toS.toList) = true → keysEq (p ++ [d]) (p' ++ [d']) = true
  | [], [], d, d', _, h => by
    show (_ && true) = true
    rw [h]; rfl
  | e :: p, e' :: p', d, d', h, h2 => by
    rw [keysEq, Bool.and_eq_true] at h
    show (_ && keysEq (p ++ [d]) (p' ++ [d'])) = true
    rw [h.1, keysEq_app p p' d d' h.2 h2]
    rfl
  | [], _ :: _, d, d', h, _ => by cases h
  | _ :: _, [], d, d', h, _ => by cases h
theorem keysR_same : ∀ (l l' p p' : List Dat), keysEq l l' = true → keysEq p p' = true → keysR p l = keysR p' l'
  | [], [], p, p', _, _ => by unfold keysR; rfl
  | d :: l, d' :: l', p, p', h, hp => by
    rw [keysEq, Bool.and_eq_true] at h
    unfold keysR
    rw [any_same h.1 p p' hp, keysR_same l l' _ _ h.2 (keysEq_app p p' d d' hp h.1), toS_eq h.1]
  | [], _ :: _, p, p', h, _ => by cases h
  | _ :: _, [], p, p', h, _ => by cases h
theorem sameO_parts {k : Nat} {a b : Dat} (h : sameO (k + 1) a b = true) : (a.at 0).toI = (b.at 0).toI ∧ (a.at 1).toB = (b.at 1).toB ∧ (a.at 2).toI = (b.at 2).toI ∧ (a.at 3).toS = (b.at 3).toS ∧ keysEq (a.at 4).toL (b.at 4).toL = true ∧ allEq (sameO k) (a.at 5).toL (b.at 5).toL = true := by
  unfold sameO at h
  simp only [Bool.and_eq_true, beq_iff_eq] at h
  obtain ⟨h1, h2, h3, h4, h5, h6⟩ := h
  exact ⟨h1, h2, h3, toS_eq (by rw [h4]; exact beq_self_eq_true _), h5, h6⟩
theorem flatD_same {k : Nat} {a b : Dat} (h : sameO (k + 1) a b = true) : flatD a = flatD b := by
  obtain ⟨h1, h2, h3, h4, h5, h6⟩ := sameO_parts h
  unfold flatD flatB bareB kindB
  rw [h1, h2, h3, h4, keysEq_len h5, allEq_len h6, keysR_same _ _ [] [] h5 rfl]
theorem goodO_same : ∀ (k : Nat) (a b : Dat), sameO k a b = true → ∀ nest n, goodO k a nest n = goodO k b nest n
  | 0, a, b, _, nest, n => rfl
  | k + 1, a, b, h, nest, n => by
    obtain ⟨h1, h2, h3, h4, h5, h6⟩ := sameO_parts h
    have hi : ∀ (g : Int) (l m : List Dat), allEq (sameO k) l m = true → ∀ n, itemsG (fun e n => goodO k e g n) l n = itemsG (fun e n => goodO k e g n) m n := fun g l => by
      induction l with
      | nil =>
        intro m hm n
        cases m with
        | nil => rfl
        | cons e m => cases hm
      | cons d l ih =>
        intro m hm n
        cases m with
        | nil => cases hm
        | cons e m =>
          rw [allEq, Bool.and_eq_true] at hm
          show (bif decide (goodO k d g n < 0) then -1 else itemsG _ l (goodO k d g n)) = (bif decide (goodO k e g n < 0) then -1 else itemsG _ m (goodO k e g n))
          rw [goodO_same k d e hm.1, ih m hm.2]
    unfold goodO
    rw [flatD_same h, h1, hi (nest + 1) _ _ h6, hi nest _ _ h6]
theorem paO_some {u : ByteArray} {e : Dat} {p l : Int} (h : obP dpF u 33 (blA u 0) 32 65536 = some (e, p, l)) (hg : goodO 101 e 0 0 > 0) : paO dpF u 0 = some (nrm e, p) := by
  unfold paO
  rw [h, Option.bind_some]
  have : (ogO 101 (nrm e) 32 65536).1 = true := by rw [good_mk, goodO_nrm]; exact decide_eq_true hg
  dsimp only
  rw [this]
  rfl
theorem pa_back {d : Dat} {u : ByteArray} {r : List UInt8} (hg : goodO 101 d 0 0 > 0) (hu : rest u 0 = txtU 101 d ++ r) (hr : safe r) : ∃ e, paO dpF u 0 = some (nrm e, ((txtU 101 d).length : Int)) ∧ sameO 101 e d = true ∧ goodO 101 e 0 0 > 0 := by
  obtain ⟨j, hj, hf⟩ := good_flat (show 0 ≤ goodO 101 d 0 0 by omega)
  have hH := hd_of 100 d hf
  obtain ⟨⟨c, t, t1, t2, _⟩, _⟩ := hH
  have h2 : rest u 0 = [] ++ c :: (t ++ r) := by rw [hu, t1]; rfl
  have e0 : blA u 0 = 0 := (bl_skip h2 (by simp) t2).1
  obtain ⟨e, f1, f2⟩ := rb 101 d 0 (by omega) (by omega) 33 (by omega) u 0 r 0 hu hr (by omega) (by omega)
  have hge : goodO 101 e 0 0 > 0 := by rw [goodO_same 101 e d f2]; exact hg
  refine ⟨e, ?_, f2, hge⟩
  refine paO_some (l := 65536 - goodO 101 d 0 0) ?_ hge
  rw [e0]
  have e3 : ((0 + (txtU 101 d).length : Nat) : Int) = ((txtU 101 d).length : Int) := by omega
  rw [e3] at f1
  exact f1
theorem paO_all {u : ByteArray} {a : Int} {d : Dat} {p : Int} (hs : u.size ≤ 1000000) (h0 : 0 ≤ a) (h1 : a ≤ u.size) (h : paO dpF u a = some (d, p)) :
    (fitO 101 (d.at 4).toL (d.at 5).toL ∧ keyZ 101 (d.at 4).toL (d.at 5).toL) ∧ goodO 101 d 0 0 > 0 ∧ a < p ∧ p ≤ u.size ∧ ∀ j, ((txtO j d).length : Int) + 1 ≤ 4 * (p - a) := by
  unfold paO at h
  obtain ⟨b1, b2⟩ := blA_bd (s := u) (a := a) h1
  cases ho : obP dpF u 33 (blA u a) 32 65536 with
  | none => rw [ho] at h; cases h
  | some t =>
    obtain ⟨e, q, l⟩ := t
    rw [ho, Option.bind_some] at h
    dsimp only at h
    obtain ⟨h2, h⟩ := bif_some h
    injection h with h
    injection h with e1 e2
    subst e1 e2
    have hft := obP_fit dpF u hs 33 32 (blA u a) 65536 e q l (by omega) b2 (by omega) ho
    have hf2 := fit_le (k := 34) (n := 101) (by omega) hft
    rw [good_mk, decide_eq_true_eq] at h2
    obtain ⟨c1, c2, c3, c4⟩ := obP_bd dpF u 33 32 (blA u a) 65536 e q l (by omega) b2 ho
    obtain ⟨c5, _⟩ := obP_pr (f := dpF) (s := u) fOk 33 32 (blA u a) 65536 e q l (by omega) b2 ho
    refine ⟨hf2, h2, by omega, c2, fun j => ?_⟩
    have := obP_tx u 33 32 (blA u a) 65536 e q l (by omega) b2 ho j
    rw [txtO_nrm]
    omega
theorem txtU_len (k : Nat) (d : Dat) : (txtU k d).length = (txtO k d).length := ub_len _
theorem printS_yes {d : Dat} (hg : goodO 101 d 0 0 > 0) (hl : ((txtO 101 d).length : Int) ≤ 1048576) : printS d = bs (txtU 101 d) ∧ printF d = 0 := by
  unfold printS printF
  rw [decide_eq_true hg, decide_eq_false (by omega), cond_true, cond_true]
  exact ⟨rfl, rfl⟩
theorem printF_zero {d : Dat} (h : (printF d == 0) = true) : goodO 101 d 0 0 > 0 ∧ ((txtO 101 d).length : Int) ≤ 1048576 := by
  unfold printF at h
  by_cases hg : goodO 101 d 0 0 > 0
  · refine ⟨hg, ?_⟩
    rw [decide_eq_true hg, cond_true] at h
    by_cases hl : ((txtO 101 d).length : Int) > 1048576
    · rw [decide_eq_true hl] at h
      cases h
    · omega
  · rw [decide_eq_false hg] at h
    cases h
theorem txtO_cp : ∀ (k : Nat) (d : Dat), txtO k (copyO k d) = txtO k d
  | 0, d => rfl
  | k + 1, d => by
    have h1 : ∀ (l : List Dat) (first : Bool), sepT (txtO k) first (l.map (copyO k)) = sepT (txtO k) first l := fun l => by
      induction l with
      | nil => intro _; rfl
      | cons d l ih => intro first; rw [List.map_cons, sepT_cons, sepT_cons, txtO_cp k d, ih]
    have h2 : ∀ (ks l : List Dat) (first : Bool), dicT (txtO k) first ks (l.map (copyO k)) = dicT (txtO k) first ks l := fun ks => by
      induction ks with
      | nil => intro l first; cases l <;> rfl
      | cons key ks ih =>
        intro l first
        cases l with
        | nil => rfl
        | cons d l => rw [List.map_cons, dicT_cons, dicT_cons, txtO_cp k d, ih]
    show txtK (txtO k) (d.at 0).toI (d.at 2).toI (d.at 1).toB (d.at 3).toS (d.at 4).toL ((d.at 5).toL.map (copyO k)) = txtK (txtO k) (d.at 0).toI (d.at 2).toI (d.at 1).toB (d.at 3).toS (d.at 4).toL (d.at 5).toL
    unfold txtK
    rw [h1, h2]
theorem rest_zero (l : List UInt8) : rest (bs l) 0 = l := rfl
theorem sameQ_yes {d e : Dat} (hf : fitO 101 (d.at 4).toL (d.at 5).toL) (h : sameO 101 d e = true) : sameQ d e = some true := by
  unfold sameQ
  rw [fitB_eq hf, cond_true, sameO_nrm, h]
theorem paK0_eq {u : ByteArray} (K : Dat → Int → Int → Option Out) (hs : u.size ≤ 1000000) : paK0 u K = bif (paO dpF u 0).isSome then K (rvP (paO dpF u 0)).1 (rvP (paO dpF u 0)).2 0 else K (plO 0 0 false ⟨#[]⟩) 0 50 := by
  unfold paK0
  rw [Nat.ble_eq_true_of_le hs, cond_true, decide_eq_false (by omega), decide_eq_false (by omega)]
  rfl
theorem bk2_yes (s : ByteArray) (hs : s.size ≤ 20000) : bk2 s = bT true := by
  unfold bk2
  rw [paK0_eq _ (by omega)]
  cases h : paO dpF s 0 with
  | none =>
    show bk3 s (plO 0 0 false ⟨#[]⟩) 0 50 = _
    unfold bk3
    have e : sameQ (plO 0 0 false ⟨#[]⟩) (plO 0 0 false ⟨#[]⟩) = some true := sameQ_yes (fitR_nil 100) (sameO_refl 101 _ (fitR_nil 100))
    rw [e]
    rfl
  | some t =>
    obtain ⟨d, p⟩ := t
    show bk3 s d p 0 = _
    obtain ⟨hf, hg, p0, p1, htx⟩ := paO_all (by omega) (by omega) (by omega) h
    have hl := htx 101
    unfold bk3
    have hgn : goodO 101 (nrm d) 0 0 > 0 := by rw [goodO_nrm]; exact hg
    obtain ⟨e1, e2⟩ := printS_yes hgn (by rw [txtO_nrm]; omega)
    rw [show ((0 : Int) != 0) = false from rfl, cond_false, decP_eq (show okPr (d.at 4).toL (d.at 5).toL from hf), cond_true, e1, e2]
    have hz : (bs (txtU 101 (nrm d))).size = (txtO 101 d).length := by
      rw [bs_size, txtU_len, txtO_nrm]
    rw [paK0_eq _ (by rw [hz]; omega)]
    obtain ⟨y, f1, f2, f3⟩ := pa_back (r := []) hgn (by rw [rest_zero, List.append_nil]) safe_nil
    rw [f1]
    show bk4 s (bs (txtU 101 (nrm d))) d p 0 (nrm y) ((txtU 101 (nrm d)).length : Int) 0 = _
    unfold bk4
    have hok : okO' 101 (d.at 4).toL (d.at 5).toL 32 65536 := ⟨hf.1, hf.2, by omega, by omega, by omega, by omega⟩
    have h5 : (ogO 101 (nrm d) 32 65536).1 = true := by rw [good_mk]; exact decide_eq_true hgn
    have h6 : sameO 101 d (nrm y) = true := by
      rw [sameO_symm, sameO_nrm1, ← f2]
      cases (101 : Nat) <;> rfl
    rw [decP_eq hok, cond_true, h5, sameQ_yes hf.1 h6, decide_eq_true (by omega), decide_eq_true p1, bs_size]
    simp only [andK_eq, andO_eq, beq_self_eq_true, Bool.and_self, cond_true]
theorem back_run {m : Nat} {k1 n1 : Int} {b1 : Bool} {s1 : ByteArray} {ks1 l1 : List Dat} {s : ByteArray} (hz1 : ∀ k, fitZ k s1 ks1 l1) :
    evFn PR TK callBk m 8 [.agg (obA k1 n1 b1 s1 ks1 l1), S s] [none, none] = some (.ret (B true) [none, none]) := by
  rw [back_0]
  have z1 : zB 102 s1 ks1 l1 0 0 = true := decP_eq ⟨by decide, by decide, by decide, by decide, by decide, hz1 102⟩
  rw [z1, cond_true, orK_eq]
  cases hb1 : big k1 n1 b1 s1 ks1 l1 || decide ((s.size : Int) > 20000)
  · rw [Bool.or_eq_false_iff, decide_eq_false_iff_not] at hb1
    obtain ⟨hb1, hs⟩ := hb1
    have hL1 := of_decide_eq_false hb1
    have hL0 : 0 ≤ largeO 102 (mkO k1 n1 b1 s1 ks1 l1) 0 0 := by omega
    have f1 : fitO 101 ks1 l1 := (large_fit 101 102 (mkO k1 n1 b1 s1 ks1 l1) 0 0 (by decide) (by decide) (by decide) hL0).2
    have c1 : fitO 101 ks1 (cp l1) := fitO_copy 101 (mkO k1 n1 b1 s1 ks1 l1) f1
    have kz := keyZ_of 101 s1 ks1 l1 (hz1 101)
    have p1 : okPr ks1 (cp l1) := ⟨c1, keyZ_copy 101 100 ks1 l1 kz⟩
    rw [cond_false, fitB_eq f1, cond_true, decP_eq p1, cond_true]
    have e0 : mkO k1 n1 b1 s1 ks1 (cp l1) = copyO 101 (mkO k1 n1 b1 s1 ks1 l1) := rfl
    have eS : printS (mkO k1 n1 b1 s1 ks1 (cp l1)) = printS (mkO k1 n1 b1 s1 ks1 l1) := by
      rw [e0]; unfold printS; rw [goodO_copy, txtO_cp]
    have eF : printF (mkO k1 n1 b1 s1 ks1 (cp l1)) = printF (mkO k1 n1 b1 s1 ks1 l1) := by
      rw [e0]; unfold printF; rw [goodO_copy, txtO_cp]
    rw [eS, eF]
    generalize mkO k1 n1 b1 s1 ks1 l1 = o at *
    unfold bk0
    cases hF : printF o == 0
    · exact bk2_yes s (by omega)
    · rw [cond_true]
      obtain ⟨hg, hl⟩ := printF_zero hF
      obtain ⟨q1, q2⟩ := printS_yes hg hl
      obtain ⟨w1, w2⟩ := len_all 101 o 0 0 (by omega) (by omega) 102 0 0 (by omega) hL0
      have hsz : (bs (txtU 101 o)).size = (txtO 101 o).length := by rw [bs_size, txtU_len]
      have e32 : (⟨#[32]⟩ : ByteArray) = bs [32] := rfl
      rw [q1, e32, glue_bs _ (by rw [txtU_len]; show _ + 1 ≤ _; omega)]
      rw [paK0_eq _ (by rw [bs_size, List.length_append, txtU_len]; show _ + 1 ≤ _; omega)]
      obtain ⟨y, f1, f2, f3⟩ := pa_back (u := bs (txtU 101 o ++ [32])) (r := [32]) hg (rest_zero _) (safe_bl (t := []) (b := [32]) (by decide +kernel) (by decide) (fun h => (by cases h)) (fun h => (by cases h)))
      obtain ⟨hf, _⟩ := paO_all (by rw [bs_size, List.length_append, txtU_len]; show _ + 1 ≤ _; omega) (by omega) (by omega) f1
      rw [f1]
      show bk1 s (bs (txtU 101 o)) o (nrm y) ((txtU 101 o).length : Int) 0 = _
      unfold bk1
      have h6 : sameO 101 (nrm (nrm y)) (nrm o) = true := by rw [sameO_nrm, sameO_nrm1]; exact f2
      rw [fitB_eq hf.1, cond_true, h6, bs_size, bk2_yes s (by omega)]
      simp only [orK_eq, orO_eq]
      rw [show ((((txtU 101 o).length : Int) != ((txtU 101 o).length : Int))) = false by simp]
      rfl
  · rfl
end Go.Proofs.YtckdgcpomkefpaaGreatDoor.En
end
section
set_option linter.unusedVariables false
set_option linter.unusedSimpArgs false
set_option maxRecDepth 100000
namespace Go.Proofs.YtckdgcpomkefpaaGreatDoor.En
open Go Go.RowKit
noncomputable def backE : List AV → Bx → Option (Bool × Out)
  | [.agg [.v (.int .i64 k1), .v (.bool b1), .v (.int .i64 n1), .v (.string s1), .row none 9 ks1, .row none 43 l1], .v (.string s)], [none, none] =>
    some (decP (∀ k, fitZ k s1 ks1 l1), .ret (B true) [none, none])
  | _, _ => none
theorem back_sound : SoundCall PR (addF 8 backE callBk) := by
  refine sound_add (takes := TK) hmixP callBk_sound _ (fn := (PR.funcs[8]?).getD default) (by kernel_rfl) (by kernel_rfl) backE fun xs bs out h => ?_
  unfold backE at h
  split at h
  · injection h with h
    injection h with h1 h2
    subst h2
    exact ⟨1, back_run (decP_of h1)⟩
  · cases h
theorem back_ent (k n : Int) (b : Bool) (s key : ByteArray) (ks l : List Dat) : addF 8 backE callBk 8 [.agg (obA k n b s ks l), S key] [none, none] = some (decP (∀ k, fitZ k s ks l), .ret (B true) [none, none]) := by kernel_rfl
theorem back_calls {W : World} (hW : GW W) {ds : List Dat} {cs : Array Value} (h : Opn PR W ksO ds cs.toList) (key : ByteArray) :
    Calls PR 8 #[.agg cs, .string key] W fun e w' => e = .returned (.bool true) ∧ Below W.heap.size W w' := by
  obtain ⟨k, n, b, s, ks, l, hr, hz⟩ := obj_opn h
  refine calls_v back_sound (f := 8) (xs := [.agg (obA k n b s ks l), S key]) (bs := [none, none]) (bs' := [none, none]) ?_ (by simp) rfl hW rfl (fun i x hi => ?_)
  · rw [back_ent, decP_eq hz]; rfl
  · match i, hi with
    | 0, hi => cases hi; exact ⟨_, rfl, hr⟩
    | 1, hi => cases hi; exact ⟨_, rfl, rfl, rfl⟩
end Go.Proofs.YtckdgcpomkefpaaGreatDoor.En
end
