/- colophonlaw05.large: what it answers. -/
import Derived.Test.YtckdgcpomkefpaaGreatDoorO2
set_option linter.unusedVariables false
set_option linter.unusedSimpArgs false
set_option maxRecDepth 100000
namespace Go.Proofs.YtckdgcpomkefpaaGreatDoor.En
open Go
def keysN : List Dat → Int → Int
  | [], n => n
  | d :: ks, n => keysN ks (n + ((d.at 0).toS.size : Int).tdiv 100)
def itemsN (f : Dat → Int → Int) : List Dat → Int → Int
  | [], n => n
  | d :: l, n => bif decide (n ≥ 0) then itemsN f l (f d n) else n
def headN (s : ByteArray) (ks l : List Dat) (ahead : Int) : Int := ahead + 1 + ks.length + l.length + (s.size : Int).tdiv 100
def largeO : Nat → Dat → Int → Int → Int
  | 0, _, _, _ => -1
  | k + 1, d, nest, ahead => bif decide (headN (d.at 3).toS (d.at 4).toL (d.at 5).toL ahead > 2000) || decide (nest > 100) then -1
    else itemsN (fun e n => largeO k e (nest + 1) n) (d.at 5).toL (keysN (d.at 4).toL (headN (d.at 3).toS (d.at 4).toL (d.at 5).toL ahead))
def fitZ : Nat → ByteArray → List Dat → List Dat → Prop
  | 0, _, _, _ => True
  | k + 1, s, ks, l => s.size ≤ 140737488355328 ∧ ks.length ≤ 140737488355328 ∧ l.length ≤ 140737488355328 ∧ (∀ d ∈ ks, (d.at 0).toS.size ≤ 140737488355328) ∧ ∀ d ∈ l, fitZ k (d.at 3).toS (d.at 4).toL (d.at 5).toL
def okZ (k : Nat) (s : ByteArray) (ks l : List Dat) (nest ahead : Int) : Prop := 102 ≤ k + nest ∧ 0 ≤ nest ∧ nest ≤ 101 ∧ 0 ≤ ahead ∧ ahead ≤ 4503599627370496 ∧ fitZ k s ks l
noncomputable def zB (k : Nat) (s : ByteArray) (ks l : List Dat) (nest ahead : Int) : Bool := decP (okZ k s ks l nest ahead)
noncomputable def largeE (k : Nat) : List AV → Bx → Option (Bool × Out)
  | [.agg [.v (.int .i64 k1), .v (.bool b1), .v (.int .i64 n1), .v (.string s1), .row none 9 ks1, .row none 43 l1], .v (.int .i64 nest), .v (.int .i64 ahead)], [none, none, none] =>
    some (zB k s1 ks1 l1 nest ahead, .ret (I (largeO k (mkO k1 n1 b1 s1 ks1 l1) nest ahead)) [none, none, none])
  | _, _ => none
noncomputable def largeC (k : Nat) (ext : CallF) : CallF := addF 43 (largeE k) ext
noncomputable def largeL1 (call : CallF) (m r : Nat) (k1 n1 : Int) (b1 : Bool) (s1 : ByteArray) (ks1 l1 : List Dat) (nest n i : Int) := loopF PR TK call m 43 [none, none, none] [true, true, true, false, true] r (sp 68 [(1, I nest), (3, .box 3 0), (7, I n), (8, I i)] [(3, obA k1 n1 b1 s1 ks1 l1)])
noncomputable def largeL2 (call : CallF) (m r : Nat) (k1 n1 : Int) (b1 : Bool) (s1 : ByteArray) (ks1 l1 : List Dat) (nest n i : Int) := loopF PR TK call m 43 [none, none, none] [true, true, true, true, false, true] r (sp 68 [(1, I nest), (3, .box 3 0), (7, I n), (9, I i)] [(3, obA k1 n1 b1 s1 ks1 l1)])
def nR (n : Int) : Option Out := some (.ret (I n) [none, none, none])
def W (n : Int) : Int := IntKind.i64.wrap n
section
variable (call ext : CallF) (k m r : Nat) (k1 n1 : Int) (b1 : Bool) (s1 : ByteArray) (ks1 l1 : List Dat) (nest ahead n i : Int)
theorem large_0 : evFn PR TK call m 43 [.agg (obA k1 n1 b1 s1 ks1 l1), I nest, I ahead] [none, none, none] =
    orK (decide (W (W (W (W (ahead + 1) + ks1.length) + l1.length) + W ((s1.size : Int).tdiv 100)) > 2000)) (decide (nest > 100)) fun t => bif t then nR (-1) else
      largeL1 call m m k1 n1 b1 s1 ks1 l1 nest (W (W (W (W (ahead + 1) + ks1.length) + l1.length) + W ((s1.size : Int).tdiv 100))) 0 := by kernel_rfl
theorem large_1 : largeL1 call m (r + 1) k1 n1 b1 s1 ks1 l1 nest n i = bif decide (i < ks1.length) then (idx ks1 i).bind fun d => largeL1 call m r k1 n1 b1 s1 ks1 l1 nest (W (n + W (((d.at 0).toS.size : Int).tdiv 100))) (W (i + 1))
    else largeL2 call m m k1 n1 b1 s1 ks1 l1 nest n 0 := by kernel_rfl
theorem large_2 : largeL2 (largeC k ext) m (r + 1) k1 n1 b1 s1 ks1 l1 nest n i = andK (decide (i < l1.length)) (decide (n ≥ 0)) fun t => bif t then (idx l1 i).bind fun d =>
      bif zB k (d.at 3).toS (d.at 4).toL (d.at 5).toL (W (nest + 1)) n then largeL2 (largeC k ext) m r k1 n1 b1 s1 ks1 l1 nest (largeO k (nrm d) (W (nest + 1)) n) (W (i + 1)) else none
    else nR n := by kernel_rfl
end
theorem W_in {n : Int} (h : -9223372036854775808 ≤ n ∧ n ≤ 9223372036854775807) : W n = n := IntWalk.i64_in _ h
theorem div_nat (n : Nat) : ((n : Int).tdiv 100) = ((n / 100 : Nat) : Int) := by
  rw [Int.tdiv_eq_ediv_of_nonneg (by omega)]; omega
theorem largeO_nrm (k : Nat) (d : Dat) (nest ahead : Int) : largeO k (nrm d) nest ahead = largeO k d nest ahead := by cases k <;> rfl
theorem keysN_bd : ∀ (ks : List Dat) (n : Int), (∀ d ∈ ks, (d.at 0).toS.size ≤ 140737488355328) → n ≤ keysN ks n ∧ keysN ks n ≤ n + ks.length * 1407374883553
  | [], n, _ => by simp [keysN]
  | d :: ks, n, h => by
    have h0 := h d (by simp)
    have ih := keysN_bd ks (n + ((d.at 0).toS.size : Int).tdiv 100) fun e he => h e (by simp [he])
    rw [div_nat] at ih
    show _ ≤ keysN ks (n + ((d.at 0).toS.size : Int).tdiv 100) ∧ keysN ks (n + ((d.at 0).toS.size : Int).tdiv 100) ≤ _
    rw [div_nat, List.length_cons]
    omega
theorem itemsN_bd {f : Dat → Int → Int} {M : Int} : ∀ (l : List Dat) (n : Int), (∀ d ∈ l, ∀ n, 0 ≤ n → n ≤ M → -1 ≤ f d n ∧ f d n ≤ M) → -1 ≤ n → n ≤ M → -1 ≤ itemsN f l n ∧ itemsN f l n ≤ M
  | [], n, _, h1, h2 => ⟨h1, h2⟩
  | d :: l, n, hf, h1, h2 => by
    show -1 ≤ (bif decide (n ≥ 0) then itemsN f l (f d n) else n) ∧ (bif decide (n ≥ 0) then itemsN f l (f d n) else n) ≤ M
    by_cases h : n ≥ 0
    · rw [decide_eq_true h]
      have := hf d (by simp) n h h2
      exact itemsN_bd l _ (fun e he => hf e (by simp [he])) this.1 this.2
    · rw [decide_eq_false h]; exact ⟨h1, h2⟩
theorem headN_eq (s : ByteArray) (ks l : List Dat) (ahead : Int) : headN s ks l ahead = ahead + 1 + ks.length + l.length + ((s.size / 100 : Nat) : Int) := by unfold headN; rw [div_nat]
theorem largeO_bd : ∀ (k : Nat) (d : Dat) (nest ahead : Int), 0 ≤ ahead → fitZ k (d.at 3).toS (d.at 4).toL (d.at 5).toL → -1 ≤ largeO k d nest ahead ∧ largeO k d nest ahead ≤ 4503599627370496
  | 0, d, nest, ahead, _, _ => by simp [largeO]
  | k + 1, d, nest, ahead, h0, hz => by
    obtain ⟨z1, z2, z3, z4, z5⟩ := hz
    unfold largeO
    cases hc : decide (headN (d.at 3).toS (d.at 4).toL (d.at 5).toL ahead > 2000) || decide (nest > 100)
    · rw [Bool.or_eq_false_iff] at hc
      have h1 := of_decide_eq_false hc.1
      rw [headN_eq] at h1
      have hk := keysN_bd (d.at 4).toL (headN (d.at 3).toS (d.at 4).toL (d.at 5).toL ahead) z4
      rw [headN_eq] at hk
      simp only [cond_false]
      rw [headN_eq]
      exact itemsN_bd _ _ (fun e he n hn _ => largeO_bd k e (nest + 1) n hn (z5 e he)) (by omega) (by omega)
    · exact ⟨by simp, by simp⟩
theorem large_loop2 {ext : CallF} {k m : Nat} {k1 n1 : Int} {b1 : Bool} {s1 : ByteArray} {ks1 l1 : List Dat} {nest : Int} (h1 : 102 ≤ k + (nest + 1)) (h2 : 0 ≤ nest) (h3 : nest ≤ 100) (hl : l1.length ≤ 2000) (hz : ∀ d ∈ l1, fitZ k (d.at 3).toS (d.at 4).toL (d.at 5).toL) :
    ∀ (q i r : Nat) (n : Int), i + q = l1.length → q < r → -1 ≤ n → n ≤ 4503599627370496 → largeL2 (largeC k ext) m r k1 n1 b1 s1 ks1 l1 nest n (i : Int) = nR (itemsN (fun e n => largeO k e (nest + 1) n) (l1.drop i) n) := by
  intro q
  induction q with
  | zero =>
    intro i r n hi hr hn1 hn2
    cases r with
    | zero => omega
    | succ r =>
      rw [large_2, andK_eq, show decide ((i : Int) < l1.length) = false from decide_eq_false (by omega), List.drop_eq_nil_of_le (by omega)]
      rfl
  | succ q ih =>
    intro i r n hi hr hn1 hn2
    cases r with
    | zero => omega
    | succ r =>
      have hlt : i < l1.length := by omega
      rw [large_2, andK_eq, show decide ((i : Int) < l1.length) = true from decide_eq_true (by omega), idx_at hlt, List.drop_eq_getElem_cons hlt, W_in (n := (i : Int) + 1) (by omega), W_in (n := nest + 1) (by omega), Bool.true_and]
      show _ = nR (bif decide (n ≥ 0) then itemsN (fun e n => largeO k e (nest + 1) n) (l1.drop (i + 1)) (largeO k l1[i] (nest + 1) n) else n)
      by_cases hn : n ≥ 0
      · have hd := hz _ (List.getElem_mem hlt)
        have hb := largeO_bd k l1[i] (nest + 1) n hn hd
        have ih := ih (i + 1) r (largeO k l1[i] (nest + 1) n) (by omega) (by omega) hb.1 hb.2
        rw [show ((i + 1 : Nat) : Int) = (i : Int) + 1 by omega] at ih
        have hzb : zB k (l1[i].at 3).toS (l1[i].at 4).toL (l1[i].at 5).toL (nest + 1) n = true := decP_eq ⟨h1, by omega, by omega, hn, by omega, hd⟩
        rw [decide_eq_true hn, cond_true, Option.bind_some, hzb, cond_true, largeO_nrm, ih]
        rfl
      · rw [decide_eq_false hn]; rfl
theorem large_loop1 {ext : CallF} {k m : Nat} {k1 n1 : Int} {b1 : Bool} {s1 : ByteArray} {ks1 l1 : List Dat} {nest : Int} (h1 : 102 ≤ k + (nest + 1)) (h2 : 0 ≤ nest) (h3 : nest ≤ 100) (hl : l1.length ≤ 2000) (hlk : ks1.length ≤ 2000) (hz : ∀ d ∈ l1, fitZ k (d.at 3).toS (d.at 4).toL (d.at 5).toL) (hzk : ∀ d ∈ ks1, (d.at 0).toS.size ≤ 140737488355328) (hm : 2000 < m) :
    ∀ (q i r : Nat) (n : Int), i + q = ks1.length → q < r → 0 ≤ n → n ≤ 2000 + i * 1407374883553 → largeL1 (largeC k ext) m r k1 n1 b1 s1 ks1 l1 nest n (i : Int) = nR (itemsN (fun e n => largeO k e (nest + 1) n) l1 (keysN (ks1.drop i) n)) := by
  intro q
  induction q with
  | zero =>
    intro i r n hi hr hn1 hn2
    cases r with
    | zero => omega
    | succ r =>
      have e := large_loop2 (ext := ext) (m := m) (k1 := k1) (n1 := n1) (b1 := b1) (s1 := s1) (ks1 := ks1) h1 h2 h3 hl hz l1.length 0 m n (by omega) (by omega) (by omega) (by omega)
      rw [List.drop_zero, show ((0 : Nat) : Int) = 0 from rfl] at e
      rw [large_1, e, show decide ((i : Int) < ks1.length) = false from decide_eq_false (by omega), List.drop_eq_nil_of_le (by omega)]
      rfl
  | succ q ih =>
    intro i r n hi hr hn1 hn2
    cases r with
    | zero => omega
    | succ r =>
      have hlt : i < ks1.length := by omega
      have hd := hzk _ (List.getElem_mem hlt)
      have ih := ih (i + 1) r (n + ((ks1[i].at 0).toS.size : Int).tdiv 100) (by omega) (by omega) (by rw [div_nat]; omega) (by rw [div_nat]; omega)
      rw [show ((i + 1 : Nat) : Int) = (i : Int) + 1 by omega] at ih
      have e := large_loop2 (ext := ext) (m := m) (k1 := k1) (n1 := n1) (b1 := b1) (s1 := s1) (ks1 := ks1) h1 h2 h3 hl hz l1.length 0 m n (by omega) (by omega) (by omega) (by omega)
      rw [List.drop_zero, show ((0 : Nat) : Int) = 0 from rfl] at e
      rw [large_1, e, show decide ((i : Int) < ks1.length) = true from decide_eq_true (by omega), idx_at hlt, List.drop_eq_getElem_cons hlt, cond_true, Option.bind_some]
      have w1 : W (((ks1[i].at 0).toS.size : Int).tdiv 100) = ((ks1[i].at 0).toS.size : Int).tdiv 100 := W_in (by rw [div_nat]; omega)
      have w2 : W (n + ((ks1[i].at 0).toS.size : Int).tdiv 100) = n + ((ks1[i].at 0).toS.size : Int).tdiv 100 := W_in (by rw [div_nat]; omega)
      rw [w1, w2, W_in (n := (i : Int) + 1) (by omega), ih]
      rfl
theorem large_run {ext : CallF} {k m : Nat} {k1 n1 : Int} {b1 : Bool} {s1 : ByteArray} {ks1 l1 : List Dat} {nest ahead : Int} (h : okZ (k + 1) s1 ks1 l1 nest ahead) (hm : 2000 < m) :
    evFn PR TK (largeC k ext) m 43 [.agg (obA k1 n1 b1 s1 ks1 l1), I nest, I ahead] [none, none, none] = nR (largeO (k + 1) (mkO k1 n1 b1 s1 ks1 l1) nest ahead) := by
  obtain ⟨h1, h2, h3, h4, h5, z1, z2, z3, z4, z5⟩ := h
  rw [large_0, orK_eq]
  have w0 := div_nat s1.size
  rw [W_in (n := (s1.size : Int).tdiv 100) (by omega), W_in (n := ahead + 1) (by omega), W_in (n := ahead + 1 + ks1.length) (by omega), W_in (n := ahead + 1 + ks1.length + l1.length) (by omega), W_in (n := ahead + 1 + ks1.length + l1.length + (s1.size : Int).tdiv 100) (by omega)]
  show _ = nR (bif decide (headN s1 ks1 l1 ahead > 2000) || decide (nest > 100) then -1 else itemsN (fun e n => largeO k e (nest + 1) n) l1 (keysN ks1 (headN s1 ks1 l1 ahead)))
  change (bif decide (headN s1 ks1 l1 ahead > 2000) || decide (nest > 100) then nR (-1) else largeL1 _ _ _ _ _ _ _ _ _ _ (headN s1 ks1 l1 ahead) 0) = _
  cases hc : decide (headN s1 ks1 l1 ahead > 2000) || decide (nest > 100)
  · rw [Bool.or_eq_false_iff] at hc
    have c1 := of_decide_eq_false hc.1
    have c2 := of_decide_eq_false hc.2
    rw [headN_eq] at c1
    have e := large_loop1 (ext := ext) (k := k) (m := m) (k1 := k1) (n1 := n1) (b1 := b1) (s1 := s1) (ks1 := ks1) (l1 := l1) (nest := nest) (by push_cast at h1; omega) h2 (by omega) (by omega) (by omega) z5 z4 hm ks1.length 0 m (headN s1 ks1 l1 ahead) (by omega) (by omega) (by rw [headN_eq]; omega) (by rw [headN_eq]; omega)
    rw [List.drop_zero, show ((0 : Nat) : Int) = 0 from rfl] at e
    rw [cond_false, cond_false, e]
  · rfl
theorem large_sound {ext : CallF} (hext : SoundCall PR ext) : ∀ k, SoundCall PR (largeC k ext) := by
  refine sound_rec (takes := TK) hmixP hext _ (fn := (PR.funcs[43]?).getD default) (by kernel_rfl) (by kernel_rfl) largeE (fun xs bs out h => ?_) (fun k xs bs out h => ?_)
  · unfold largeE at h
    split at h
    · injection h with h
      injection h with h _
      obtain ⟨h1, h2, h3, _⟩ := decP_of h
      simp at h1
      omega
    · cases h
  · unfold largeE at h
    split at h
    · injection h with h
      injection h with h1 h2
      subst h2
      exact ⟨2001, large_run (decP_of h1) (by omega)⟩
    · cases h
end Go.Proofs.YtckdgcpomkefpaaGreatDoor.En
