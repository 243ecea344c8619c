/- Part 6 of a proof: what it needs of the program's functions as plain Lean functions, with the proof that the machine's calls come to them, and of plain laws; put together out of smaller texts. No conditions besides those that each statement names. -/
import Derived.Test.YtckdgcpomkefpaaGreatDoorOp4
import Derived.Test.YtckdgcpomkefpaaGreatDoorOp5
section
set_option linter.unusedVariables false
set_option linter.unusedSimpArgs false
set_option maxRecDepth 100000
namespace Go.Proofs.YtckdgcpomkefpaaGreatDoor.En
open Go
theorem digF_len : ∀ (k u : Nat), (digF k u).length ≤ k
  | 0, u => by simp [digF]
  | k + 1, u => by
    unfold digF
    cases Nat.blt u 10
    · rw [cond_false, List.length_append, List.length_singleton]
      have := digF_len k (u / 10)
      omega
    · simp
theorem digF_pos (k u : Nat) : 0 < (digF (k + 1) u).length := by
  unfold digF
  cases Nat.blt u 10
  · rw [cond_false, List.length_append, List.length_singleton]; omega
  · simp
theorem itS_size (n : Int) : (itS n).size ≤ 21 ∧ 0 < (itS n).size := by
  have e : (itS n).size = (itoaF n).length := by unfold itS; simp [ByteArray.size]
  rw [e]
  unfold itoaF
  cases decide (n < 0)
  · have h1 : (digF 20 n.toNat).length ≤ 20 := digF_len 20 n.toNat
    have h2 : 0 < (digF 20 n.toNat).length := digF_pos 19 n.toNat
    rw [cond_false]
    exact ⟨by omega, h2⟩
  · rw [cond_true, List.length_cons]
    have := digF_len 20 n.natAbs
    omega
theorem fixT_size {x : Int} (h : inB x = true) : (fixT x).size ≤ 30 ∧ 0 < (fixT x).size := by
  obtain ⟨b1, b2⟩ := inB_of h
  unfold fixT
  rw [bs_size, List.length_append]
  unfold textBody
  rw [List.length_append, asU_length]
  have h1 := natDigits_length 7 (x.natAbs / 65536) (by omega)
  have h2 := natDigits_pos (x.natAbs / 65536)
  have h3 : (if x < 0 then ([45] : List UInt8) else []).length ≤ 1 := by split <;> simp
  have h4 : (if x.natAbs % 65536 = 0 then ([] : List UInt8) else 46 :: asU (fracD 16 (x.natAbs % 65536))).length ≤ 17 := by
    split
    · simp
    · rw [List.length_cons, asU_length]
      have := fracD_length 16 (x.natAbs % 65536)
      omega
  omega
theorem flat_len {f : UInt8 → List Dat} {c : Nat} (hf : ∀ b, (f b).length ≤ c) : ∀ l : List UInt8, (l.flatMap f).length ≤ c * l.length
  | [] => by simp
  | b :: l => by
    rw [List.flatMap_cons, List.length_append, List.length_cons]
    have h1 := hf b
    have h2 := flat_len hf l
    rw [Nat.mul_succ]; omega
theorem nameT_len (s : ByteArray) : (nameT s).length ≤ 3 * s.size + 1 ∧ 0 < (nameT s).length := by
  unfold nameT
  have := flat_len esc_len s.data.toList
  have hsz : s.data.toList.length = s.size := Array.length_toList
  rw [hsz] at this
  rw [List.length_cons]; omega
theorem txtT_len (s : ByteArray) : (txtT s).length ≤ 2 * s.size + 2 ∧ 0 < (txtT s).length := by
  have hsz : s.data.toList.length = s.size := Array.length_toList
  unfold txtT
  cases s.data.toList.all shB
  · have := flat_len (c := 2) (fun b => Nat.le_of_eq (hex2_len b)) s.data.toList
    rw [hsz] at this
    rw [cond_false]
    unfold hexT
    rw [List.length_append, List.length_cons, List.length_singleton]; omega
  · have := flat_len escP_len s.data.toList
    rw [hsz] at this
    rw [cond_true]
    unfold parT
    rw [List.length_append, List.length_cons, List.length_singleton]; omega
theorem isBy_sep {f : Dat → List Dat} (hf : ∀ d, isBy (f d)) : ∀ (l : List Dat) (first : Bool), isBy (sepT f first l)
  | [], first => isBy.nil
  | d :: r, first => by
    rw [sepT_cons]
    refine ((?_ : isBy _).app (hf d)).app (isBy_sep hf r false)
    cases first
    · exact isBy.cons 32 rfl isBy.nil
    · exact isBy.nil
theorem isBy_dic {f : Dat → List Dat} (hf : ∀ d, isBy (f d)) : ∀ (ks l : List Dat) (first : Bool), isBy (dicT f first ks l)
  | [], l, first => by unfold dicT; exact isBy.nil
  | key :: ks, [], first => by unfold dicT; exact isBy.nil
  | key :: ks, d :: r, first => by
    rw [dicT_cons]
    refine (((?_ : isBy _).app (isBy_name _)).app (isBy.cons 32 rfl isBy.nil)).app (hf d) |>.app (isBy_dic hf ks r false)
    cases first
    · exact isBy.cons 32 rfl isBy.nil
    · exact isBy.nil
theorem isBy_txtO : ∀ (k : Nat) (d : Dat), isBy (txtO k d)
  | 0, d => isBy.nil
  | k + 1, d => by
    unfold txtO txtK
    cases (d.at 0).toI == 0
    · cases (d.at 0).toI == 1
      · cases (d.at 0).toI == 2
        · cases (d.at 0).toI == 3
          · cases (d.at 0).toI == 4
            · cases (d.at 0).toI == 5
              · cases (d.at 0).toI == 6
                · cases (d.at 0).toI == 7
                  · cases (d.at 0).toI == 8
                    · exact isBy.nil
                    · exact isBy_to _
                  · exact ((isBy_to _).app (isBy_dic (isBy_txtO k) _ _ _)).app (isBy_to _)
                · exact (isBy.cons 91 rfl (isBy_sep (isBy_txtO k) _ _)).app (isBy.cons 93 rfl isBy.nil)
              · exact isBy_txt _
            · exact isBy_name _
          · exact isBy_to _
        · exact isBy_to _
      · exact isBy_to _
    · exact isBy_to _
theorem itemsG_mono {g : Dat → Int → Int} (hg : ∀ d n, 0 ≤ n → 0 ≤ g d n → n + 1 ≤ g d n) : ∀ (l : List Dat) (n : Int), 0 ≤ n → 0 ≤ itemsG g l n → n + l.length ≤ itemsG g l n
  | [], n, h0, h => by unfold itemsG; simp
  | d :: l, n, h0, h => by
    unfold itemsG at h ⊢
    by_cases hd : g d n < 0
    · rw [decide_eq_true hd] at h; simp at h
    · rw [decide_eq_false hd, cond_false] at h ⊢
      have h1 := hg d n h0 (by omega)
      have := itemsG_mono hg l (g d n) (by omega) h
      rw [List.length_cons]; omega
theorem goodO_mono : ∀ (k : Nat) (d : Dat) (nest ahead : Int), 0 ≤ ahead → 0 ≤ goodO k d nest ahead → ahead + 1 ≤ goodO k d nest ahead
  | 0, d, nest, ahead, _, h => by simp [goodO] at h
  | k + 1, d, nest, ahead, h0, h => by
    unfold goodO at h ⊢
    cases hc : decide (ahead + 1 > 65536) || !flatD d
    · rw [hc, cond_false] at h
      rw [cond_false]
      cases hk : (d.at 0).toI == 6 || (d.at 0).toI == 7
      · rw [hk, cond_false] at h
        rw [cond_false]
        have := itemsG_mono (g := fun e n => goodO k e nest n) (fun e n hn he => goodO_mono k e nest n hn he) _ _ (by omega) h
        omega
      · rw [hk, cond_true] at h
        rw [cond_true]
        cases hn : decide (nest + 1 > 32)
        · rw [hn, cond_false] at h
          rw [cond_false]
          have := itemsG_mono (g := fun e n => goodO k e (nest + 1) n) (fun e n hn he => goodO_mono k e (nest + 1) n hn he) _ _ (by omega) h
          omega
        · rw [hn] at h; simp at h
    · rw [hc] at h; simp at h
theorem itemsG_all {g : Dat → Int → Int} (hg : ∀ d n, 0 ≤ n → 0 ≤ g d n → n + 1 ≤ g d n) : ∀ (l : List Dat) (n : Int), 0 ≤ n → 0 ≤ itemsG g l n → ∀ d ∈ l, ∃ n', 0 ≤ n' ∧ 0 ≤ g d n'
  | [], n, h0, h, d, hd => by cases hd
  | e :: l, n, h0, h, d, hd => by
    unfold itemsG at h
    by_cases he : g e n < 0
    · rw [decide_eq_true he] at h; simp at h
    · rw [decide_eq_false he, cond_false] at h
      rcases List.mem_cons.1 hd with rfl | hd
      · exact ⟨n, h0, by omega⟩
      · have := hg e n h0 (by omega)
        exact itemsG_all hg l _ (by omega) h d hd
theorem goodO_fitW : ∀ (k : Nat) (d : Dat) (nest ahead : Int), 0 ≤ ahead → 0 ≤ goodO k d nest ahead → fitW k d
  | 0, d, nest, ahead, _, h => by simp [goodO] at h
  | k + 1, d, nest, ahead, h0, h => by
    have hb := (goodO_bd (k + 1) d nest ahead h0).2
    unfold goodO at h hb
    cases hc : decide (ahead + 1 > 65536) || !flatD d
    · rw [hc, cond_false] at h hb
      rw [Bool.or_eq_false_iff, Bool.not_eq_false'] at hc
      cases hk : (d.at 0).toI == 6 || (d.at 0).toI == 7
      · rw [hk, cond_false] at h hb
        have h1 := itemsG_mono (g := fun e n => goodO k e nest n) (fun e n hn he => goodO_mono k e nest n hn he) _ _ (by omega) h
        refine ⟨hc.2, by omega, fun e he => ?_⟩
        obtain ⟨n', a1, a2⟩ := itemsG_all (g := fun e n => goodO k e nest n) (fun e n hn he => goodO_mono k e nest n hn he) _ _ (by omega) h e he
        exact goodO_fitW k e nest n' a1 a2
      · rw [hk, cond_true] at h hb
        cases hn : decide (nest + 1 > 32)
        · rw [hn, cond_false] at h hb
          have h1 := itemsG_mono (g := fun e n => goodO k e (nest + 1) n) (fun e n hn he => goodO_mono k e (nest + 1) n hn he) _ _ (by omega) h
          refine ⟨hc.2, by omega, fun e he => ?_⟩
          obtain ⟨n', a1, a2⟩ := itemsG_all (g := fun e n => goodO k e (nest + 1) n) (fun e n hn he => goodO_mono k e (nest + 1) n hn he) _ _ (by omega) h e he
          exact goodO_fitW k e (nest + 1) n' a1 a2
        · rw [hn] at h; simp at h
    · rw [hc] at h; simp at h
theorem sepT_len {f : Dat → List Dat} {g : Dat → Int → Int} (hg : ∀ d n, 0 ≤ n → 0 ≤ g d n → n + 1 ≤ g d n) (hf : ∀ d n, 0 ≤ n → 0 ≤ g d n → ((f d).length : Int) + 1000 ≤ (g d n - n) * 200000) :
    ∀ (l : List Dat) (first : Bool) (n : Int), 0 ≤ n → 0 ≤ itemsG g l n → ((sepT f first l).length : Int) ≤ (itemsG g l n - n) * 200000
  | [], first, n, h0, h => by unfold sepT itemsG; simp
  | d :: l, first, n, h0, h => by
    rw [sepT_cons, List.length_append, List.length_append]
    unfold itemsG at h ⊢
    by_cases he : g d n < 0
    · rw [decide_eq_true he] at h; simp at h
    · rw [decide_eq_false he, cond_false] at h ⊢
      have h1 := hg d n h0 (by omega)
      have h2 := hf d n h0 (by omega)
      have h3 := sepT_len hg hf l false (g d n) (by omega) h
      have h4 : (bif first then ([] : List Dat) else [Dat.int 32]).length ≤ 1 := by cases first <;> simp
      omega
theorem dicT_len {f : Dat → List Dat} {g : Dat → Int → Int} (hg : ∀ d n, 0 ≤ n → 0 ≤ g d n → n + 1 ≤ g d n) (hf : ∀ d n, 0 ≤ n → 0 ≤ g d n → ((f d).length : Int) + 1000 ≤ (g d n - n) * 200000) :
    ∀ (ks l : List Dat) (first : Bool) (n : Int), (∀ d ∈ ks, (d.at 0).toS.size ≤ 127) → 0 ≤ n → 0 ≤ itemsG g l n → ((dicT f first ks l).length : Int) ≤ (itemsG g l n - n) * 200000
  | [], l, first, n, hk, h0, h => by
    have := itemsG_mono hg l n h0 h
    unfold dicT
    simp only [List.length_nil]
    omega
  | key :: ks, [], first, n, hk, h0, h => by unfold dicT itemsG; simp
  | key :: ks, d :: l, first, n, hk, h0, h => by
    rw [dicT_cons, List.length_append, List.length_append, List.length_append, List.length_append, List.length_singleton]
    unfold itemsG at h ⊢
    by_cases he : g d n < 0
    · rw [decide_eq_true he] at h; simp at h
    · rw [decide_eq_false he, cond_false] at h ⊢
      have h1 := hg d n h0 (by omega)
      have h2 := hf d n h0 (by omega)
      have h3 := dicT_len hg hf ks l false (g d n) (fun e he => hk e (by simp [he])) (by omega) h
      have h4 : (bif first then ([] : List Dat) else [Dat.int 32]).length ≤ 1 := by cases first <;> simp
      have h5 := (nameT_len (key.at 0).toS).1
      have h6 := hk key (by simp)
      omega
theorem txtO_len : ∀ (k : Nat) (d : Dat) (nest ahead : Int), 0 ≤ ahead → 0 ≤ goodO k d nest ahead → ((txtO k d).length : Int) + 1000 ≤ (goodO k d nest ahead - ahead) * 200000 ∧ 0 < (txtO k d).length
  | 0, d, nest, ahead, _, h => by simp [goodO] at h
  | k + 1, d, nest, ahead, h0, h => by
    have hm2 : (1 : Int) ≤ goodO (k + 1) d nest ahead - ahead := by have := goodO_mono (k + 1) d nest ahead h0 h; omega
    have small : ∀ t : List Dat, t.length ≤ 140000 → 0 < t.length → (t.length : Int) + 1000 ≤ (goodO (k + 1) d nest ahead - ahead) * 200000 ∧ 0 < t.length := fun t ht hp => ⟨by omega, hp⟩
    have h1 : ∀ c : Bool, (0 ≤ bif c then (-1 : Int) else goodO (k + 1) d nest ahead) → c = false := fun c hc => by cases c; rfl; simp at hc
    cases hc : decide (ahead + 1 > 65536) || !flatD d
    · have eg : goodO (k + 1) d nest ahead = bif (d.at 0).toI == 6 || (d.at 0).toI == 7 then (bif decide (nest + 1 > 32) then -1 else itemsG (fun e n => goodO k e (nest + 1) n) (d.at 5).toL (ahead + 1)) else itemsG (fun e n => goodO k e nest n) (d.at 5).toL (ahead + 1) := by
        show (bif decide (ahead + 1 > 65536) || !flatD d then -1 else _) = _
        rw [hc]; rfl
      rw [Bool.or_eq_false_iff, Bool.not_eq_false'] at hc
      have hkb := kindB_of (show flatB (d.at 0).toI (d.at 2).toI (d.at 1).toB (d.at 3).toS (d.at 4).toL (d.at 5).toL = true from hc.2)
      rw [eg] at small h ⊢
      clear hm2 h1 eg hc
      show ((txtK (txtO k) (d.at 0).toI (d.at 2).toI (d.at 1).toB (d.at 3).toS (d.at 4).toL (d.at 5).toL).length : Int) + 1000 ≤ _ ∧ 0 < (txtK (txtO k) (d.at 0).toI (d.at 2).toI (d.at 1).toB (d.at 3).toS (d.at 4).toL (d.at 5).toL).length
      revert small h
      revert hkb
      generalize (d.at 0).toI = k1
      generalize (d.at 2).toI = n1
      generalize (d.at 1).toB = b1
      generalize (d.at 3).toS = s1
      generalize (d.at 4).toL = ks1
      generalize (d.at 5).toL = l1
      intro hkb
      rcases kinds9 hkb with rfl | rfl | rfl | rfl | rfl | rfl | rfl | rfl | rfl
      · intro _ small
        exact small (bytesTo nullT) (by rw [bytesTo_len]; decide) (by rw [bytesTo_len]; decide)
      · intro _ small
        exact small (bytesTo (boolT b1)) (by rw [bytesTo_len]; cases b1 <;> decide) (by rw [bytesTo_len]; cases b1 <;> decide)
      · intro _ small
        have := itS_size n1
        exact small (bytesTo (itS n1)) (by rw [bytesTo_len]; omega) (by rw [bytesTo_len]; omega)
      · intro _ small
        have hk : (inB n1 && (n1.tmod 65536) != 0) = true := hkb
        rw [Bool.and_eq_true] at hk
        have := fixT_size hk.1
        exact small (bytesTo (fixT n1)) (by rw [bytesTo_len]; omega) (by rw [bytesTo_len]; omega)
      · intro _ small
        have hk : namedB s1 = true := hkb
        have h1 := named_size hk
        have := nameT_len s1
        exact small (nameT s1) (by omega) (by omega)
      · intro _ small
        have hk : decide ((s1.size : Int) ≤ 65536) = true := hkb
        have h1 := of_decide_eq_true hk
        have := txtT_len s1
        exact small (txtT s1) (by omega) (by omega)
      · intro h' _
        have h' : 0 ≤ (bif decide (nest + 1 > 32) then -1 else itemsG (fun e n => goodO k e (nest + 1) n) l1 (ahead + 1)) := h'
        show (((Dat.int 91 :: sepT (txtO k) true l1) ++ [Dat.int 93]).length : Int) + 1000 ≤ ((bif decide (nest + 1 > 32) then -1 else itemsG (fun e n => goodO k e (nest + 1) n) l1 (ahead + 1)) - ahead) * 200000 ∧ 0 < ((Dat.int 91 :: sepT (txtO k) true l1) ++ [Dat.int 93]).length
        cases hn : decide (nest + 1 > 32)
        · rw [hn, cond_false] at h'
          rw [cond_false, List.length_append, List.length_cons, List.length_singleton]
          have := sepT_len (f := txtO k) (g := fun e n => goodO k e (nest + 1) n) (fun e n hn he => goodO_mono k e (nest + 1) n hn he) (fun e n hn he => (txtO_len k e (nest + 1) n hn he).1) l1 true (ahead + 1) (by omega) h'
          omega
        · rw [hn] at h'; simp at h'
      · intro h' _
        have h' : 0 ≤ (bif decide (nest + 1 > 32) then -1 else itemsG (fun e n => goodO k e (nest + 1) n) l1 (ahead + 1)) := h'
        show (((bytesTo ⟨#[60, 60]⟩ ++ dicT (txtO k) true ks1 l1) ++ bytesTo ⟨#[62, 62]⟩).length : Int) + 1000 ≤ ((bif decide (nest + 1 > 32) then -1 else itemsG (fun e n => goodO k e (nest + 1) n) l1 (ahead + 1)) - ahead) * 200000 ∧ 0 < ((bytesTo ⟨#[60, 60]⟩ ++ dicT (txtO k) true ks1 l1) ++ bytesTo ⟨#[62, 62]⟩).length
        cases hn : decide (nest + 1 > 32)
        · rw [hn, cond_false] at h'
          rw [cond_false, List.length_append, List.length_append, bytesTo_len, bytesTo_len]
          have := dicT_len (f := txtO k) (g := fun e n => goodO k e (nest + 1) n) (fun e n hn he => goodO_mono k e (nest + 1) n hn he) (fun e n hn he => (txtO_len k e (nest + 1) n hn he).1) ks1 l1 true (ahead + 1) (kb7 hkb).2 (by omega) h'
          have e2 : (⟨#[60, 60]⟩ : ByteArray).size = 2 := rfl
          have e3 : (⟨#[62, 62]⟩ : ByteArray).size = 2 := rfl
          omega
        · rw [hn] at h'; simp at h'
      · intro _ small
        have := itS_size n1
        have e : (bytesTo (itS n1 ++ refT)).length = (itS n1).size + 4 := by rw [bytesTo_len, ByteArray.size_append]; rfl
        exact small (bytesTo (itS n1 ++ refT)) (by omega) (by omega)
    · have : goodO (k + 1) d nest ahead = -1 := by
        show (bif decide (ahead + 1 > 65536) || !flatD d then -1 else _) = _
        rw [hc]; rfl
      omega
theorem okWr_good {d : Dat} (h : goodO 101 d 0 0 > 0) : okWr 101 d [] := by
  refine ⟨goodO_fitW 101 d 0 0 (by omega) (by omega), ?_⟩
  have h1 := (txtO_len 101 d 0 0 (by omega) (by omega)).1
  have h2 := (goodO_bd 101 d 0 0 (by omega)).2
  simp only [List.length_nil]
  omega
end Go.Proofs.YtckdgcpomkefpaaGreatDoor.En
end
section
set_option linter.unusedVariables false
set_option linter.unusedSimpArgs false
set_option maxRecDepth 100000
namespace Go.Proofs.YtckdgcpomkefpaaGreatDoor.En
open Go
def pR (s : ByteArray) (e : Int) : Option Out := some (.ret (.tup [S s, I e]) [none])
noncomputable def prC : CallF := addF 24 GoodE (addF 45 (writeE 101) (addF 46 blE (addF 47 strE fun _ _ _ => none)))
theorem prC_sound : SoundCall PR prC := sound_both Good_sound (sound_both (write_sound 101) (bl_sound (str_sound sound_none)))
section
variable (m : Nat) (k1 n1 : Int) (b1 : Bool) (s1 : ByteArray) (ks1 l1 : List Dat)
theorem print_0 : evFn PR TK prC m 29 [.agg (obA k1 n1 b1 s1 ks1 l1)] [none] =
  bif decP (okO' 101 ks1 l1 32 65536) then (bif !(ogO 101 (mkO k1 n1 b1 s1 ks1 l1) 32 65536).1 then pR ⟨#[]⟩ 50 else
    (bif decP (okWr 101 (mkO k1 n1 b1 s1 ks1 l1) []) then (bif decide (((wrO 101 (mkO k1 n1 b1 s1 ks1 l1) []).length : Int) > 1048576) then pR ⟨#[]⟩ 2 else
      (bif bytesOk (wrO 101 (mkO k1 n1 b1 s1 ks1 l1) []) && (Nat.blt 0 (wrO 101 (mkO k1 n1 b1 s1 ks1 l1) []).length && Nat.ble (wrO 101 (mkO k1 n1 b1 s1 ks1 l1) []).length 9223372036854775807) then pR (bytesOf (wrO 101 (mkO k1 n1 b1 s1 ks1 l1) [])) 0 else none)) else none)) else none := by kernel_rfl
noncomputable def rprC : CallF := addF 26 rGoodE (addF 48 (rtextE 101) fun _ _ _ => none)
theorem rprC_sound : SoundCall PR rprC := sound_both rGood_sound (sound_both (rtext_sound 101) sound_none)
theorem rprint_0 : evFn PR TK2 rprC m 30 [.agg (obA k1 n1 b1 s1 ks1 l1)] [none] =
  bif decP (okG 101 ks1 l1 0 0) then (bif !decide (goodO 101 (mkO k1 n1 b1 s1 ks1 l1) 0 0 > 0) then pR ⟨#[]⟩ 50 else
    (bif decP (okWr 101 (mkO k1 n1 b1 s1 ks1 l1) []) then (bif decide (((bytesOf (txtO 101 (mkO k1 n1 b1 s1 ks1 l1))).size : Int) > 1048576) then pR ⟨#[]⟩ 2 else pR (bytesOf (txtO 101 (mkO k1 n1 b1 s1 ks1 l1))) 0) else none)) else none := by kernel_rfl
end
noncomputable def printS (d : Dat) : ByteArray := bif decide (goodO 101 d 0 0 > 0) then (bif decide (((txtO 101 d).length : Int) > 1048576) then ⟨#[]⟩ else bytesOf (txtO 101 d)) else ⟨#[]⟩
noncomputable def printF (d : Dat) : Int := bif decide (goodO 101 d 0 0 > 0) then (bif decide (((txtO 101 d).length : Int) > 1048576) then 2 else 0) else 50
def okPr (ks l : List Dat) : Prop := fitO 101 ks l ∧ keyZ 101 ks l
noncomputable def printE : List AV → Bx → Option (Bool × Out)
  | [.agg [.v (.int .i64 k1), .v (.bool b1), .v (.int .i64 n1), .v (.string s1), .row none 9 ks1, .row none 43 l1]], [none] =>
    some (decP (okPr ks1 l1), .ret (.tup [S (printS (mkO k1 n1 b1 s1 ks1 l1)), I (printF (mkO k1 n1 b1 s1 ks1 l1))]) [none])
  | _, _ => none
theorem bytesOk_of {l : List Dat} (h : isBy l) : bytesOk l = true := by
  unfold bytesOk
  rw [List.all_eq_true]
  intro d hd
  obtain ⟨b, rfl⟩ := h d hd
  have := b.toNat_lt
  rw [Bool.and_eq_true, decide_eq_true_eq, decide_eq_true_eq]
  show (0 : Int) ≤ (b.toNat : Int) ∧ (b.toNat : Int) < 256
  omega
theorem print_run {m : Nat} {k1 n1 : Int} {b1 : Bool} {s1 : ByteArray} {ks1 l1 : List Dat} (h : okPr ks1 l1) :
    evFn PR TK prC m 29 [.agg (obA k1 n1 b1 s1 ks1 l1)] [none] = pR (printS (mkO k1 n1 b1 s1 ks1 l1)) (printF (mkO k1 n1 b1 s1 ks1 l1)) := by
  have hok : okO' 101 ks1 l1 32 65536 := ⟨h.1, h.2, by decide, by decide, by decide, by decide⟩
  rw [print_0, decP_eq hok, cond_true, Good_eq]
  unfold printS printF
  generalize mkO k1 n1 b1 s1 ks1 l1 = d
  by_cases hg : goodO 101 d 0 0 > 0
  · have hw := okWr_good hg
    have hl := txtO_len 101 d 0 0 (by omega) (by omega)
    have hb := (goodO_bd 101 d 0 0 (by omega)).2
    have far := wrO_far 101 d [] [] (asFar.refl _)
    rw [List.nil_append] at far
    obtain ⟨h1, h2, h3⟩ := far
    rw [decide_eq_true hg, Bool.not_true, cond_false, decP_eq hw, cond_true, cond_true, cond_true]
    by_cases hs : 1048576 < (txtO 101 d).length
    · have := h3 hs
      rw [decide_eq_true (show ((wrO 101 d []).length : Int) > 1048576 by omega), decide_eq_true (show ((txtO 101 d).length : Int) > 1048576 by omega)]
      rfl
    · rw [h2 (by omega), decide_eq_false (show ¬ ((txtO 101 d).length : Int) > 1048576 by omega), cond_false, cond_false, cond_false, bytesOk_of (isBy_txtO 101 d), show Nat.blt 0 (txtO 101 d).length = true from Nat.ble_eq_true_of_le hl.2, Nat.ble_eq_true_of_le (by omega)]
      rfl
  · rw [decide_eq_false hg]; rfl
theorem rprint_run {m : Nat} {k1 n1 : Int} {b1 : Bool} {s1 : ByteArray} {ks1 l1 : List Dat} (h : okPr ks1 l1) :
    evFn PR TK2 rprC m 30 [.agg (obA k1 n1 b1 s1 ks1 l1)] [none] = pR (printS (mkO k1 n1 b1 s1 ks1 l1)) (printF (mkO k1 n1 b1 s1 ks1 l1)) := by
  have hok : okG 101 ks1 l1 0 0 := ⟨h.1, by decide, by decide, by decide, by decide⟩
  rw [rprint_0, decP_eq hok, cond_true, bytesOf_size]
  unfold printS printF
  generalize mkO k1 n1 b1 s1 ks1 l1 = d
  by_cases hg : goodO 101 d 0 0 > 0
  · rw [decide_eq_true hg, Bool.not_true, cond_false, decP_eq (okWr_good hg), cond_true, cond_true, cond_true]
    cases decide (((txtO 101 d).length : Int) > 1048576) <;> rfl
  · rw [decide_eq_false hg]; rfl
theorem print_sound {ext : CallF} (hext : SoundCall PR ext) : SoundCall PR (addF 29 printE ext) := by
  refine sound_both (sound_add (takes := TK) hmixP prC_sound _ (fn := (PR.funcs[29]?).getD default) (by kernel_rfl) (by kernel_rfl) printE fun xs bs out h => ?_) hext
  unfold printE at h
  split at h
  · injection h with h
    injection h with h1 h2
    subst h2
    exact ⟨1, print_run (decP_of h1)⟩
  · cases h
theorem rprint_sound {ext : CallF} (hext : SoundCall PR ext) : SoundCall PR (addF 30 printE ext) := by
  refine sound_both (sound_add (takes := TK2) hmixP rprC_sound _ (fn := (PR.funcs[30]?).getD default) (by kernel_rfl) (by kernel_rfl) printE fun xs bs out h => ?_) hext
  unfold printE at h
  split at h
  · injection h with h
    injection h with h1 h2
    subst h2
    exact ⟨1, rprint_run (decP_of h1)⟩
  · cases h
end Go.Proofs.YtckdgcpomkefpaaGreatDoor.En
end
section
set_option linter.unusedVariables false
set_option linter.unusedSimpArgs false
set_option maxRecDepth 100000
namespace Go.Proofs.YtckdgcpomkefpaaGreatDoor.En
open Go Go.RowKit
def ksO : List CK := [.int .i64, .bool, .int .i64, .str, .row 9, .row 43]
theorem kinds_O : kinds PR 43 = some ksO := by kernel_rfl
theorem kinds_S : kinds PR 9 = some [.str] := by kernel_rfl
theorem bytes_O : PR.bytesOf 43 = 88 := by kernel_rfl
theorem bytes_S : PR.bytesOf 9 = 16 := by kernel_rfl
theorem reach_le : reachBytes ≤ 140737488355328 := of_decide_eq_true (by kernel_rfl)
theorem sz_str {d : Dat} (h : Sz PR .str d) : d.toS.size ≤ 140737488355328 := by
  cases h with
  | str d h => exact Nat.le_trans h reach_le
theorem sz_keys {d : Dat} (h : Sz PR (.row 9) d) : d.toL.length ≤ 140737488355328 ∧ ∀ e ∈ d.toL, (e.at 0).toS.size ≤ 140737488355328 := by
  cases h with
  | row E ks d hk hl hc =>
    rw [bytes_S] at hl
    rw [kinds_S] at hk
    cases hk
    refine ⟨?_, fun e he => sz_str (hc e he 0 .str rfl)⟩
    have := reach_le
    omega
theorem fitZ_of {s : ByteArray} {ks l : List Dat} (hs : s.size ≤ 140737488355328) (hk : ks.length ≤ 140737488355328 ∧ ∀ e ∈ ks, (e.at 0).toS.size ≤ 140737488355328) : ∀ (n : Nat) (d : Dat), l = d.toL → Sz PR (.row 43) d → fitZ n s ks l := by
  intro n
  induction n generalizing s ks l with
  | zero => intro d _ _; trivial
  | succ n ih =>
    intro d e h
    subst e
    cases h with
    | row E ks' d hk' hl hc =>
      rw [bytes_O] at hl
      rw [kinds_O] at hk'
      cases hk'
      have := reach_le
      refine ⟨hs, hk.1, by omega, hk.2, fun e he => ?_⟩
      exact ih (sz_str (hc e he 3 .str rfl)) (sz_keys (hc e he 4 _ rfl)) (e.at 5) rfl (hc e he 5 _ rfl)
theorem obj_opn {W : World} {ds : List Dat} {cs : Array Value} (h : Opn PR W ksO ds cs.toList) : ∃ (k n : Int) (b : Bool) (s : ByteArray) (ks l : List Dat), RepS PR (g0 W) W (.agg (obA k n b s ks l)) (.agg cs) ∧ ∀ j, fitZ j s ks l := by
  obtain ⟨e0, e1, e2, e3, e4, e5, rfl⟩ : ∃ e0 e1 e2 e3 e4 e5, ds = [e0, e1, e2, e3, e4, e5] := by
    have := h.ld
    match ds, this with
    | [e0, e1, e2, e3, e4, e5], _ => exact ⟨_, _, _, _, _, _, rfl⟩
  refine ⟨e0.toI, e2.toI, e1.toB, e3.toS, e4.toL, e5.toL, agg_rep h, fun j => ?_⟩
  have sz : ∀ (j : Nat) k d, ksO[j]? = some k → [e0, e1, e2, e3, e4, e5][j]? = some d → Sz PR k d := fun j k d h1 h2 => by
    have hj := (List.getElem?_eq_some_iff.1 h1).1
    exact (h.each j k d _ h1 h2 (List.getElem?_eq_getElem (l := cs.toList) (i := j) (by rw [h.lc]; exact hj))).sz
  exact fitZ_of (sz_str (sz 3 _ _ rfl rfl)) (sz_keys (sz 4 _ _ rfl rfl)) j e5 rfl (sz 5 _ _ rfl rfl)
end Go.Proofs.YtckdgcpomkefpaaGreatDoor.En
end
section
set_option linter.unusedVariables false
set_option linter.unusedSimpArgs false
set_option maxRecDepth 100000
namespace Go.Proofs.YtckdgcpomkefpaaGreatDoor.En
open Go Go.RowKit
def big (k1 n1 : Int) (b1 : Bool) (s1 : ByteArray) (ks1 l1 : List Dat) : Bool := decide (largeO 102 (mkO k1 n1 b1 s1 ks1 l1) 0 0 < 0)
def cp (l : List Dat) : List Dat := l.map (copyO 100)
section
variable (m : Nat) (k1 n1 k2 n2 : Int) (b1 b2 : Bool) (s1 s2 : ByteArray) (ks1 l1 ks2 l2 : List Dat)
end
theorem flatB_len {k1 n1 : Int} {b1 : Bool} {s1 : ByteArray} {ks1 l1 l2 : List Dat} (h : l1.length = l2.length) : flatB k1 n1 b1 s1 ks1 l1 = flatB k1 n1 b1 s1 ks1 l2 := by
  unfold flatB bareB kindB
  rw [h]
theorem goodO_copy : ∀ (k : Nat) (d : Dat) (nest ahead : Int), goodO k (copyO k d) nest ahead = goodO k d nest ahead
  | 0, d, nest, ahead => rfl
  | k + 1, d, nest, ahead => by
    have hl : ∀ (nest : Int) (l : List Dat) (n : Int), itemsG (fun e n => goodO k e nest n) (l.map (copyO k)) n = itemsG (fun e n => goodO k e nest n) l n := fun nest l => by
      induction l with
      | nil => intro n; rfl
      | cons d l ih =>
        intro n
        rw [List.map_cons]
        show (bif decide (goodO k (copyO k d) nest n < 0) then -1 else itemsG (fun e n => goodO k e nest n) (l.map (copyO k)) (goodO k (copyO k d) nest n)) = (bif decide (goodO k d nest n < 0) then -1 else itemsG (fun e n => goodO k e nest n) l (goodO k d nest n))
        rw [goodO_copy k d, ih]
    have hf : flatD (copyO (k + 1) d) = flatD d := flatB_len (by show ((d.at 5).toL.map (copyO k)).length = _; rw [List.length_map])
    unfold goodO
    rw [hf]
    show (bif decide (ahead + 1 > 65536) || !flatD d then -1 else bif (d.at 0).toI == 6 || (d.at 0).toI == 7 then (bif decide (nest + 1 > 32) then -1 else itemsG (fun e n => goodO k e (nest + 1) n) ((d.at 5).toL.map (copyO k)) (ahead + 1)) else itemsG (fun e n => goodO k e nest n) ((d.at 5).toL.map (copyO k)) (ahead + 1)) = _
    rw [hl, hl]
theorem keyZ_copy : ∀ (k j : Nat) (ks l : List Dat), keyZ k ks l → keyZ k ks (l.map (copyO j))
  | 0, j, ks, l, h => trivial
  | k + 1, j, ks, l, h => by
    refine ⟨h.1, fun e he => ?_⟩
    obtain ⟨d, hd, rfl⟩ := List.mem_map.1 he
    have := h.2 d hd
    cases j with
    | zero => exact this
    | succ j => exact keyZ_copy k j (d.at 4).toL (d.at 5).toL this
theorem keyZ_of : ∀ (k : Nat) (s : ByteArray) (ks l : List Dat), fitZ k s ks l → keyZ k ks l
  | 0, s, ks, l, _ => trivial
  | k + 1, s, ks, l, h => by
    obtain ⟨h1, h2, h3, h4, h5⟩ := h
    exact ⟨fun d hd => Nat.le_trans (h4 d hd) (by unfold maxLen; decide), fun d hd => keyZ_of k _ _ _ (h5 d hd)⟩
end Go.Proofs.YtckdgcpomkefpaaGreatDoor.En
end
section
set_option linter.unusedVariables false
set_option linter.unusedSimpArgs false
set_option maxRecDepth 100000
namespace Go.Proofs.YtckdgcpomkefpaaGreatDoor.En
open Go Go.RowKit
noncomputable def callP : CallF := addF 23 wakesE (addF 22 LargeE (addF 25 (copyE 101) (addF 29 printE (addF 30 printE (addF 28 (sameE 101) fun _ _ _ => none)))))
theorem callP_sound : SoundCall PR callP :=
  sound_both wakes_sound (sound_both Large_sound (sound_both (copy_sound sound_none 101) (sound_both (print_sound sound_none) (sound_both (rprint_sound sound_none) (same_sound sound_none 101)))))
section
variable (m : Nat) (k1 n1 : Int) (b1 : Bool) (s1 : ByteArray) (ks1 l1 : List Dat)
theorem prints_0 : evFn PR TK callP m 6 [.agg (obA k1 n1 b1 s1 ks1 l1)] [none] =
  bif zB 102 s1 ks1 l1 0 0 then (bif big k1 n1 b1 s1 ks1 l1 then some (.ret (B true) [none]) else
    (bif fitB 101 ks1 l1 then (bif decP (okPr ks1 (cp l1)) then (bif decP (okPr ks1 l1) then
      andK ((printS (mkO k1 n1 b1 s1 ks1 (cp l1))).toList == (printS (mkO k1 n1 b1 s1 ks1 l1)).toList) (printF (mkO k1 n1 b1 s1 ks1 (cp l1)) == printF (mkO k1 n1 b1 s1 ks1 l1)) fun t =>
        andO t (bif fitB 101 ks1 (cp l1) then some (sameO 101 (mkO k1 n1 b1 s1 ks1 (cp l1)) (mkO k1 n1 b1 s1 ks1 l1)) else none) fun t => andK t true fun t => some (.ret (B t) [none])
      else none) else none) else none)) else none := by kernel_rfl
end
theorem txtO_copy : ∀ (k : Nat) (d : Dat), txtO k (copyO k d) = txtO k d
  | 0, d => rfl
  | k + 1, d => by
    have h1 : ∀ (l : List Dat) (first : Bool), sepT (txtO k) first (l.map (copyO k)) = sepT (txtO k) first l := fun l => by
      induction l with
      | nil => intro _; rfl
      | cons d l ih => intro first; rw [List.map_cons, sepT_cons, sepT_cons, txtO_copy k d, ih]
    have h2 : ∀ (ks l : List Dat) (first : Bool), dicT (txtO k) first ks (l.map (copyO k)) = dicT (txtO k) first ks l := fun ks => by
      induction ks with
      | nil => intro l first; cases l <;> rfl
      | cons key ks ih =>
        intro l first
        cases l with
        | nil => rfl
        | cons d l => rw [List.map_cons, dicT_cons, dicT_cons, txtO_copy k d, ih]
    show txtK (txtO k) (d.at 0).toI (d.at 2).toI (d.at 1).toB (d.at 3).toS (d.at 4).toL ((d.at 5).toL.map (copyO k)) = txtK (txtO k) (d.at 0).toI (d.at 2).toI (d.at 1).toB (d.at 3).toS (d.at 4).toL (d.at 5).toL
    unfold txtK
    rw [h1, h2]
theorem prints_run {m : Nat} {k1 n1 : Int} {b1 : Bool} {s1 : ByteArray} {ks1 l1 : List Dat} (hz1 : ∀ k, fitZ k s1 ks1 l1) :
    evFn PR TK callP m 6 [.agg (obA k1 n1 b1 s1 ks1 l1)] [none] = some (.ret (B true) [none]) := by
  rw [prints_0]
  have z1 : zB 102 s1 ks1 l1 0 0 = true := decP_eq ⟨by decide, by decide, by decide, by decide, by decide, hz1 102⟩
  rw [z1, cond_true]
  cases hb1 : big k1 n1 b1 s1 ks1 l1
  · have hL1 := of_decide_eq_false hb1
    have f1 : fitO 101 ks1 l1 := (large_fit 101 102 (mkO k1 n1 b1 s1 ks1 l1) 0 0 (by decide) (by decide) (by decide) (by omega)).2
    have c1 : fitO 101 ks1 (cp l1) := fitO_copy 101 (mkO k1 n1 b1 s1 ks1 l1) f1
    have kz := keyZ_of 101 s1 ks1 l1 (hz1 101)
    have p1 : okPr ks1 (cp l1) := ⟨c1, keyZ_copy 101 100 ks1 l1 kz⟩
    have p2 : okPr ks1 l1 := ⟨f1, kz⟩
    have e0 : mkO k1 n1 b1 s1 ks1 (cp l1) = copyO 101 (mkO k1 n1 b1 s1 ks1 l1) := rfl
    have eS : printS (mkO k1 n1 b1 s1 ks1 (cp l1)) = printS (mkO k1 n1 b1 s1 ks1 l1) := by
      rw [e0]; unfold printS; rw [goodO_copy, txtO_copy]
    have eF : printF (mkO k1 n1 b1 s1 ks1 (cp l1)) = printF (mkO k1 n1 b1 s1 ks1 l1) := by
      rw [e0]; unfold printF; rw [goodO_copy, txtO_copy]
    have e3 : sameO 101 (mkO k1 n1 b1 s1 ks1 (cp l1)) (mkO k1 n1 b1 s1 ks1 l1) = true := sameO_copy 101 (mkO k1 n1 b1 s1 ks1 l1) f1
    rw [cond_false, fitB_eq f1, cond_true, decP_eq p1, cond_true, decP_eq p2, cond_true, eS, eF, andK_eq, fitB_eq c1, cond_true, e3, andO_eq, andK_eq]
    simp
  · rfl
noncomputable def printsE : List AV → Bx → Option (Bool × Out)
  | [.agg [.v (.int .i64 k1), .v (.bool b1), .v (.int .i64 n1), .v (.string s1), .row none 9 ks1, .row none 43 l1]], [none] =>
    some (decP (∀ k, fitZ k s1 ks1 l1), .ret (B true) [none])
  | _, _ => none
theorem prints_sound : SoundCall PR (addF 6 printsE callP) := by
  refine sound_add (takes := TK) hmixP callP_sound _ (fn := (PR.funcs[6]?).getD default) (by kernel_rfl) (by kernel_rfl) printsE fun xs bs out h => ?_
  unfold printsE at h
  split at h
  · injection h with h
    injection h with h1 h2
    subst h2
    exact ⟨1, prints_run (decP_of h1)⟩
  · cases h
theorem prints_ent (k1 n1 : Int) (b1 : Bool) (s1 : ByteArray) (ks1 l1 : List Dat) : addF 6 printsE callP 6 [.agg (obA k1 n1 b1 s1 ks1 l1)] [none] = some (decP (∀ k, fitZ k s1 ks1 l1), .ret (B true) [none]) := by kernel_rfl
theorem prints_calls {W : World} (hW : GW W) {ds : List Dat} {cs : Array Value} (h : Opn PR W ksO ds cs.toList) :
    Calls PR 6 #[.agg cs] W fun e w' => e = .returned (.bool true) ∧ Below W.heap.size W w' := by
  obtain ⟨k, n, b, s, ks, l, hr, hz⟩ := obj_opn h
  refine calls_v prints_sound (f := 6) (xs := [.agg (obA k n b s ks l)]) (bs := [none]) (bs' := [none]) ?_ (by simp) rfl hW rfl (fun i x hi => ?_)
  · rw [prints_ent, decP_eq hz]; rfl
  · match i, hi with
    | 0, hi => cases hi; exact ⟨_, rfl, hr⟩
end Go.Proofs.YtckdgcpomkefpaaGreatDoor.En
end
