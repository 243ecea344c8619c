/- The document's reading of decimals comes to the same as the program's, for every text. -/
import Derived.Test.YtekifiblehmafaaDoorD7
namespace Go.Proofs.YtekifiblehmafaaDoor.X
open Go.RowKit Go.Proofs.YtekifiblehmafaaDoorW.PrintWords
set_option linter.unusedVariables false
set_option linter.unusedSimpArgs false

/-! ### counting digits -/
theorem bt_get (s : ByteArray) (i : Nat) (h : i < s.data.toList.length) : bt s (i : Int) = ((s.data.toList[i]'h).toNat : Int) := by
  have h' : i < s.size := by rw [← data_length]; exact h
  unfold bt
  rw [dif_pos (by simpa using h')]
  rfl
theorem w_add (a n : Nat) (ha : a ≤ 1000) (hn : n ≤ 1000) : wrap64 ((a : Int) + (n : Int)) = ((a + n : Nat) : Int) := by unfold wrap64; omega
theorem digits_l0 (s : ByteArray) (hs : s.size ≤ 40) (a : Nat) (ha : a ≤ 41) : ∀ (d n : Nat), s.size - (a + n) = d → n ≤ 40 →
    Ev (fun k => colophonref02_digits.l0 k s (a : Int) (n : Int)) ((n + lead (s.data.toList.drop (a + n)) : Nat) : Int) := by
  intro d
  induction d with
  | zero =>
    intro n hd hn
    refine Ev.step (f := fun _ => some (n : Int)) (fun k => ?_) ?_
    · have e := w_add a n (by omega) (by omega)
      simp only [colophonref02_digits.l0]
      rw [e, if_neg (by omega)]
    · rw [List.drop_of_length_le (by rw [data_length]; omega)]
      exact Ev.now _
  | succ d ih =>
    intro n hd hn
    have hlt : a + n < s.data.toList.length := by rw [data_length]; omega
    have e := w_add a n (by omega) (by omega)
    have e2 := w_succ n (by omega)
    have hb := bt_get s (a + n) hlt
    rw [List.drop_eq_getElem_cons hlt, lead_cons]
    generalize (s.data.toList[a + n]'hlt) = c at hb
    by_cases hc : isDig c = true
    · have h1 := ih (n + 1) (by omega) (by omega)
      rw [if_pos hc]
      rw [show n + (lead (List.drop (a + n + 1) s.data.toList) + 1) = n + 1 + lead (List.drop (a + (n + 1)) s.data.toList) from by rw [show a + n + 1 = a + (n + 1) from by omega]; omega]
      refine Ev.step (fun k => ?_) h1
      unfold isDig at hc; simp at hc
      simp only [colophonref02_digits.l0]
      rw [e, if_pos (by rw [data_length] at hlt; omega), if_pos (by omega), hb, if_pos (by omega), if_pos (by omega), e2]
    · rw [if_neg hc]
      refine Ev.step (f := fun _ => some (n : Int)) (fun k => ?_) (Ev.now _)
      unfold isDig at hc; simp at hc
      simp only [colophonref02_digits.l0]
      rw [e, if_pos (by rw [data_length] at hlt; omega), if_pos (by omega), hb]
      by_cases h48 : 48 ≤ c.toNat
      · rw [if_pos (by omega), if_neg (by have := hc h48; omega)]
      · rw [if_neg (by omega)]
theorem digits_ev (s : ByteArray) (hs : s.size ≤ 40) (a : Nat) (ha : a ≤ 41) : Ev (fun k => colophonref02_digits.f k s (a : Int)) ((lead (s.data.toList.drop a) : Nat) : Int) := by
  have := digits_l0 s hs a ha (s.size - (a + 0)) 0 rfl (by omega)
  rw [Nat.zero_add, Nat.add_zero] at this
  exact this

/-! ### the form -/
def formOut (a : Nat) : Option (Nat × Nat) → Int × Int × Int × Bool
  | none => (0, 0, 0, false)
  | some (m, b) => ((a : Int), ((a + m : Nat) : Int), ((a + b : Nat) : Int), true)
def formG (k : Nat) (x0 : ByteArray) (x6 t131 : Int) : Option (Int × Int × Int × Bool) := (if (wrap64 (x6 + t131)) = x6 then (some (0, 0, 0, false)) else (if (wrap64 (x6 + t131)) = (x0.size : Int) then (some (x6, wrap64 (x6 + t131), wrap64 (x6 + t131), true)) else (if 0 ≤ (wrap64 (x6 + t131)) then (if (wrap64 (x6 + t131)) < (x0.size : Int) then (if (bt x0 (wrap64 (x6 + t131))) = 46 then ((colophonref02_digits.f k x0 (wrap64 ((wrap64 (x6 + t131)) + 1))).bind fun t132 => (if t132 = 0 then (some (0, 0, 0, false)) else (if (wrap64 ((wrap64 ((wrap64 (x6 + t131)) + 1)) + t132)) = (x0.size : Int) then (some (x6, wrap64 (x6 + t131), wrap64 ((wrap64 (x6 + t131)) + 1), true)) else (some (0, 0, 0, false))))) else (some (0, 0, 0, false))) else (none)) else (none))))
theorem form_j1_step (k : Nat) (s : ByteArray) (x : Int) : colophonref02_Form.j1 (k + 1) s x = (colophonref02_digits.f k s x).bind (formG k s x) := by
  simp only [colophonref02_Form.j1]
  rfl
theorem cast_ne {a b : Nat} (h : a ≠ b) : ¬ (a : Int) = (b : Int) := fun e => h (Int.ofNat.inj e)
theorem nat_eq (a m q z : Nat) (h : a + m < z) : m + 1 + q = z - a ↔ a + m + 1 + q = z := by omega
theorem form_j1 (s : ByteArray) (hs : s.size ≤ 40) (a : Nat) (ha : a ≤ s.size) : Ev (fun k => colophonref02_Form.j1 k s (a : Int)) (formOut a (formT (s.data.toList.drop a))) := by
  have hlen : (s.data.toList.drop a).length = s.size - a := by rw [List.length_drop, data_length]
  have hle := lead_le (s.data.toList.drop a)
  obtain ⟨m, hm⟩ : ∃ m, m = lead (s.data.toList.drop a) := ⟨_, rfl⟩
  have e0 := w_add a m (by omega) (by omega)
  have e1 := w_succ (a + m) (by omega)
  have hd := digits_ev s hs a (by omega)
  rw [← hm] at hd hle
  unfold formT
  rw [← hm, hlen, List.drop_drop]
  by_cases h0 : m = 0
  · rw [if_pos h0]
    refine Ev.step (fun k => form_j1_step k s _) (Ev.bind hd (Ev.congr (f := fun _ => some (formOut a none)) (fun k => ?_) (Ev.now _)))
    unfold formG; rw [e0, if_pos (by omega)]; rfl
  · rw [if_neg h0]
    by_cases h1 : m = s.size - a
    · rw [if_pos h1]
      refine Ev.step (fun k => form_j1_step k s _) (Ev.bind hd (Ev.congr (f := fun _ => some (formOut a (some (m, m)))) (fun k => ?_) (Ev.now _)))
      unfold formG; rw [e0, if_neg (by omega), if_pos (by omega)]; rfl
    · rw [if_neg h1]
      have g1 : a + m < s.size := by omega
      have n1 : ¬ ((a + m : Nat) : Int) = (a : Int) := cast_ne (by omega)
      have n2 : ¬ ((a + m : Nat) : Int) = (s.size : Int) := cast_ne (Nat.ne_of_lt g1)
      have p1 : 0 ≤ ((a + m : Nat) : Int) := Int.natCast_nonneg _
      have p2 : ((a + m : Nat) : Int) < (s.size : Int) := Int.ofNat_lt.2 g1
      have hlt : a + m < s.data.toList.length := by rw [data_length]; exact g1
      have hb := bt_get s (a + m) hlt
      have hg : (s.data.toList.drop a).getD m 0 = s.data.toList[a + m]'hlt := by
        rw [List.getD_eq_getElem?_getD, List.getElem?_drop, List.getElem?_eq_getElem hlt]; rfl
      rw [hg]
      generalize (s.data.toList[a + m]'hlt) = c at hb
      by_cases h2 : c = 46
      · rw [if_pos h2]
        have hd2 := digits_ev s hs (a + m + 1) (by omega)
        rw [show a + (m + 1) = a + m + 1 from by omega]
        obtain ⟨q, hq⟩ : ∃ q, q = lead (s.data.toList.drop (a + m + 1)) := ⟨_, rfl⟩
        have hle2 := lead_le (s.data.toList.drop (a + m + 1))
        rw [List.length_drop, data_length] at hle2
        rw [← hq] at hd2 hle2 ⊢
        have e2 := w_add (a + m + 1) q (by omega) (by omega)
        refine Ev.step (fun k => form_j1_step k s _) (Ev.bind hd (Ev.congr (f := fun k => (colophonref02_digits.f k s ((a + m + 1 : Nat) : Int)).bind fun t132 => (if t132 = 0 then (some (0, 0, 0, false)) else (if (wrap64 (((a + m + 1 : Nat) : Int) + t132)) = (s.size : Int) then (some ((a : Int), ((a + m : Nat) : Int), ((a + m + 1 : Nat) : Int), true)) else (some (0, 0, 0, false))))) (fun k => ?_) (Ev.bind hd2 (Ev.congr (f := fun _ => some (formOut a (if q = 0 then none else if m + 1 + q = s.size - a then some (m, m + 1) else none))) (fun k => ?_) (Ev.now _)))))
        · unfold formG; rw [e0, if_neg n1, if_neg n2, if_pos p1, if_pos p2, hb, if_pos (by rw [h2]; rfl), e1]
        · by_cases h3 : q = 0
          · rw [if_pos (by rw [h3]; rfl), if_pos h3]; rfl
          · rw [if_neg (show ¬ (q : Int) = 0 from cast_ne h3), if_neg h3, e2]
            have g3 := nat_eq a m q s.size g1
            by_cases h4 : m + 1 + q = s.size - a
            · rw [if_pos (congrArg Nat.cast (g3.1 h4)), if_pos h4]; rfl
            · rw [if_neg (cast_ne (fun h => h4 (g3.2 h))), if_neg h4]; rfl
      · rw [if_neg h2]
        refine Ev.step (fun k => form_j1_step k s _) (Ev.bind hd (Ev.congr (f := fun _ => some (formOut a none)) (fun k => ?_) (Ev.now _)))
        unfold formG; rw [e0, if_neg n1, if_neg n2, if_pos p1, if_pos p2, hb, if_neg (by
          intro h; apply h2
          exact UInt8.toNat_inj.1 (by simpa using (by omega : c.toNat = 46)))]; rfl
theorem signless_yes (s : ByteArray) (h : Lib.hasPrefix s.data.toList [45] = true) : (signless s).data.toList = s.data.toList.drop 1 := by
  show Lib.trimPrefix s.data.toList [45] = _
  unfold Lib.trimPrefix; rw [if_pos h]; rfl
theorem signless_no (s : ByteArray) (h : Lib.hasPrefix s.data.toList [45] = false) : (signless s).data.toList = s.data.toList.drop 0 := by
  show Lib.trimPrefix s.data.toList [45] = _
  unfold Lib.trimPrefix; rw [if_neg (by rw [h]; decide)]; rfl
theorem prefix_head (l : List UInt8) (h : 0 < l.length) : ((((l[0]'h).toNat : Int)) == 45) = Lib.hasPrefix l [45] := by
  cases l with
  | nil => simp at h
  | cons c l =>
    simp only [List.getElem_cons_zero, Lib.hasPrefix, List.isPrefixOf, Bool.and_true]
    rw [Bool.eq_iff_iff, beq_iff_eq, beq_iff_eq]
    constructor
    · intro e
      have : c.toNat = 45 := by omega
      exact (UInt8.toNat_inj.1 (by rw [this]; rfl)).symm
    · rintro e
      rw [← e]; rfl
theorem prefix_bt (s : ByteArray) (h : 0 < s.size) : (bt s 0 == 45) = Lib.hasPrefix s.data.toList [45] := by
  have hlt : 0 < s.data.toList.length := by rw [data_length]; exact h
  have hb' : bt s 0 = ((s.data.toList[0]'hlt).toNat : Int) := bt_get s 0 hlt
  rw [hb', prefix_head]
theorem form_j0 (s : ByteArray) (hs : s.size ≤ 40) (b : Bool) (hb : b = Lib.hasPrefix s.data.toList [45]) : Ev (fun k => colophonref02_Form.j0 k s 0 b) (formOut (if b then 1 else 0) (formT (signless s).data.toList)) := by
  cases b with
  | true =>
    rw [signless_yes s hb.symm]
    have h1 : 1 ≤ s.size := by
      cases hl : s.data.toList with
      | nil => rw [hl] at hb; simp [Lib.hasPrefix] at hb
      | cons c l => rw [← data_length, hl]; simp
    refine Ev.step (fun k => ?_) (form_j1 s hs 1 h1)
    simp only [colophonref02_Form.j0]
    rfl
  | false =>
    rw [signless_no s hb.symm]
    refine Ev.step (fun k => ?_) (form_j1 s hs 0 (by omega))
    simp only [colophonref02_Form.j0]
    rfl
theorem form_ev (s : ByteArray) (hs : s.size ≤ 40) : Ev (fun k => colophonref02_Form.f k s) (formOut (if signed s then 1 else 0) (formT (signless s).data.toList)) := by
  by_cases h0 : 0 < s.size
  · refine Ev.congr (fun k => ?_) (form_j0 s hs (signed s) rfl)
    unfold colophonref02_Form.f
    rw [if_pos (by omega), if_pos (by omega), prefix_bt s h0]; rfl
  · have hl : s.data.toList = [] := by rw [← List.length_eq_zero_iff, data_length]; omega
    have hb : signed s = false := by unfold signed; rw [hl]; rfl
    refine Ev.congr (fun k => ?_) (form_j0 s hs (signed s) rfl)
    unfold colophonref02_Form.f
    rw [if_neg (by omega), hb]

end Go.Proofs.YtekifiblehmafaaDoor.X
