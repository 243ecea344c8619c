/- The document's doubling of a fraction comes to the same as the program's. -/
import Derived.Test.YtekifiblehmafaaDoorD5
import Derived.Test.YtekifiblehmafaaDoorX4
namespace Go.Proofs.YtekifiblehmafaaDoor.X
open Go.RowKit Go.Proofs.YtekifiblehmafaaDoorW.PrintWords
set_option linter.unusedVariables false
set_option linter.unusedSimpArgs false

def halfOut : List Nat → Int
  | [] => -1
  | d :: l => if d < 5 then -1 else if 5 < d then 1 else if l.all (· == 0) then 0 else 1
theorem dbl_zero : ∀ l : List Nat, (∀ d ∈ l, d < 10) → (((dbl l).2 = 0 ∧ (dbl l).1.all (· == 0) = true) ↔ l.all (· == 0) = true)
  | [], _ => by simp [dbl]
  | a :: l, h => by
    have ih := dbl_zero l (fun d hd => h d (List.mem_cons_of_mem _ hd))
    have ha := h a List.mem_cons_self
    have hc := dbl_carry l (fun d hd => h d (List.mem_cons_of_mem _ hd))
    simp only [dbl, List.all_cons, Bool.and_eq_true, beq_iff_eq]
    constructor
    · rintro ⟨h1, h2, h3⟩
      exact ⟨by omega, ih.1 ⟨by omega, h3⟩⟩
    · rintro ⟨rfl, h2⟩
      obtain ⟨h3, h4⟩ := ih.2 h2
      exact ⟨by omega, by omega, h4⟩
theorem dbl_cons (d : Nat) (l : List Nat) : dbl (d :: l) = ((2 * d + (dbl l).2) % 10 :: (dbl l).1, (2 * d + (dbl l).2) / 10) := rfl
theorem halfOut_cons (d : Nat) (l : List Nat) : halfOut (d :: l) = if d < 5 then -1 else if 5 < d then 1 else if l.all (· == 0) then 0 else 1 := rfl
theorem half_dbl (L : List Nat) (h : ∀ d ∈ L, d < 10) : halfOut L = if (dbl L).2 = 0 then -1 else if (dbl L).1.all (· == 0) then 0 else 1 := by
  cases L with
  | nil => simp [halfOut, dbl]
  | cons d l =>
    have hd := h d List.mem_cons_self
    have hl : ∀ x ∈ l, x < 10 := fun x hx => h x (List.mem_cons_of_mem _ hx)
    have hc := dbl_carry l hl
    have hz := dbl_zero l hl
    rw [halfOut_cons, dbl_cons, List.all_cons]
    by_cases h1 : d < 5
    · rw [if_pos h1, if_pos (by omega)]
    · rw [if_neg h1, if_neg (by omega : ¬ (2 * d + (dbl l).2) / 10 = 0)]
      by_cases h2 : 5 < d
      · rw [if_pos h2]
        have e : ((2 * d + (dbl l).2) % 10 == 0) = false := by rw [beq_eq_false_iff_ne]; omega
        rw [e]; rfl
      · rw [if_neg h2]
        have e5 : d = 5 := by omega
        subst e5
        by_cases h3 : l.all (· == 0) = true
        · obtain ⟨z1, z2⟩ := hz.2 h3
          rw [if_pos h3, z1, z2]; rfl
        · rw [if_neg h3]
          rw [if_neg]
          intro h4
          rw [Bool.and_eq_true, beq_iff_eq] at h4
          exact h3 (hz.1 ⟨by omega, h4.2⟩)
theorem drounds_succ (k : Nat) (p : List Nat × Nat) : drounds (k + 1) p = ((dbl (drounds k p).1).1, 2 * (drounds k p).2 + (dbl (drounds k p).1).2) := rfl
theorem half_key (p : List Nat × Nat) (h : ∀ d ∈ p.1, d < 10) : ((((2 * p.2 + (dbl p.1).2) / 2 : Nat) : Int), if (2 * p.2 + (dbl p.1).2) % 2 = 0 then (-1 : Int) else if (dbl p.1).1.all (· == 0) then 0 else 1) = (((p.2 : Nat) : Int), halfOut p.1) := by
  have hc := dbl_carry _ h
  rw [half_dbl _ h]
  generalize (dbl p.1).2 = c at *
  have e1 : (2 * p.2 + c) / 2 = p.2 := by omega
  rw [e1]
  congr 1
  by_cases h0 : c = 0
  · rw [if_pos h0, if_pos (by omega)]
  · rw [if_neg h0, if_neg (by omega)]
theorem dblOut_half (s : ByteArray) (h : s.data.toList.all isDig = true) : dblOut s = ((((drounds 16 (digs s, 0)).2 : Nat) : Int), halfOut (drounds 16 (digs s, 0)).1) := by
  have hd := drounds_digits (digs s) 0 (digs_small s h) 16
  rw [dblOut_eq, drounds_succ 16]
  generalize drounds 16 (digs s, 0) = p at *
  exact half_key p hd

def castL (L : List Nat) : List Int := L.map fun d : Nat => (d : Int)
theorem castL_length (L : List Nat) : (castL L).length = L.length := by simp [castL]
theorem castL_append (a b : List Nat) : castL (a ++ b) = castL a ++ castL b := by simp [castL]
theorem castL_set (L : List Nat) (k d : Nat) : (castL L).set k (d : Int) = castL (L.set k d) := by simp [castL, List.map_set]
theorem rd_castL (L : List Nat) (k : Nat) (h : k < L.length) : rd (castL L) (k : Int) = ((L[k]'h : Nat) : Int) := by
  unfold rd castL
  simp [List.getD, h]

theorem half_l0 (L : List Nat) (hL : L.length ≤ 40) : ∀ (d i : Nat), L.length - i = d → i ≤ L.length → Ev (fun k => colophonref02_half.l0 k (castL L) (i : Int)) (if (L.drop i).all (· == 0) then 0 else 1) := by
  intro d
  induction d with
  | zero =>
    intro i hd hi
    rw [List.drop_of_length_le (by omega)]
    refine Ev.step (f := fun _ => some 0) (fun k => ?_) (Ev.now _)
    simp only [colophonref02_half.l0]
    rw [castL_length, if_neg (by omega)]
  | succ d ih =>
    intro i hd hi
    have hlt : i < L.length := by omega
    have h1 := ih (i + 1) (by omega) (by omega)
    rw [List.drop_eq_getElem_cons hlt, List.all_cons]
    have hr := rd_castL L i hlt
    generalize (L[i]'hlt) = x at hr
    by_cases hx : x = 0
    · subst hx
      rw [show ((0 : Nat) == 0 && (List.drop (i + 1) L).all (· == 0)) = (List.drop (i + 1) L).all (· == 0) from rfl]
      refine Ev.step (fun k => ?_) h1
      have e : wrap64 ((i : Int) + 1) = ((i + 1 : Nat) : Int) := by unfold wrap64; omega
      simp only [colophonref02_half.l0]
      rw [castL_length, if_pos (by omega), if_pos (by omega), hr, if_pos (by omega), e]
    · have e0 : (x == 0) = false := by rw [beq_eq_false_iff_ne]; exact hx
      rw [e0]
      refine Ev.step (f := fun _ => some 1) (fun k => ?_) (Ev.now _)
      simp only [colophonref02_half.l0]
      rw [castL_length, if_pos (by omega), if_pos (by omega), hr, if_neg (by omega)]
theorem half_ev (L : List Nat) (hL : L.length ≤ 40) : Ev (fun k => colophonref02_half.f k (castL L)) (halfOut L) := by
  cases L with
  | nil =>
    refine Ev.congr (f := fun k => colophonref02_half.j0 k [] true) (fun k => ?_) (Ev.step (f := fun _ => some (-1)) (fun k => ?_) (Ev.now _))
    · unfold colophonref02_half.f; rfl
    · simp only [colophonref02_half.j0]; rfl
  | cons d l =>
    have hr := rd_castL (d :: l) 0 (by simp)
    have h0 := half_l0 (d :: l) hL (l.length + 1 - 1) 1 (by simp) (by simp)
    simp only [List.getElem_cons_zero] at hr
    have hr' : rd (castL (d :: l)) 0 = (d : Int) := hr
    have hlen : ((castL (d :: l)).length : Int) = (l.length + 1 : Nat) := by rw [castL_length]; rfl
    have hf : ∀ k, colophonref02_half.f k (castL (d :: l)) = colophonref02_half.j0 k (castL (d :: l)) (decide (d < 5)) := fun k => by
      unfold colophonref02_half.f
      rw [hlen, if_neg (by omega), if_pos (by omega), hr']
      congr 1
      rw [decide_eq_decide]; omega
    refine Ev.congr hf ?_
    simp only [halfOut]
    by_cases h1 : d < 5
    · rw [if_pos h1]
      refine Ev.step (f := fun _ => some (-1)) (fun k => ?_) (Ev.now _)
      simp only [colophonref02_half.j0]
      rw [if_pos (by simpa using h1)]
    · rw [if_neg h1]
      by_cases h2 : 5 < d
      · rw [if_pos h2]
        refine Ev.step (f := fun _ => some 1) (fun k => ?_) (Ev.now _)
        simp only [colophonref02_half.j0]
        rw [if_neg (by simpa using h1), hlen, if_pos (by omega), hr', if_pos (by omega)]
      · rw [if_neg h2]
        refine Ev.step (fun k => ?_) h0
        simp only [colophonref02_half.j0]
        rw [if_neg (by simpa using h1), hlen, if_pos (by omega), hr', if_neg (by omega)]
        rfl

theorem drounds_zero (p : List Nat × Nat) : drounds 0 p = p := rfl


end Go.Proofs.YtekifiblehmafaaDoor.X
