/- The document's reading of decimals is the program's, for every text. -/
import Derived.Test.YtekifiblehmafaaDoorD4
namespace Go.Proofs.YtekifiblehmafaaDoor.X
open Go.RowKit Go.Proofs.YtekifiblehmafaaDoorW.PrintWords
set_option linter.unusedVariables false
set_option linter.unusedSimpArgs false
attribute [local irreducible] drounds

def nearT (k : Nat) (x0 : ByteArray) (x6 x8 : Int) : Option (Int × Int) := if 0 ≤ x6 then (if x6 ≤ (x0.size : Int) then ((colophonref02_bits.f k (x0.extract (x6 : Int).toNat x0.size)).bind fun bt145 => ((colophonref02_half.f k bt145.2).bind fun t149 => (if 0 < (x0.size : Int) then (if (bt x0 0) = 45 then (if t149 = 1 then ((colophonref01_In.f (wrap64 (-(wrap64 ((wrap64 ((wrap64 (x8 * 65536)) + bt145.1)) + 1))))).bind fun t150 => (if t150 = true then (some (wrap64 (-(wrap64 ((wrap64 ((wrap64 (x8 * 65536)) + bt145.1)) + 1))), 0)) else (some (0, 3)))) else ((colophonref01_In.f (wrap64 (-(wrap64 ((wrap64 (x8 * 65536)) + bt145.1))))).bind fun t151 => (if t151 = true then (some (wrap64 (-(wrap64 ((wrap64 (x8 * 65536)) + bt145.1))), 0)) else (some (0, 3))))) else (if t149 ≥ 0 then ((colophonref01_In.f (wrap64 ((wrap64 ((wrap64 (x8 * 65536)) + bt145.1)) + 1))).bind fun t152 => (if t152 = true then (some (wrap64 ((wrap64 ((wrap64 (x8 * 65536)) + bt145.1)) + 1), 0)) else (some (0, 3)))) else ((colophonref01_In.f (wrap64 ((wrap64 (x8 * 65536)) + bt145.1))).bind fun t153 => (if t153 = true then (some (wrap64 ((wrap64 (x8 * 65536)) + bt145.1), 0)) else (some (0, 3)))))) else (none)))) else (none)) else (none)
theorem near_l0_end (k : Nat) (x0 : ByteArray) (x5 x6 x8 x9 : Int) (h : ¬ x9 < x5) : colophonref02_Near.l0 (k + 1) x0 x5 x6 x8 x9 = nearT k x0 x6 x8 := by
  simp only [colophonref02_Near.l0]
  rw [if_neg h]; rfl

theorem in_f (n : Int) : colophonref01_In.f n = some (decide (-1099511627776 ≤ n ∧ n ≤ 1099511627776)) := by
  unfold colophonref01_In.f
  by_cases h : n ≥ -1099511627776
  · rw [if_pos h]; congr 1; rw [decide_eq_decide]; omega
  · rw [if_neg h]; congr 1; symm; rw [decide_eq_false_iff_not]; omega
theorem pick_in (n v : Int) (h : n = v ∨ n = -v) (h0 : 0 ≤ v) : ((colophonref01_In.f n).bind fun t => if t = true then some (n, (0 : Int)) else some (0, 3)) = some (if v ≤ 1099511627776 then (n, 0) else (0, 3)) := by
  rw [in_f, Option.bind_some]
  by_cases hv : v ≤ 1099511627776
  · rw [if_pos hv, if_pos (by rw [decide_eq_true_iff]; omega)]
  · rw [if_neg hv, if_neg (by rw [decide_eq_true_iff]; omega)]
theorem w_x (v n : Nat) (hv : v ≤ 1073741824) (hn : n < 65536) : wrap64 ((wrap64 ((v : Int) * 65536)) + (n : Int)) = ((v * 65536 + n : Nat) : Int) := by unfold wrap64; omega
theorem w_x1 (x : Nat) (h : x < 100000000000000) : wrap64 ((x : Int) + 1) = ((x + 1 : Nat) : Int) := by unfold wrap64; omega
theorem w_neg (x : Nat) (h : x < 200000000000000) : wrap64 (-(x : Int)) = -(x : Int) := by unfold wrap64; omega
theorem halfOut_three (L : List Nat) : halfOut L = -1 ∨ halfOut L = 0 ∨ halfOut L = 1 := by
  cases L with
  | nil => simp [halfOut]
  | cons d l =>
    rw [halfOut_cons]
    split
    · exact .inl rfl
    · split
      · exact .inr (.inr rfl)
      · split
        · exact .inr (.inl rfl)
        · exact .inr (.inr rfl)
theorem tail_key (s : ByteArray) (h0 : 0 < s.size) (b v : Nat) (hb : b ≤ s.size) (hv : v ≤ 1073741824) (D : List Nat) (n : Nat) (r : Int) (hn' : n < 65536) (h3 : r = -1 ∨ r = 0 ∨ r = 1)
    (hbits : Ev (fun k => colophonref02_bits.f k (s.extract b s.size)) ((n : Int), castL D)) (hhalf : Ev (fun k => colophonref02_half.f k (castL D)) r) :
    Ev (fun k => nearT k s (b : Int) (v : Int)) (nearEnd (signed s) (lenR (signed s) ((v : Int) * 65536 + (n : Int)) r)) := by
  have c1 : 0 ≤ (b : Int) := Int.natCast_nonneg _
  have c2 : (b : Int) ≤ (s.size : Int) := Int.ofNat_le.2 hb
  have c3 : 0 < (s.size : Int) := Int.ofNat_lt.2 h0
  have hsg := prefix_bt s h0
  have hsg' : (bt s 0 == 45) = signed s := hsg
  have e1 := w_x v n hv hn'
  have e2 := w_x1 (v * 65536 + n) (by omega)
  have e3 := w_neg (v * 65536 + n) (by omega)
  have e4 := w_neg (v * 65536 + n + 1) (by omega)
  have ex : ((v : Int) * 65536 + (n : Int)) = ((v * 65536 + n : Nat) : Int) := by omega
  have ey : (((v * 65536 + n : Nat) : Int) + 1) = ((v * 65536 + n + 1 : Nat) : Int) := by omega
  have p0 : (0 : Int) ≤ ((v * 65536 + n : Nat) : Int) := Int.natCast_nonneg _
  have p1 : (0 : Int) ≤ ((v * 65536 + n + 1 : Nat) : Int) := Int.natCast_nonneg _
  rw [ex]
  clear ex
  obtain ⟨x, hx⟩ : ∃ x, x = v * 65536 + n := ⟨_, rfl⟩
  rw [← hx] at e1 e2 e3 e4 ey p0 p1 ⊢
  clear hx
  refine Ev.congr (f := fun k => (colophonref02_bits.f k (s.extract b s.size)).bind fun bt145 => (colophonref02_half.f k bt145.2).bind fun t149 => if (bt s 0) = 45 then (if t149 = 1 then ((colophonref01_In.f (wrap64 (-(wrap64 ((wrap64 ((wrap64 ((v : Int) * 65536)) + bt145.1)) + 1))))).bind fun t150 => (if t150 = true then (some (wrap64 (-(wrap64 ((wrap64 ((wrap64 ((v : Int) * 65536)) + bt145.1)) + 1))), 0)) else (some (0, 3)))) else ((colophonref01_In.f (wrap64 (-(wrap64 ((wrap64 ((v : Int) * 65536)) + bt145.1))))).bind fun t151 => (if t151 = true then (some (wrap64 (-(wrap64 ((wrap64 ((v : Int) * 65536)) + bt145.1))), 0)) else (some (0, 3))))) else (if t149 ≥ 0 then ((colophonref01_In.f (wrap64 ((wrap64 ((wrap64 ((v : Int) * 65536)) + bt145.1)) + 1))).bind fun t152 => (if t152 = true then (some (wrap64 ((wrap64 ((wrap64 ((v : Int) * 65536)) + bt145.1)) + 1), 0)) else (some (0, 3)))) else ((colophonref01_In.f (wrap64 ((wrap64 ((v : Int) * 65536)) + bt145.1))).bind fun t153 => (if t153 = true then (some (wrap64 ((wrap64 ((v : Int) * 65536)) + bt145.1), 0)) else (some (0, 3)))))) (fun k => ?_) (Ev.bind hbits (Ev.bind hhalf (Ev.congr (f := fun _ => some (nearEnd (signed s) (lenR (signed s) (x : Int) r))) (fun k => ?_) (Ev.now _))))
  · unfold nearT
    rw [if_pos c1, if_pos c2, Int.toNat_natCast]
    simp only [if_pos c3]
  · simp only
    rw [e1, e2, e3, e4]
    cases hb : signed s with
    | true =>
      rw [hb] at hsg'
      rw [if_pos (by simpa using hsg')]
      rcases h3 with rfl | rfl | rfl
      · rw [if_neg (by decide), pick_in _ _ (.inr rfl) p0, len_low]; simp [nearEnd]
      · rw [if_neg (by decide), pick_in _ _ (.inr rfl) p0, len_half_t]; simp [nearEnd]
      · rw [if_pos rfl, pick_in _ _ (.inr rfl) p1, len_up, ey]; simp only [nearEnd, if_true]
    | false =>
      rw [hb] at hsg'
      rw [if_neg (by simpa using hsg')]
      rcases h3 with rfl | rfl | rfl
      · rw [if_neg (by decide), pick_in _ _ (.inl rfl) p0, len_low]; simp [nearEnd]
      · rw [if_pos (by decide), pick_in _ _ (.inl rfl) p1, len_half_f, ey]; simp only [nearEnd]; rfl
      · rw [if_pos (by decide), pick_in _ _ (.inl rfl) p1, len_up, ey]; simp only [nearEnd]; rfl

theorem tail_ev (s : ByteArray) (hs : s.size ≤ 40) (h0 : 0 < s.size) (b v : Nat) (hb : b ≤ s.size) (hv : v ≤ 1073741824) (hd : (s.extract b s.size).data.toList.all isDig = true) :
    Ev (fun k => nearT k s (b : Int) (v : Int)) (nearEnd (signed s) (lenR (signed s) ((v : Int) * 65536 + (dblOut (s.extract b s.size)).1) (dblOut (s.extract b s.size)).2)) := by
  have hps : (s.extract b s.size).size ≤ 40 := by rw [ByteArray.size_extract]; omega
  have hlen := drounds_length (digs (s.extract b s.size)) 0 16
  have := tail_key s h0 b v hb hv _ _ _ (drounds_bound _ (digs_small _ hd) 16) (halfOut_three _) (bits_ev _ hps hd) (half_ev (drounds 16 (digs (s.extract b s.size), 0)).1 (by rw [hlen, digs_length]; exact hps))
  rw [dblOut_half _ hd]
  exact this

end Go.Proofs.YtekifiblehmafaaDoor.X
