/- Part 13 of a proof: what it needs of the program's functions as plain Lean functions, with the proof that the machine's calls come to them, and of plain laws; put together out of smaller texts. No conditions besides those that each statement names. -/
import Derived.Test.YtekifiblehmafaaDoorEw10
import Derived.Test.YtekifiblehmafaaDoorEw11
import Derived.Test.YtekifiblehmafaaDoorEw12
import Derived.Test.YtekifiblehmafaaDoorEw2
import Derived.Test.YtekifiblehmafaaDoorEw7
import Derived.Test.YtekifiblehmafaaDoorEw8
section
namespace Go.Proofs.YtekifiblehmafaaDoor.X
end Go.Proofs.YtekifiblehmafaaDoor.X
namespace Go.Proofs.YtekifiblehmafaaDoor.Y
open Go.RowKit Go.Proofs.YtekifiblehmafaaDoor.X Go.Proofs.YtekifiblehmafaaDoorW.PrintWords Go.Proofs.YtekifiblehmafaaDoorW.PrintLast Go.Proofs.YtekifiblehmafaaDoorW.PrintMore
attribute [local go_sem] max2_int min2_int max_two min_two max_three min_three max_four min_four   -- for this text's walks alone
set_option linter.unusedVariables false
set_option linter.unusedSimpArgs false
def colophonref15_Same.l0 : Nat → List (S50) → List (S50) → Int → Option (Bool)
  | 0, _, _, _ => none
  | k + 1, x0, x1, x5 => if x5 < (x0.length : Int) then (if 0 ≤ x5 then (if x5 < (x1.length : Int) then ((colophonref15_One.f k ((rd_T50 x0 x5).f0) ((rd_T50 x0 x5).f1) ((rd_T50 x0 x5).f2) ((rd_T50 x0 x5).f3) ((rd_T50 x0 x5).f4) ((rd_T50 x0 x5).f5) ((rd_T50 x0 x5).f6.f0) ((rd_T50 x0 x5).f6.f1) ((rd_T50 x0 x5).f6.f2) ((rd_T50 x0 x5).f6.f3) ((rd_T50 x1 x5).f0) ((rd_T50 x1 x5).f1) ((rd_T50 x1 x5).f2) ((rd_T50 x1 x5).f3) ((rd_T50 x1 x5).f4) ((rd_T50 x1 x5).f5) ((rd_T50 x1 x5).f6.f0) ((rd_T50 x1 x5).f6.f1) ((rd_T50 x1 x5).f6.f2) ((rd_T50 x1 x5).f6.f3)).bind fun t233 => (if t233 = true then (colophonref15_Same.l0 k x0 x1 (wrap64 (x5 + 1))) else (some false))) else (none)) else (none)) else (some true)
def colophonref15_Same.f (k : Nat) (l0 : List (S50)) (l1 : List (S50)) : Option (Bool) := if (l0.length : Int) = (l1.length : Int) then (colophonref15_Same.l0 k l0 l1 0) else (some false)
theorem colophonref15_Same.mono_l : ∀ k, (∀ y0 y1 y2, LeO (colophonref15_Same.l0 k y0 y1 y2) (colophonref15_Same.l0 (k + 1) y0 y1 y2))
  | 0 => fun _ _ _ r h => by simp [colophonref15_Same.l0] at h
  | k + 1 => by
    have ih0 := colophonref15_Same.mono_l k
    · intro y0 y1 y2
      unfold colophonref15_Same.l0
      repeat' first
      | (with_reducible exact ih0 _ _ _)
      | (with_reducible exact colophonref15_One.mono _ _ _ _ _ _ _ _ _ _ _ _ _ _ _ _ _ _ _ _ _)
      | (with_reducible exact LeO.refl _)
      | (with_reducible exact LeO.none _)
      | (with_reducible refine LeO.ite ?_ ?_)
      | (with_reducible refine LeO.bind ?_ (fun _ => ?_))
      | exact ih0 _ _ _
      | exact colophonref15_One.mono _ _ _ _ _ _ _ _ _ _ _ _ _ _ _ _ _ _ _ _ _
      | exact LeO.none _
      | refine LeO.ite ?_ ?_
      | refine LeO.bind ?_ (fun _ => ?_)
theorem colophonref15_Same.mono : ∀ a0 a1 k, LeO (colophonref15_Same.f k a0 a1) (colophonref15_Same.f (k + 1) a0 a1) := by
  intro a0 a1 k
  have ih0 := colophonref15_Same.mono_l k
  unfold colophonref15_Same.f
  repeat' first
      | (with_reducible exact ih0 _ _ _)
      | (with_reducible exact colophonref15_One.mono _ _ _ _ _ _ _ _ _ _ _ _ _ _ _ _ _ _ _ _ _)
      | (with_reducible exact LeO.refl _)
      | (with_reducible exact LeO.none _)
      | (with_reducible refine LeO.ite ?_ ?_)
      | (with_reducible refine LeO.bind ?_ (fun _ => ?_))
      | exact ih0 _ _ _
      | exact colophonref15_One.mono _ _ _ _ _ _ _ _ _ _ _ _ _ _ _ _ _ _ _ _ _
      | exact LeO.none _
      | refine LeO.ite ?_ ?_
      | refine LeO.bind ?_ (fun _ => ?_)
def colophonref15_Same.T6 : Bool × List (List Nat × List Nat) := (true, [([], []), ([], []), ([0, 1], [0, 1]), ([2], [2]), ([], []), ([], []), ([4, 5], [4, 5]), ([6], [6]), ([3, 7], [3, 7]), ([8], [8])])
def colophonref15_Same.B6 : List Nat := [0, 0, 3, 7, 0, 0, 48, 112, 255, 511]
theorem colophonref15_Same.tab6 : rtab .any (opsOf Tryd.f17 6) = colophonref15_Same.T6 := by kernel_rfl
theorem colophonref15_Same.bits6 : waitsOk colophonref15_Same.T6.2 colophonref15_Same.B6 = true := by kernel_rfl
set_option maxHeartbeats 8000000 in
set_option maxRecDepth 100000 in
theorem colophonref15_Same.calls (k : Nat) (A0 : Option Addr) (c0 : Nat) (l0 : List (S50)) (A1 : Option Addr) (c1 : Nat) (l1 : List (S50)) (r : Bool) (w : World) (hr0 : Kd.C k50 w A0 l0.length l0) (hc0 : l0.length ≤ c0) (hr1 : Kd.C k50 w A1 l1.length l1) (hc1 : l1.length ≤ c1) (h : colophonref15_Same.f k l0 l1 = some r) :
    Calls Tryd.prog 17 #[.slice A0 l0.length c0, .slice A1 l1.length c1] w fun e w' => e = .returned (.bool r) ∧ Below w.heap.size w w' := by
  have hu50 := Tryd.underlying50
  have HR0 := Aside0.mk hr0
  have HC0 := Aside0.mk hc0
  clear hr0 hc0
  have HR1 := Aside0.mk hr1
  have HC1 := Aside0.mk hc1
  clear hr1 hc1
  have HB := Aside0.mk (Below.refl w.heap.size w)
  have H : (if (l0.length : Int) = (l1.length : Int) then (colophonref15_Same.l0 k l0 l1 0) else (some false)) = some r := h
  clear h
  by_cases c3 : (l0.length : Int) = (l1.length : Int)
  · rw [if_pos c3] at H
    have c3b0 : ((l0.length : Int) == (l1.length : Int)) = true := beq_iff_eq.mpr c3
    have c3b1 : ((l0.length : Int) != (l1.length : Int)) = false := bne_eq_false_iff_eq.mpr c3
    have c3b2 : (l0.length == l1.length) = true := by first | simpa using c3 | (simp at c3 ⊢; omega)
    clear c3
    have H' := Aside0.mk H
    clear H
    go_enter Tryd.func17, Tryd.ntmps17
    go_wp2
    go_loopg [5] k (fun kq v5 w' => ∃ (x5_1 : Int), v5 = .int .i64 x5_1 ∧ Aside0 (colophonref15_Same.l0 kq l0 l1 x5_1 = some r) ∧ Aside0 (kq ≤ k) ∧ Aside0 (Below w.heap.size w w'))
    case atStart => exact ⟨(0), (by first | rfl | (simp; done) | (simp [*]; done) | (simp [ne_nil_]; done)), H', ⟨Nat.le_refl _⟩, ⟨by repeat (first | (with_reducible first | exact HB.out | apply below_alloc | apply pw_below_drewN | apply below_drew1) | exact HB.out)⟩⟩
    case round =>
      clear H'
      try clear c1
      try clear p2
      try clear c3
      try clear c3b0
      try clear c3b1
      try clear c3b2
      obtain ⟨x5_1, rfl, HA, HK1, HB⟩ := hrel
      cases gk with
      | zero => exact absurd HA.out (by simp [colophonref15_Same.l0])
      | succ k1 =>
        have H := HA.out
        clear HA
        simp only [colophonref15_Same.l0] at H
        by_cases c4 : x5_1 < (l0.length : Int)
        · rw [if_pos c4] at H
          have c4b0 : decide (x5_1 < (l0.length : Int)) = true := decide_eq_true c4
          clear c4
          by_cases c5 : 0 ≤ x5_1
          · rw [if_pos c5] at H
            have c5b0 : decide (0 ≤ x5_1) = true := decide_eq_true c5
            clear c5
            by_cases c6 : x5_1 < (l1.length : Int)
            · rw [if_pos c6] at H
              have c6b0 : decide (x5_1 < (l1.length : Int)) = true := decide_eq_true c6
              clear c6
              replace H := Option.bind_eq_some_iff.mp H
              obtain ⟨t233, A70, H⟩ := H
              replace H : (if t233 = true then (colophonref15_Same.l0 k1 l0 l1 (wrap64 (x5_1 + 1))) else (some false)) = some r := H
              have A7 := Aside0.mk A70
              clear A70
              by_cases c8 : t233 = true
              · subst c8
                have H1 : (colophonref15_Same.l0 k1 l0 l1 (wrap64 (x5_1 + 1))) = some r := by rw [if_pos rfl] at H; exact H
                clear H
                have H := H1
                clear H1
                have H' := Aside0.mk H
                clear H
                try go_wp2
                have n0_ := Aside0.mk (below_drew1 HB.out)
                clear HB
                have HB := n0_
                clear n0_
                have p231 : 0 ≤ (x5_1 : Int) := of_decide_eq_true (by first | (with_reducible assumption) | assumption)
                have q231 : x5_1 < (l0.length : Int) := of_decide_eq_true (by first | (with_reducible assumption) | assumption)
                obtain ⟨ad231, A231_5, c231_5, e231, hx231_0, hx231_1, hx231_2, hx231_3, hx231_4, hx231_5, hx231_6, hx231_7, hx231_8, hx231_9, hl231_5, hi231_5⟩ := at_T50 HR0.out x5_1 p231 q231
                have hw231_9 := hx231_9
                have hw231_8 := hx231_8
                have hw231_7 := hx231_7
                have hw231_6 := hx231_6
                have hw231_5 := hx231_5
                have hw231_4 := hx231_4
                have hw231_3 := hx231_3
                have hw231_2 := hx231_2
                have hw231_1 := hx231_1
                have hw231_0 := hx231_0
                cases e231
                replace hx231_0 := (HB.out.cell (World.block_lt_of_cell? w _ hx231_0)).trans hx231_0
                replace hx231_1 := (HB.out.cell (World.block_lt_of_cell? w _ hx231_1)).trans hx231_1
                replace hx231_2 := (HB.out.cell (World.block_lt_of_cell? w _ hx231_2)).trans hx231_2
                replace hx231_3 := (HB.out.cell (World.block_lt_of_cell? w _ hx231_3)).trans hx231_3
                replace hx231_4 := (HB.out.cell (World.block_lt_of_cell? w _ hx231_4)).trans hx231_4
                replace hx231_5 := (HB.out.cell (World.block_lt_of_cell? w _ hx231_5)).trans hx231_5
                replace hx231_6 := (HB.out.cell (World.block_lt_of_cell? w _ hx231_6)).trans hx231_6
                replace hx231_7 := (HB.out.cell (World.block_lt_of_cell? w _ hx231_7)).trans hx231_7
                replace hx231_8 := (HB.out.cell (World.block_lt_of_cell? w _ hx231_8)).trans hx231_8
                replace hx231_9 := (HB.out.cell (World.block_lt_of_cell? w _ hx231_9)).trans hx231_9
                have HR231_5 := Aside0.mk hi231_5
                have HC231_5 := Aside0.mk hl231_5
                clear hi231_5 hl231_5
                replace p231 := eq_true p231
                replace q231 := eq_true q231
                have p232 : 0 ≤ (x5_1 : Int) := of_decide_eq_true (by first | (with_reducible assumption) | assumption)
                have q232 : x5_1 < (l1.length : Int) := of_decide_eq_true (by first | (with_reducible assumption) | assumption)
                obtain ⟨ad232, A232_5, c232_5, e232, hx232_0, hx232_1, hx232_2, hx232_3, hx232_4, hx232_5, hx232_6, hx232_7, hx232_8, hx232_9, hl232_5, hi232_5⟩ := at_T50 HR1.out x5_1 p232 q232
                have hw232_9 := hx232_9
                have hw232_8 := hx232_8
                have hw232_7 := hx232_7
                have hw232_6 := hx232_6
                have hw232_5 := hx232_5
                have hw232_4 := hx232_4
                have hw232_3 := hx232_3
                have hw232_2 := hx232_2
                have hw232_1 := hx232_1
                have hw232_0 := hx232_0
                cases e232
                replace hx232_0 := (HB.out.cell (World.block_lt_of_cell? w _ hx232_0)).trans hx232_0
                replace hx232_1 := (HB.out.cell (World.block_lt_of_cell? w _ hx232_1)).trans hx232_1
                replace hx232_2 := (HB.out.cell (World.block_lt_of_cell? w _ hx232_2)).trans hx232_2
                replace hx232_3 := (HB.out.cell (World.block_lt_of_cell? w _ hx232_3)).trans hx232_3
                replace hx232_4 := (HB.out.cell (World.block_lt_of_cell? w _ hx232_4)).trans hx232_4
                replace hx232_5 := (HB.out.cell (World.block_lt_of_cell? w _ hx232_5)).trans hx232_5
                replace hx232_6 := (HB.out.cell (World.block_lt_of_cell? w _ hx232_6)).trans hx232_6
                replace hx232_7 := (HB.out.cell (World.block_lt_of_cell? w _ hx232_7)).trans hx232_7
                replace hx232_8 := (HB.out.cell (World.block_lt_of_cell? w _ hx232_8)).trans hx232_8
                replace hx232_9 := (HB.out.cell (World.block_lt_of_cell? w _ hx232_9)).trans hx232_9
                have HR232_5 := Aside0.mk hi232_5
                have HC232_5 := Aside0.mk hl232_5
                clear hi232_5 hl232_5
                replace p232 := eq_true p232
                replace q232 := eq_true q232
                refine start_ (n := 10) (S := fun w' => w'.cell? (ad231.add ((x5_1).toNat * 10)) = some (.int .i64 ((rd_T50 l0 x5_1).f0)) ∧ w'.cell? ⟨(ad231.add ((x5_1).toNat * 10)).block, (ad231.add ((x5_1).toNat * 10)).off + 1, none⟩ = some (.int .i64 ((rd_T50 l0 x5_1).f1)) ∧ w'.cell? ⟨(ad231.add ((x5_1).toNat * 10)).block, (ad231.add ((x5_1).toNat * 10)).off + 2, none⟩ = some (.int .i64 ((rd_T50 l0 x5_1).f2)) ∧ w'.cell? ⟨(ad231.add ((x5_1).toNat * 10)).block, (ad231.add ((x5_1).toNat * 10)).off + 3, none⟩ = some (.int .i64 ((rd_T50 l0 x5_1).f3)) ∧ w'.cell? ⟨(ad231.add ((x5_1).toNat * 10)).block, (ad231.add ((x5_1).toNat * 10)).off + 4, none⟩ = some (.int .i64 ((rd_T50 l0 x5_1).f4)) ∧ w'.cell? ⟨(ad231.add ((x5_1).toNat * 10)).block, (ad231.add ((x5_1).toNat * 10)).off + 5, none⟩ = some (.slice A231_5 ((rd_T50 l0 x5_1).f5).length c231_5) ∧ w'.cell? ⟨(ad231.add ((x5_1).toNat * 10)).block, (ad231.add ((x5_1).toNat * 10)).off + 6, none⟩ = some (.int .i64 ((rd_T50 l0 x5_1).f6.f0)) ∧ w'.cell? ⟨(ad231.add ((x5_1).toNat * 10)).block, (ad231.add ((x5_1).toNat * 10)).off + 7, none⟩ = some (.int .i64 ((rd_T50 l0 x5_1).f6.f1)) ∧ w'.cell? ⟨(ad231.add ((x5_1).toNat * 10)).block, (ad231.add ((x5_1).toNat * 10)).off + 8, none⟩ = some (.int .i64 ((rd_T50 l0 x5_1).f6.f2)) ∧ w'.cell? ⟨(ad231.add ((x5_1).toNat * 10)).block, (ad231.add ((x5_1).toNat * 10)).off + 9, none⟩ = some (.int .i64 ((rd_T50 l0 x5_1).f6.f3)) ∧ w'.cell? (ad232.add ((x5_1).toNat * 10)) = some (.int .i64 ((rd_T50 l1 x5_1).f0)) ∧ w'.cell? ⟨(ad232.add ((x5_1).toNat * 10)).block, (ad232.add ((x5_1).toNat * 10)).off + 1, none⟩ = some (.int .i64 ((rd_T50 l1 x5_1).f1)) ∧ w'.cell? ⟨(ad232.add ((x5_1).toNat * 10)).block, (ad232.add ((x5_1).toNat * 10)).off + 2, none⟩ = some (.int .i64 ((rd_T50 l1 x5_1).f2)) ∧ w'.cell? ⟨(ad232.add ((x5_1).toNat * 10)).block, (ad232.add ((x5_1).toNat * 10)).off + 3, none⟩ = some (.int .i64 ((rd_T50 l1 x5_1).f3)) ∧ w'.cell? ⟨(ad232.add ((x5_1).toNat * 10)).block, (ad232.add ((x5_1).toNat * 10)).off + 4, none⟩ = some (.int .i64 ((rd_T50 l1 x5_1).f4)) ∧ w'.cell? ⟨(ad232.add ((x5_1).toNat * 10)).block, (ad232.add ((x5_1).toNat * 10)).off + 5, none⟩ = some (.slice A232_5 ((rd_T50 l1 x5_1).f5).length c232_5) ∧ w'.cell? ⟨(ad232.add ((x5_1).toNat * 10)).block, (ad232.add ((x5_1).toNat * 10)).off + 6, none⟩ = some (.int .i64 ((rd_T50 l1 x5_1).f6.f0)) ∧ w'.cell? ⟨(ad232.add ((x5_1).toNat * 10)).block, (ad232.add ((x5_1).toNat * 10)).off + 7, none⟩ = some (.int .i64 ((rd_T50 l1 x5_1).f6.f1)) ∧ w'.cell? ⟨(ad232.add ((x5_1).toNat * 10)).block, (ad232.add ((x5_1).toNat * 10)).off + 8, none⟩ = some (.int .i64 ((rd_T50 l1 x5_1).f6.f2)) ∧ w'.cell? ⟨(ad232.add ((x5_1).toNat * 10)).block, (ad232.add ((x5_1).toNat * 10)).off + 9, none⟩ = some (.int .i64 ((rd_T50 l1 x5_1).f6.f3))) (ds := []) #[false, false, false, false, false, false, false, false, false, false] (by kernel_rfl) rfl rfl ⟨((HB.out.cell (World.block_lt_of_cell? w _ hw231_0)).trans hw231_0), ((HB.out.cell (World.block_lt_of_cell? w _ hw231_1)).trans hw231_1), ((HB.out.cell (World.block_lt_of_cell? w _ hw231_2)).trans hw231_2), ((HB.out.cell (World.block_lt_of_cell? w _ hw231_3)).trans hw231_3), ((HB.out.cell (World.block_lt_of_cell? w _ hw231_4)).trans hw231_4), ((HB.out.cell (World.block_lt_of_cell? w _ hw231_5)).trans hw231_5), ((HB.out.cell (World.block_lt_of_cell? w _ hw231_6)).trans hw231_6), ((HB.out.cell (World.block_lt_of_cell? w _ hw231_7)).trans hw231_7), ((HB.out.cell (World.block_lt_of_cell? w _ hw231_8)).trans hw231_8), ((HB.out.cell (World.block_lt_of_cell? w _ hw231_9)).trans hw231_9), ((HB.out.cell (World.block_lt_of_cell? w _ hw232_0)).trans hw232_0), ((HB.out.cell (World.block_lt_of_cell? w _ hw232_1)).trans hw232_1), ((HB.out.cell (World.block_lt_of_cell? w _ hw232_2)).trans hw232_2), ((HB.out.cell (World.block_lt_of_cell? w _ hw232_3)).trans hw232_3), ((HB.out.cell (World.block_lt_of_cell? w _ hw232_4)).trans hw232_4), ((HB.out.cell (World.block_lt_of_cell? w _ hw232_5)).trans hw232_5), ((HB.out.cell (World.block_lt_of_cell? w _ hw232_6)).trans hw232_6), ((HB.out.cell (World.block_lt_of_cell? w _ hw232_7)).trans hw232_7), ((HB.out.cell (World.block_lt_of_cell? w _ hw232_8)).trans hw232_8), ((HB.out.cell (World.block_lt_of_cell? w _ hw232_9)).trans hw232_9)⟩ (fun hHeld => ?_); refine with_tabW colophonref15_Same.tab6 colophonref15_Same.bits6 (fun HT_ HW_ => ?_)
                generalize wr.drew = w9 at HB HR231_5 HR232_5 hx231_0 hx231_1 hx231_2 hx231_3 hx231_4 hx231_5 hx231_6 hx231_7 hx231_8 hx231_9 hx232_0 hx232_1 hx232_2 hx232_3 hx232_4 hx232_5 hx232_6 hx232_7 hx232_8 hx232_9 hHeld ⊢
                refine pure_ (i := 0) (N := some 17) (v := ?_) (a' := ?_) #[true, false, false, false, false, false, false, false, false, false] rfl rfl (any_of HT_.out (by kernel_rfl)) (fun _ _ _ h => h) (Or.inl ⟨by rfl, ?_⟩) ?_ ?_
                rotate_left
                · intro w'
                  go_simp
                  with_reducible rfl
                rotate_left
                · simp only [Act.put, List.setIfInBounds_toArray, List.set_cons_zero, List.set_cons_succ, i64_w, i32_w]
                  rfl
                refine pure_ (i := 1) (N := some 18) (v := ?_) (a' := ?_) #[true, true, false, false, false, false, false, false, false, false] rfl rfl (any_of HT_.out (by kernel_rfl)) (fun _ _ _ h => h) (Or.inl ⟨by rfl, ?_⟩) ?_ ?_
                rotate_left
                · intro w'
                  go_simp
                  with_reducible rfl
                rotate_left
                · simp only [Act.put, List.setIfInBounds_toArray, List.set_cons_zero, List.set_cons_succ, i64_w, i32_w]
                  rfl
                refine pure_ (i := 2) (N := some 19) (v := ?_) (a' := ?_) #[true, true, true, false, false, false, false, false, false, false] rfl rfl (any_of HT_.out (by kernel_rfl)) (fun _ _ _ h => h) (Or.inl ⟨by rfl, ?_⟩) ?_ ?_
                rotate_left
                · intro w'
                  go_simp
                  with_reducible rfl
                rotate_left
                · simp only [Act.put, List.setIfInBounds_toArray, List.set_cons_zero, List.set_cons_succ, i64_w, i32_w]
                  rfl
                refine pure_ (i := 4) (N := some 21) (v := ?_) (a' := ?_) #[true, true, true, false, true, false, false, false, false, false] rfl rfl (any_of HT_.out (by kernel_rfl)) (fun _ _ _ h => h) (Or.inl ⟨by rfl, ?_⟩) ?_ ?_
                rotate_left
                · intro w'
                  go_simp
                  with_reducible rfl
                rotate_left
                · simp only [Act.put, List.setIfInBounds_toArray, List.set_cons_zero, List.set_cons_succ, i64_w, i32_w]
                  rfl
                refine pure_ (i := 5) (N := some 22) (v := ?_) (a' := ?_) #[true, true, true, false, true, true, false, false, false, false] rfl rfl (any_of HT_.out (by kernel_rfl)) (fun _ _ _ h => h) (Or.inl ⟨by rfl, ?_⟩) ?_ ?_
                rotate_left
                · intro w'
                  go_simp
                  with_reducible rfl
                rotate_left
                · simp only [Act.put, List.setIfInBounds_toArray, List.set_cons_zero, List.set_cons_succ, i64_w, i32_w]
                  rfl
                refine pure_ (i := 6) (N := some 23) (v := ?_) (a' := ?_) #[true, true, true, false, true, true, true, false, false, false] rfl rfl (any_of HT_.out (by kernel_rfl)) (fun _ _ _ h => h) (Or.inl ⟨by rfl, ?_⟩) ?_ ?_
                rotate_left
                · intro w'
                  go_simp
                  with_reducible rfl
                rotate_left
                · simp only [Act.put, List.setIfInBounds_toArray, List.set_cons_zero, List.set_cons_succ, i64_w, i32_w]
                  rfl
                refine take_ (i := 3) (N := some 20) (v := ?_) (a' := ?_) #[true, true, true, true, true, true, true, false, false, false] rfl rfl (take_ofW HT_.out HW_.out (by kernel_rfl)) (fun _ _ _ h => h) (Or.inl ⟨by rfl, ?_⟩) hHeld ?_ ?_
                rotate_left
                · rintro w' ⟨s0, s1, s2, s3, s4, s5, s6, s7, s8, s9, s10, s11, s12, s13, s14, s15, s16, s17, s18, s19⟩
                  go_simp
                  with_reducible rfl
                rotate_left
                · simp only [Act.put, List.setIfInBounds_toArray, List.set_cons_zero, List.set_cons_succ, i64_w, i32_w]
                  rfl
                refine take_ (i := 7) (N := some 24) (v := ?_) (a' := ?_) #[true, true, true, true, true, true, true, true, false, false] rfl rfl (take_ofW HT_.out HW_.out (by kernel_rfl)) (fun _ _ _ h => h) (Or.inl ⟨by rfl, ?_⟩) hHeld ?_ ?_
                rotate_left
                · rintro w' ⟨s0, s1, s2, s3, s4, s5, s6, s7, s8, s9, s10, s11, s12, s13, s14, s15, s16, s17, s18, s19⟩
                  go_simp
                  with_reducible rfl
                rotate_left
                · simp only [Act.put, List.setIfInBounds_toArray, List.set_cons_zero, List.set_cons_succ, i64_w, i32_w]
                  rfl
                refine one_ (i := 8) (N := some 25) #[true, true, true, true, true, true, true, true, true, false] rfl rfl (one_of HT_.out (by kernel_rfl)) (by decide) (fun K hK => ?_)
                refine goes_ Tryd.func38 (by kernel_rfl) rfl #[.agg #[.int .i64 ((rd_T50 l0 x5_1).f0), .int .i64 ((rd_T50 l0 x5_1).f1), .int .i64 ((rd_T50 l0 x5_1).f2), .int .i64 ((rd_T50 l0 x5_1).f3), .int .i64 ((rd_T50 l0 x5_1).f4), .slice A231_5 ((rd_T50 l0 x5_1).f5).length c231_5, .int .i64 ((rd_T50 l0 x5_1).f6.f0), .int .i64 ((rd_T50 l0 x5_1).f6.f1), .int .i64 ((rd_T50 l0 x5_1).f6.f2), .int .i64 ((rd_T50 l0 x5_1).f6.f3)], .agg #[.int .i64 ((rd_T50 l1 x5_1).f0), .int .i64 ((rd_T50 l1 x5_1).f1), .int .i64 ((rd_T50 l1 x5_1).f2), .int .i64 ((rd_T50 l1 x5_1).f3), .int .i64 ((rd_T50 l1 x5_1).f4), .slice A232_5 ((rd_T50 l1 x5_1).f5).length c232_5, .int .i64 ((rd_T50 l1 x5_1).f6.f0), .int .i64 ((rd_T50 l1 x5_1).f6.f1), .int .i64 ((rd_T50 l1 x5_1).f6.f2), .int .i64 ((rd_T50 l1 x5_1).f6.f3)]] (by rfl) rfl rfl (by (try simp only [List.map_toArray, List.map_cons, List.map_nil]); first | done | rfl | (simp only [List.length_drop, List.length_take]; rfl) | (simp only [Array.mk.injEq, List.cons.injEq, Value.int.injEq, and_true, true_and]; (try unfold wrap64); omega)) ?_
                with_reducible refine (colophonref15_One.calls k1 ((rd_T50 l0 x5_1).f0) ((rd_T50 l0 x5_1).f1) ((rd_T50 l0 x5_1).f2) ((rd_T50 l0 x5_1).f3) ((rd_T50 l0 x5_1).f4) _ _ ((rd_T50 l0 x5_1).f5) ((rd_T50 l0 x5_1).f6.f0) ((rd_T50 l0 x5_1).f6.f1) ((rd_T50 l0 x5_1).f6.f2) ((rd_T50 l0 x5_1).f6.f3) ((rd_T50 l1 x5_1).f0) ((rd_T50 l1 x5_1).f1) ((rd_T50 l1 x5_1).f2) ((rd_T50 l1 x5_1).f3) ((rd_T50 l1 x5_1).f4) _ _ ((rd_T50 l1 x5_1).f5) ((rd_T50 l1 x5_1).f6.f0) ((rd_T50 l1 x5_1).f6.f1) ((rd_T50 l1 x5_1).f6.f2) ((rd_T50 l1 x5_1).f6.f3) true _ ?side1 ?side2 ?side3 ?side4 A7.out).mono ?_
                (case side1 => repeat (first | exact (Kd.C_below HR231_5.out HB.out) | (with_reducible refine Kd.C_alloc ?_ _) | (with_reducible refine Kd.C_drewN ?_ _) | (with_reducible refine Kd.C_drew ?_)))
                (case side2 => exact HC231_5.out)
                (case side3 => repeat (first | exact (Kd.C_below HR232_5.out HB.out) | (with_reducible refine Kd.C_alloc ?_ _) | (with_reducible refine Kd.C_drewN ?_ _) | (with_reducible refine Kd.C_drew ?_)))
                (case side4 => exact HC232_5.out)
                rintro e w10 ⟨rfl, hb⟩
                refine ⟨_, rfl, ?_⟩
                have n0_ := Aside0.mk (below_step (by repeat (first | (with_reducible first | exact HB.out | apply below_alloc | apply pw_below_drewN | apply below_drew1) | exact HB.out)) hb)
                clear HB
                have HB := n0_
                clear n0_
                (try clear hb)
                (try clear hb2)
                (try clear hk)
                (try clear hi)
                refine hK.out _ _ ⟨((HB.out.cell (World.block_lt_of_cell? w _ hw231_0)).trans hw231_0), ((HB.out.cell (World.block_lt_of_cell? w _ hw231_1)).trans hw231_1), ((HB.out.cell (World.block_lt_of_cell? w _ hw231_2)).trans hw231_2), ((HB.out.cell (World.block_lt_of_cell? w _ hw231_3)).trans hw231_3), ((HB.out.cell (World.block_lt_of_cell? w _ hw231_4)).trans hw231_4), ((HB.out.cell (World.block_lt_of_cell? w _ hw231_5)).trans hw231_5), ((HB.out.cell (World.block_lt_of_cell? w _ hw231_6)).trans hw231_6), ((HB.out.cell (World.block_lt_of_cell? w _ hw231_7)).trans hw231_7), ((HB.out.cell (World.block_lt_of_cell? w _ hw231_8)).trans hw231_8), ((HB.out.cell (World.block_lt_of_cell? w _ hw231_9)).trans hw231_9), ((HB.out.cell (World.block_lt_of_cell? w _ hw232_0)).trans hw232_0), ((HB.out.cell (World.block_lt_of_cell? w _ hw232_1)).trans hw232_1), ((HB.out.cell (World.block_lt_of_cell? w _ hw232_2)).trans hw232_2), ((HB.out.cell (World.block_lt_of_cell? w _ hw232_3)).trans hw232_3), ((HB.out.cell (World.block_lt_of_cell? w _ hw232_4)).trans hw232_4), ((HB.out.cell (World.block_lt_of_cell? w _ hw232_5)).trans hw232_5), ((HB.out.cell (World.block_lt_of_cell? w _ hw232_6)).trans hw232_6), ((HB.out.cell (World.block_lt_of_cell? w _ hw232_7)).trans hw232_7), ((HB.out.cell (World.block_lt_of_cell? w _ hw232_8)).trans hw232_8), ((HB.out.cell (World.block_lt_of_cell? w _ hw232_9)).trans hw232_9)⟩ (fun hHeld => ?_)
                clear hK K
                refine norm_ (a' := ?_) ?_ ?_
                rotate_left
                · show Act.put _ (some 25) _ = _
                  simp only [Act.put, List.setIfInBounds_toArray, List.set_cons_zero, List.set_cons_succ, i64_w, i32_w]
                  rfl
                refine pure_ (i := 9) (N := some 26) (v := ?_) (a' := ?_) #[true, true, true, true, true, true, true, true, true, true] rfl rfl (any_of HT_.out (by kernel_rfl)) (fun _ _ _ h => h) (Or.inl ⟨by rfl, ?_⟩) ?_ ?_
                rotate_left
                · intro w'
                  go_simp
                  with_reducible rfl
                rotate_left
                · simp only [Act.put, List.setIfInBounds_toArray, List.set_cons_zero, List.set_cons_succ, i64_w, i32_w]
                  rfl
                refine done_ (done_of HT_.out (by kernel_rfl)) ?_
                try go_wp2
                go_roundg k1
                case measure => have := HK1.out; omega
                case rel => exact ⟨(wrap64 (x5_1 + 1)), (by first | rfl | (simp; done) | (simp [*]; done) | (simp [ne_nil_]; done)), H', ⟨by have := HK1.out; omega⟩, ⟨by repeat (first | (with_reducible first | exact HB.out | apply below_alloc | apply pw_below_drewN | apply below_drew1) | exact HB.out)⟩⟩
              · replace c8 := Bool.eq_false_iff.mpr c8
                subst c8
                have H1 : (some false) = some r := by rw [if_neg (show ¬ (false = true) by decide)] at H; exact H
                clear H
                have H := H1
                clear H1
                obtain rfl := Option.some.inj H
                try go_wp2
                have n0_ := Aside0.mk (below_drew1 HB.out)
                clear HB
                have HB := n0_
                clear n0_
                have p231 : 0 ≤ (x5_1 : Int) := of_decide_eq_true (by first | (with_reducible assumption) | assumption)
                have q231 : x5_1 < (l0.length : Int) := of_decide_eq_true (by first | (with_reducible assumption) | assumption)
                obtain ⟨ad231, A231_5, c231_5, e231, hx231_0, hx231_1, hx231_2, hx231_3, hx231_4, hx231_5, hx231_6, hx231_7, hx231_8, hx231_9, hl231_5, hi231_5⟩ := at_T50 HR0.out x5_1 p231 q231
                have hw231_9 := hx231_9
                have hw231_8 := hx231_8
                have hw231_7 := hx231_7
                have hw231_6 := hx231_6
                have hw231_5 := hx231_5
                have hw231_4 := hx231_4
                have hw231_3 := hx231_3
                have hw231_2 := hx231_2
                have hw231_1 := hx231_1
                have hw231_0 := hx231_0
                cases e231
                replace hx231_0 := (HB.out.cell (World.block_lt_of_cell? w _ hx231_0)).trans hx231_0
                replace hx231_1 := (HB.out.cell (World.block_lt_of_cell? w _ hx231_1)).trans hx231_1
                replace hx231_2 := (HB.out.cell (World.block_lt_of_cell? w _ hx231_2)).trans hx231_2
                replace hx231_3 := (HB.out.cell (World.block_lt_of_cell? w _ hx231_3)).trans hx231_3
                replace hx231_4 := (HB.out.cell (World.block_lt_of_cell? w _ hx231_4)).trans hx231_4
                replace hx231_5 := (HB.out.cell (World.block_lt_of_cell? w _ hx231_5)).trans hx231_5
                replace hx231_6 := (HB.out.cell (World.block_lt_of_cell? w _ hx231_6)).trans hx231_6
                replace hx231_7 := (HB.out.cell (World.block_lt_of_cell? w _ hx231_7)).trans hx231_7
                replace hx231_8 := (HB.out.cell (World.block_lt_of_cell? w _ hx231_8)).trans hx231_8
                replace hx231_9 := (HB.out.cell (World.block_lt_of_cell? w _ hx231_9)).trans hx231_9
                have HR231_5 := Aside0.mk hi231_5
                have HC231_5 := Aside0.mk hl231_5
                clear hi231_5 hl231_5
                replace p231 := eq_true p231
                replace q231 := eq_true q231
                have p232 : 0 ≤ (x5_1 : Int) := of_decide_eq_true (by first | (with_reducible assumption) | assumption)
                have q232 : x5_1 < (l1.length : Int) := of_decide_eq_true (by first | (with_reducible assumption) | assumption)
                obtain ⟨ad232, A232_5, c232_5, e232, hx232_0, hx232_1, hx232_2, hx232_3, hx232_4, hx232_5, hx232_6, hx232_7, hx232_8, hx232_9, hl232_5, hi232_5⟩ := at_T50 HR1.out x5_1 p232 q232
                have hw232_9 := hx232_9
                have hw232_8 := hx232_8
                have hw232_7 := hx232_7
                have hw232_6 := hx232_6
                have hw232_5 := hx232_5
                have hw232_4 := hx232_4
                have hw232_3 := hx232_3
                have hw232_2 := hx232_2
                have hw232_1 := hx232_1
                have hw232_0 := hx232_0
                cases e232
                replace hx232_0 := (HB.out.cell (World.block_lt_of_cell? w _ hx232_0)).trans hx232_0
                replace hx232_1 := (HB.out.cell (World.block_lt_of_cell? w _ hx232_1)).trans hx232_1
                replace hx232_2 := (HB.out.cell (World.block_lt_of_cell? w _ hx232_2)).trans hx232_2
                replace hx232_3 := (HB.out.cell (World.block_lt_of_cell? w _ hx232_3)).trans hx232_3
                replace hx232_4 := (HB.out.cell (World.block_lt_of_cell? w _ hx232_4)).trans hx232_4
                replace hx232_5 := (HB.out.cell (World.block_lt_of_cell? w _ hx232_5)).trans hx232_5
                replace hx232_6 := (HB.out.cell (World.block_lt_of_cell? w _ hx232_6)).trans hx232_6
                replace hx232_7 := (HB.out.cell (World.block_lt_of_cell? w _ hx232_7)).trans hx232_7
                replace hx232_8 := (HB.out.cell (World.block_lt_of_cell? w _ hx232_8)).trans hx232_8
                replace hx232_9 := (HB.out.cell (World.block_lt_of_cell? w _ hx232_9)).trans hx232_9
                have HR232_5 := Aside0.mk hi232_5
                have HC232_5 := Aside0.mk hl232_5
                clear hi232_5 hl232_5
                replace p232 := eq_true p232
                replace q232 := eq_true q232
                refine start_ (n := 10) (S := fun w' => w'.cell? (ad231.add ((x5_1).toNat * 10)) = some (.int .i64 ((rd_T50 l0 x5_1).f0)) ∧ w'.cell? ⟨(ad231.add ((x5_1).toNat * 10)).block, (ad231.add ((x5_1).toNat * 10)).off + 1, none⟩ = some (.int .i64 ((rd_T50 l0 x5_1).f1)) ∧ w'.cell? ⟨(ad231.add ((x5_1).toNat * 10)).block, (ad231.add ((x5_1).toNat * 10)).off + 2, none⟩ = some (.int .i64 ((rd_T50 l0 x5_1).f2)) ∧ w'.cell? ⟨(ad231.add ((x5_1).toNat * 10)).block, (ad231.add ((x5_1).toNat * 10)).off + 3, none⟩ = some (.int .i64 ((rd_T50 l0 x5_1).f3)) ∧ w'.cell? ⟨(ad231.add ((x5_1).toNat * 10)).block, (ad231.add ((x5_1).toNat * 10)).off + 4, none⟩ = some (.int .i64 ((rd_T50 l0 x5_1).f4)) ∧ w'.cell? ⟨(ad231.add ((x5_1).toNat * 10)).block, (ad231.add ((x5_1).toNat * 10)).off + 5, none⟩ = some (.slice A231_5 ((rd_T50 l0 x5_1).f5).length c231_5) ∧ w'.cell? ⟨(ad231.add ((x5_1).toNat * 10)).block, (ad231.add ((x5_1).toNat * 10)).off + 6, none⟩ = some (.int .i64 ((rd_T50 l0 x5_1).f6.f0)) ∧ w'.cell? ⟨(ad231.add ((x5_1).toNat * 10)).block, (ad231.add ((x5_1).toNat * 10)).off + 7, none⟩ = some (.int .i64 ((rd_T50 l0 x5_1).f6.f1)) ∧ w'.cell? ⟨(ad231.add ((x5_1).toNat * 10)).block, (ad231.add ((x5_1).toNat * 10)).off + 8, none⟩ = some (.int .i64 ((rd_T50 l0 x5_1).f6.f2)) ∧ w'.cell? ⟨(ad231.add ((x5_1).toNat * 10)).block, (ad231.add ((x5_1).toNat * 10)).off + 9, none⟩ = some (.int .i64 ((rd_T50 l0 x5_1).f6.f3)) ∧ w'.cell? (ad232.add ((x5_1).toNat * 10)) = some (.int .i64 ((rd_T50 l1 x5_1).f0)) ∧ w'.cell? ⟨(ad232.add ((x5_1).toNat * 10)).block, (ad232.add ((x5_1).toNat * 10)).off + 1, none⟩ = some (.int .i64 ((rd_T50 l1 x5_1).f1)) ∧ w'.cell? ⟨(ad232.add ((x5_1).toNat * 10)).block, (ad232.add ((x5_1).toNat * 10)).off + 2, none⟩ = some (.int .i64 ((rd_T50 l1 x5_1).f2)) ∧ w'.cell? ⟨(ad232.add ((x5_1).toNat * 10)).block, (ad232.add ((x5_1).toNat * 10)).off + 3, none⟩ = some (.int .i64 ((rd_T50 l1 x5_1).f3)) ∧ w'.cell? ⟨(ad232.add ((x5_1).toNat * 10)).block, (ad232.add ((x5_1).toNat * 10)).off + 4, none⟩ = some (.int .i64 ((rd_T50 l1 x5_1).f4)) ∧ w'.cell? ⟨(ad232.add ((x5_1).toNat * 10)).block, (ad232.add ((x5_1).toNat * 10)).off + 5, none⟩ = some (.slice A232_5 ((rd_T50 l1 x5_1).f5).length c232_5) ∧ w'.cell? ⟨(ad232.add ((x5_1).toNat * 10)).block, (ad232.add ((x5_1).toNat * 10)).off + 6, none⟩ = some (.int .i64 ((rd_T50 l1 x5_1).f6.f0)) ∧ w'.cell? ⟨(ad232.add ((x5_1).toNat * 10)).block, (ad232.add ((x5_1).toNat * 10)).off + 7, none⟩ = some (.int .i64 ((rd_T50 l1 x5_1).f6.f1)) ∧ w'.cell? ⟨(ad232.add ((x5_1).toNat * 10)).block, (ad232.add ((x5_1).toNat * 10)).off + 8, none⟩ = some (.int .i64 ((rd_T50 l1 x5_1).f6.f2)) ∧ w'.cell? ⟨(ad232.add ((x5_1).toNat * 10)).block, (ad232.add ((x5_1).toNat * 10)).off + 9, none⟩ = some (.int .i64 ((rd_T50 l1 x5_1).f6.f3))) (ds := []) #[false, false, false, false, false, false, false, false, false, false] (by kernel_rfl) rfl rfl ⟨((HB.out.cell (World.block_lt_of_cell? w _ hw231_0)).trans hw231_0), ((HB.out.cell (World.block_lt_of_cell? w _ hw231_1)).trans hw231_1), ((HB.out.cell (World.block_lt_of_cell? w _ hw231_2)).trans hw231_2), ((HB.out.cell (World.block_lt_of_cell? w _ hw231_3)).trans hw231_3), ((HB.out.cell (World.block_lt_of_cell? w _ hw231_4)).trans hw231_4), ((HB.out.cell (World.block_lt_of_cell? w _ hw231_5)).trans hw231_5), ((HB.out.cell (World.block_lt_of_cell? w _ hw231_6)).trans hw231_6), ((HB.out.cell (World.block_lt_of_cell? w _ hw231_7)).trans hw231_7), ((HB.out.cell (World.block_lt_of_cell? w _ hw231_8)).trans hw231_8), ((HB.out.cell (World.block_lt_of_cell? w _ hw231_9)).trans hw231_9), ((HB.out.cell (World.block_lt_of_cell? w _ hw232_0)).trans hw232_0), ((HB.out.cell (World.block_lt_of_cell? w _ hw232_1)).trans hw232_1), ((HB.out.cell (World.block_lt_of_cell? w _ hw232_2)).trans hw232_2), ((HB.out.cell (World.block_lt_of_cell? w _ hw232_3)).trans hw232_3), ((HB.out.cell (World.block_lt_of_cell? w _ hw232_4)).trans hw232_4), ((HB.out.cell (World.block_lt_of_cell? w _ hw232_5)).trans hw232_5), ((HB.out.cell (World.block_lt_of_cell? w _ hw232_6)).trans hw232_6), ((HB.out.cell (World.block_lt_of_cell? w _ hw232_7)).trans hw232_7), ((HB.out.cell (World.block_lt_of_cell? w _ hw232_8)).trans hw232_8), ((HB.out.cell (World.block_lt_of_cell? w _ hw232_9)).trans hw232_9)⟩ (fun hHeld => ?_); refine with_tabW colophonref15_Same.tab6 colophonref15_Same.bits6 (fun HT_ HW_ => ?_)
                generalize wr.drew = w11 at HB HR231_5 HR232_5 hx231_0 hx231_1 hx231_2 hx231_3 hx231_4 hx231_5 hx231_6 hx231_7 hx231_8 hx231_9 hx232_0 hx232_1 hx232_2 hx232_3 hx232_4 hx232_5 hx232_6 hx232_7 hx232_8 hx232_9 hHeld ⊢
                refine pure_ (i := 0) (N := some 17) (v := ?_) (a' := ?_) #[true, false, false, false, false, false, false, false, false, false] rfl rfl (any_of HT_.out (by kernel_rfl)) (fun _ _ _ h => h) (Or.inl ⟨by rfl, ?_⟩) ?_ ?_
                rotate_left
                · intro w'
                  go_simp
                  with_reducible rfl
                rotate_left
                · simp only [Act.put, List.setIfInBounds_toArray, List.set_cons_zero, List.set_cons_succ, i64_w, i32_w]
                  rfl
                refine pure_ (i := 1) (N := some 18) (v := ?_) (a' := ?_) #[true, true, false, false, false, false, false, false, false, false] rfl rfl (any_of HT_.out (by kernel_rfl)) (fun _ _ _ h => h) (Or.inl ⟨by rfl, ?_⟩) ?_ ?_
                rotate_left
                · intro w'
                  go_simp
                  with_reducible rfl
                rotate_left
                · simp only [Act.put, List.setIfInBounds_toArray, List.set_cons_zero, List.set_cons_succ, i64_w, i32_w]
                  rfl
                refine pure_ (i := 2) (N := some 19) (v := ?_) (a' := ?_) #[true, true, true, false, false, false, false, false, false, false] rfl rfl (any_of HT_.out (by kernel_rfl)) (fun _ _ _ h => h) (Or.inl ⟨by rfl, ?_⟩) ?_ ?_
                rotate_left
                · intro w'
                  go_simp
                  with_reducible rfl
                rotate_left
                · simp only [Act.put, List.setIfInBounds_toArray, List.set_cons_zero, List.set_cons_succ, i64_w, i32_w]
                  rfl
                refine pure_ (i := 4) (N := some 21) (v := ?_) (a' := ?_) #[true, true, true, false, true, false, false, false, false, false] rfl rfl (any_of HT_.out (by kernel_rfl)) (fun _ _ _ h => h) (Or.inl ⟨by rfl, ?_⟩) ?_ ?_
                rotate_left
                · intro w'
                  go_simp
                  with_reducible rfl
                rotate_left
                · simp only [Act.put, List.setIfInBounds_toArray, List.set_cons_zero, List.set_cons_succ, i64_w, i32_w]
                  rfl
                refine pure_ (i := 5) (N := some 22) (v := ?_) (a' := ?_) #[true, true, true, false, true, true, false, false, false, false] rfl rfl (any_of HT_.out (by kernel_rfl)) (fun _ _ _ h => h) (Or.inl ⟨by rfl, ?_⟩) ?_ ?_
                rotate_left
                · intro w'
                  go_simp
                  with_reducible rfl
                rotate_left
                · simp only [Act.put, List.setIfInBounds_toArray, List.set_cons_zero, List.set_cons_succ, i64_w, i32_w]
                  rfl
                refine pure_ (i := 6) (N := some 23) (v := ?_) (a' := ?_) #[true, true, true, false, true, true, true, false, false, false] rfl rfl (any_of HT_.out (by kernel_rfl)) (fun _ _ _ h => h) (Or.inl ⟨by rfl, ?_⟩) ?_ ?_
                rotate_left
                · intro w'
                  go_simp
                  with_reducible rfl
                rotate_left
                · simp only [Act.put, List.setIfInBounds_toArray, List.set_cons_zero, List.set_cons_succ, i64_w, i32_w]
                  rfl
                refine take_ (i := 3) (N := some 20) (v := ?_) (a' := ?_) #[true, true, true, true, true, true, true, false, false, false] rfl rfl (take_ofW HT_.out HW_.out (by kernel_rfl)) (fun _ _ _ h => h) (Or.inl ⟨by rfl, ?_⟩) hHeld ?_ ?_
                rotate_left
                · rintro w' ⟨s0, s1, s2, s3, s4, s5, s6, s7, s8, s9, s10, s11, s12, s13, s14, s15, s16, s17, s18, s19⟩
                  go_simp
                  with_reducible rfl
                rotate_left
                · simp only [Act.put, List.setIfInBounds_toArray, List.set_cons_zero, List.set_cons_succ, i64_w, i32_w]
                  rfl
                refine take_ (i := 7) (N := some 24) (v := ?_) (a' := ?_) #[true, true, true, true, true, true, true, true, false, false] rfl rfl (take_ofW HT_.out HW_.out (by kernel_rfl)) (fun _ _ _ h => h) (Or.inl ⟨by rfl, ?_⟩) hHeld ?_ ?_
                rotate_left
                · rintro w' ⟨s0, s1, s2, s3, s4, s5, s6, s7, s8, s9, s10, s11, s12, s13, s14, s15, s16, s17, s18, s19⟩
                  go_simp
                  with_reducible rfl
                rotate_left
                · simp only [Act.put, List.setIfInBounds_toArray, List.set_cons_zero, List.set_cons_succ, i64_w, i32_w]
                  rfl
                refine one_ (i := 8) (N := some 25) #[true, true, true, true, true, true, true, true, true, false] rfl rfl (one_of HT_.out (by kernel_rfl)) (by decide) (fun K hK => ?_)
                refine goes_ Tryd.func38 (by kernel_rfl) rfl #[.agg #[.int .i64 ((rd_T50 l0 x5_1).f0), .int .i64 ((rd_T50 l0 x5_1).f1), .int .i64 ((rd_T50 l0 x5_1).f2), .int .i64 ((rd_T50 l0 x5_1).f3), .int .i64 ((rd_T50 l0 x5_1).f4), .slice A231_5 ((rd_T50 l0 x5_1).f5).length c231_5, .int .i64 ((rd_T50 l0 x5_1).f6.f0), .int .i64 ((rd_T50 l0 x5_1).f6.f1), .int .i64 ((rd_T50 l0 x5_1).f6.f2), .int .i64 ((rd_T50 l0 x5_1).f6.f3)], .agg #[.int .i64 ((rd_T50 l1 x5_1).f0), .int .i64 ((rd_T50 l1 x5_1).f1), .int .i64 ((rd_T50 l1 x5_1).f2), .int .i64 ((rd_T50 l1 x5_1).f3), .int .i64 ((rd_T50 l1 x5_1).f4), .slice A232_5 ((rd_T50 l1 x5_1).f5).length c232_5, .int .i64 ((rd_T50 l1 x5_1).f6.f0), .int .i64 ((rd_T50 l1 x5_1).f6.f1), .int .i64 ((rd_T50 l1 x5_1).f6.f2), .int .i64 ((rd_T50 l1 x5_1).f6.f3)]] (by rfl) rfl rfl (by (try simp only [List.map_toArray, List.map_cons, List.map_nil]); first | done | rfl | (simp only [List.length_drop, List.length_take]; rfl) | (simp only [Array.mk.injEq, List.cons.injEq, Value.int.injEq, and_true, true_and]; (try unfold wrap64); omega)) ?_
                with_reducible refine (colophonref15_One.calls k1 ((rd_T50 l0 x5_1).f0) ((rd_T50 l0 x5_1).f1) ((rd_T50 l0 x5_1).f2) ((rd_T50 l0 x5_1).f3) ((rd_T50 l0 x5_1).f4) _ _ ((rd_T50 l0 x5_1).f5) ((rd_T50 l0 x5_1).f6.f0) ((rd_T50 l0 x5_1).f6.f1) ((rd_T50 l0 x5_1).f6.f2) ((rd_T50 l0 x5_1).f6.f3) ((rd_T50 l1 x5_1).f0) ((rd_T50 l1 x5_1).f1) ((rd_T50 l1 x5_1).f2) ((rd_T50 l1 x5_1).f3) ((rd_T50 l1 x5_1).f4) _ _ ((rd_T50 l1 x5_1).f5) ((rd_T50 l1 x5_1).f6.f0) ((rd_T50 l1 x5_1).f6.f1) ((rd_T50 l1 x5_1).f6.f2) ((rd_T50 l1 x5_1).f6.f3) false _ ?side1 ?side2 ?side3 ?side4 A7.out).mono ?_
                (case side1 => repeat (first | exact (Kd.C_below HR231_5.out HB.out) | (with_reducible refine Kd.C_alloc ?_ _) | (with_reducible refine Kd.C_drewN ?_ _) | (with_reducible refine Kd.C_drew ?_)))
                (case side2 => exact HC231_5.out)
                (case side3 => repeat (first | exact (Kd.C_below HR232_5.out HB.out) | (with_reducible refine Kd.C_alloc ?_ _) | (with_reducible refine Kd.C_drewN ?_ _) | (with_reducible refine Kd.C_drew ?_)))
                (case side4 => exact HC232_5.out)
                rintro e w12 ⟨rfl, hb⟩
                refine ⟨_, rfl, ?_⟩
                have n0_ := Aside0.mk (below_step (by repeat (first | (with_reducible first | exact HB.out | apply below_alloc | apply pw_below_drewN | apply below_drew1) | exact HB.out)) hb)
                clear HB
                have HB := n0_
                clear n0_
                (try clear hb)
                (try clear hb2)
                (try clear hk)
                (try clear hi)
                refine hK.out _ _ ⟨((HB.out.cell (World.block_lt_of_cell? w _ hw231_0)).trans hw231_0), ((HB.out.cell (World.block_lt_of_cell? w _ hw231_1)).trans hw231_1), ((HB.out.cell (World.block_lt_of_cell? w _ hw231_2)).trans hw231_2), ((HB.out.cell (World.block_lt_of_cell? w _ hw231_3)).trans hw231_3), ((HB.out.cell (World.block_lt_of_cell? w _ hw231_4)).trans hw231_4), ((HB.out.cell (World.block_lt_of_cell? w _ hw231_5)).trans hw231_5), ((HB.out.cell (World.block_lt_of_cell? w _ hw231_6)).trans hw231_6), ((HB.out.cell (World.block_lt_of_cell? w _ hw231_7)).trans hw231_7), ((HB.out.cell (World.block_lt_of_cell? w _ hw231_8)).trans hw231_8), ((HB.out.cell (World.block_lt_of_cell? w _ hw231_9)).trans hw231_9), ((HB.out.cell (World.block_lt_of_cell? w _ hw232_0)).trans hw232_0), ((HB.out.cell (World.block_lt_of_cell? w _ hw232_1)).trans hw232_1), ((HB.out.cell (World.block_lt_of_cell? w _ hw232_2)).trans hw232_2), ((HB.out.cell (World.block_lt_of_cell? w _ hw232_3)).trans hw232_3), ((HB.out.cell (World.block_lt_of_cell? w _ hw232_4)).trans hw232_4), ((HB.out.cell (World.block_lt_of_cell? w _ hw232_5)).trans hw232_5), ((HB.out.cell (World.block_lt_of_cell? w _ hw232_6)).trans hw232_6), ((HB.out.cell (World.block_lt_of_cell? w _ hw232_7)).trans hw232_7), ((HB.out.cell (World.block_lt_of_cell? w _ hw232_8)).trans hw232_8), ((HB.out.cell (World.block_lt_of_cell? w _ hw232_9)).trans hw232_9)⟩ (fun hHeld => ?_)
                clear hK K
                refine norm_ (a' := ?_) ?_ ?_
                rotate_left
                · show Act.put _ (some 25) _ = _
                  simp only [Act.put, List.setIfInBounds_toArray, List.set_cons_zero, List.set_cons_succ, i64_w, i32_w]
                  rfl
                refine pure_ (i := 9) (N := some 26) (v := ?_) (a' := ?_) #[true, true, true, true, true, true, true, true, true, true] rfl rfl (any_of HT_.out (by kernel_rfl)) (fun _ _ _ h => h) (Or.inl ⟨by rfl, ?_⟩) ?_ ?_
                rotate_left
                · intro w'
                  go_simp
                  with_reducible rfl
                rotate_left
                · simp only [Act.put, List.setIfInBounds_toArray, List.set_cons_zero, List.set_cons_succ, i64_w, i32_w]
                  rfl
                refine done_ (done_of HT_.out (by kernel_rfl)) ?_
                try go_wp2
                go_ret
                exact ⟨by first | rfl | (simp [errW_none, errW_some] <;> rfl) | (simp [*, errW_none, errW_some] <;> rfl), by repeat (first | (with_reducible first | exact HB.out | apply below_alloc | apply pw_below_drewN | apply below_drew1) | exact HB.out)⟩
            · rw [if_neg c6] at H
              exact absurd H (by simp)
          · rw [if_neg c5] at H
            exact absurd H (by simp)
        · rw [if_neg c4] at H
          have c4b0 : decide (x5_1 < (l0.length : Int)) = false := decide_eq_false c4
          clear c4
          obtain rfl := Option.some.inj H
          go_wp2
          go_ret
          exact ⟨by first | rfl | (simp [errW_none, errW_some] <;> rfl) | (simp [*, errW_none, errW_some] <;> rfl), by repeat (first | (with_reducible first | exact HB.out | apply below_alloc | apply pw_below_drewN | apply below_drew1) | exact HB.out)⟩
  · rw [if_neg c3] at H
    have c3b0 : ((l0.length : Int) == (l1.length : Int)) = false := beq_eq_false_iff_ne.mpr c3
    have c3b1 : ((l0.length : Int) != (l1.length : Int)) = true := bne_iff_ne.mpr c3
    have c3b2 : (l0.length == l1.length) = false := by first | simpa using c3 | (simp at c3 ⊢; omega)
    obtain rfl := Option.some.inj H
    go_enter Tryd.func17, Tryd.ntmps17
    go_wp2
    go_ret
    exact ⟨by first | rfl | (simp [errW_none, errW_some] <;> rfl) | (simp [*, errW_none, errW_some] <;> rfl), by repeat (first | (with_reducible first | exact HB.out | apply below_alloc | apply pw_below_drewN | apply below_drew1) | exact HB.out)⟩
end Go.Proofs.YtekifiblehmafaaDoor.Y
end
section
set_option linter.unusedVariables false
set_option linter.unusedSimpArgs false
namespace Go.Proofs.YtekifiblehmafaaDoor.Y
open Go.RowKit Go.Proofs.YtekifiblehmafaaDoorW.PrintWords
def inB (a : Int) : Bool := decide (-1099511627776 ≤ a) && decide (a ≤ 1099511627776)
theorem ite_some (c : Prop) [Decidable c] (b : Bool) : (if c then some b else some false) = some (decide c && b) := by
  by_cases h : c <;> simp [h]
theorem fixed_in (a : Int) : fixed_In.f a = some (inB a) := by rw [fixed_In.f, ite_some]; rfl
theorem ref_in (a : Int) : colophonref01_In.f a = some (inB a) := by
  rw [colophonref01_In.f, ite_some]
  rfl
def inr (g : Int) : Bool := decide (0 ≤ g ∧ g ≤ 65535)
def restB (f1 f2 f3 f4 : Int) (gl : List Int) (x0 x1 x2 x3 : Int) : Bool :=
  decide ((gl.length : Int) > 0) && (decide (0 ≤ f1) && (decide (f1 ≤ 99) && (decide (1 ≤ f2) && (inB f2 && (inB f3 && (inB f4 && (x0 == 0 && (x1 == 0 && (x2 == 0 && x3 == 0)))))))))
def rectB (x0 x1 x2 x3 : Int) : Bool := inB x0 && (inB x1 && (inB x2 && (inB x3 && (decide (x0 ≤ x2) && decide (x1 ≤ x3)))))
theorem rect_may (x0 x1 x2 x3 : Int) : rect_May.f x0 x1 x2 x3 = some (rectB x0 x1 x2 x3) := by
  unfold rect_May.f rectB
  simp only [fixed_in, Option.bind_some, ite_some, Bool.decide_eq_true]
theorem ref_may (x0 x1 x2 x3 : Int) : colophonref03_May.f x0 x1 x2 x3 = some (rectB x0 x1 x2 x3) := by
  unfold colophonref03_May.f rectB
  simp only [ref_in, Option.bind_some, ite_some, Bool.decide_eq_true]
def boxB (x0 x1 x2 x3 : Int) : Bool := rectB x0 x1 x2 x3 && (inB (wrap64 (x2 - x0)) && inB (wrap64 (x3 - x1)))
theorem ref_boxed (x0 x1 x2 x3 : Int) : colophonref15_Boxed.f x0 x1 x2 x3 = some (boxB x0 x1 x2 x3) := by
  unfold colophonref15_Boxed.f boxB
  simp only [ref_may, ref_in, Option.bind_some, ite_some, Bool.decide_eq_true]
theorem rd_nat {xs : List Int} {i : Nat} (h : i < xs.length) : rd xs (i : Int) = xs[i] := by simp [rd, h]
theorem wrap_nat {i : Nat} (h : i < 1000000000) : wrap64 ((i : Int) + 1) = ((i + 1 : Nat) : Int) := by unfold wrap64; omega
theorem drop_ne {a b : List Int} {i : Nat} (h1 : i < a.length) (h2 : i < b.length) (e : ¬ a[i] = b[i]) : ¬ a.drop i = b.drop i := by
  intro hh
  rw [List.drop_eq_getElem_cons h1, List.drop_eq_getElem_cons h2] at hh
  exact e (List.cons.inj hh).1
theorem drop_eq {a b : List Int} {i : Nat} (h1 : i < a.length) (h2 : i < b.length) (e : a[i] = b[i]) : decide (a.drop i = b.drop i) = decide (a.drop (i + 1) = b.drop (i + 1)) := by
  have : (a.drop i = b.drop i) = (a.drop (i + 1) = b.drop (i + 1)) := by
    apply propext
    rw [List.drop_eq_getElem_cons h1, List.drop_eq_getElem_cons h2, e]
    simp only [List.cons.injEq, true_and]
  simp only [this]
theorem eq_l0 (a b : List Int) (hl : a.length = b.length) (hb : a.length < 1000000000) : ∀ n i : Nat, i + n = a.length → Ev (fun k => slices_Equal_int_int.l0 k a b (a.length : Int) (i : Int)) (decide (a.drop i = b.drop i))
  | 0, i, h => by
    refine Ev.step (f := fun _ => some _) (fun k => ?_) (Ev.now _)
    rw [slices_Equal_int_int.l0, if_neg (by omega), List.drop_of_length_le (by omega), List.drop_of_length_le (by omega)]
    simp
  | n + 1, i, h => by
    have h1 : i < a.length := by omega
    have h2 : i < b.length := by omega
    by_cases e : a[i] = b[i]
    · rw [drop_eq h1 h2 e]
      refine Ev.step (fun k => ?_) (eq_l0 a b hl hb n (i + 1) (by omega))
      · rw [slices_Equal_int_int.l0, if_pos (by omega), if_pos (by omega), if_pos (by omega), if_pos (by omega), rd_nat h1, rd_nat h2, if_pos e, wrap_nat (by omega)]
    · refine Ev.step (f := fun _ => some _) (fun k => ?_) (Ev.now _)
      rw [slices_Equal_int_int.l0, if_pos (by omega), if_pos (by omega), if_pos (by omega), if_pos (by omega), rd_nat h1, rd_nat h2, if_neg e]
      simp [drop_ne h1 h2 e]
theorem eq_ev (a b : List Int) (hb : a.length < 1000000000) : Ev (fun k => slices_Equal_int_int.f k a b) (decide (a = b)) := by
  by_cases hl : a.length = b.length
  · have := eq_l0 a b hl hb a.length 0 (by omega)
    refine Ev.congr (fun k => ?_) this
    rw [slices_Equal_int_int.f, if_pos (by omega)]; rfl
  · refine Ev.congr (f := fun _ => some _) (fun k => ?_) (Ev.now _)
    rw [slices_Equal_int_int.f, if_neg (by omega)]
    have : a ≠ b := fun e => hl (by rw [e])
    simp [this]
theorem keep_l0 (a b : List Int) (hl : a.length = b.length) (hb : a.length < 1000000000) : ∀ n i : Nat, i + n = a.length → Ev (fun k => colophonkeep_Same.l0 k a b (i : Int)) (decide (a.drop i = b.drop i))
  | 0, i, h => by
    refine Ev.step (f := fun _ => some _) (fun k => ?_) (Ev.now _)
    rw [colophonkeep_Same.l0, if_neg (by omega), List.drop_of_length_le (by omega), List.drop_of_length_le (by omega)]
    simp
  | n + 1, i, h => by
    have h1 : i < a.length := by omega
    have h2 : i < b.length := by omega
    by_cases e : a[i] = b[i]
    · rw [drop_eq h1 h2 e]
      refine Ev.step (fun k => ?_) (keep_l0 a b hl hb n (i + 1) (by omega))
      · rw [colophonkeep_Same.l0, if_pos (by omega), if_pos (by omega), if_pos (by omega), rd_nat h1, rd_nat h2, if_pos e, wrap_nat (by omega)]
    · refine Ev.step (f := fun _ => some _) (fun k => ?_) (Ev.now _)
      rw [colophonkeep_Same.l0, if_pos (by omega), if_pos (by omega), if_pos (by omega), rd_nat h1, rd_nat h2, if_neg e]
      simp [drop_ne h1 h2 e]
theorem keep_ev (a b : List Int) (hb : a.length < 1000000000) : Ev (fun k => colophonkeep_Same.f k a b) (decide (a = b)) := by
  by_cases hl : a.length = b.length
  · have := keep_l0 a b hl hb a.length 0 (by omega)
    refine Ev.congr (fun k => ?_) this
    rw [colophonkeep_Same.f, if_pos (by omega)]; rfl
  · refine Ev.congr (f := fun _ => some _) (fun k => ?_) (Ev.now _)
    rw [colophonkeep_Same.f, if_neg (by omega)]
    have : a ≠ b := fun e => hl (by rw [e])
    simp [this]
def same10 (a0 a1 a2 a3 a4 : Int) (a5 : List Int) (a6 a7 a8 a9 b0 b1 b2 b3 b4 : Int) (b5 : List Int) (b6 b7 b8 b9 : Int) : Bool :=
  decide (a0 = b0) && (decide (a1 = b1) && (decide (a2 = b2) && (decide (a3 = b3) && (decide (a4 = b4) && ((a6 == b6 && (a7 == b7 && (a8 == b8 && a9 == b9))) && decide (a5 = b5))))))
theorem ev_ite_false {c : Prop} [Decidable c] {g : Nat → Option Bool} {b : Bool} (h : c → Ev g b) : Ev (fun k => if c then g k else some false) (decide c && b) := by
  by_cases hc : c
  · simpa [hc] using h hc
  · simp only [hc, if_false, decide_false, Bool.false_and]
    exact Ev.now _
theorem same_ev (a0 a1 a2 a3 a4 : Int) (a5 : List Int) (a6 a7 a8 a9 b0 b1 b2 b3 b4 : Int) (b5 : List Int) (b6 b7 b8 b9 : Int) (h : a5.length < 1000000000) :
    Ev (fun k => emit_same.f k a0 a1 a2 a3 a4 a5 a6 a7 a8 a9 b0 b1 b2 b3 b4 b5 b6 b7 b8 b9) (same10 a0 a1 a2 a3 a4 a5 a6 a7 a8 a9 b0 b1 b2 b3 b4 b5 b6 b7 b8 b9) := by
  unfold emit_same.f same10
  refine ev_ite_false fun _ => ev_ite_false fun _ => ev_ite_false fun _ => ev_ite_false fun _ => ev_ite_false fun _ => ?_
  have := ev_ite_false (c := ((a6 == b6 && (a7 == b7 && (a8 == b8 && (a9 == b9)))) = true)) (fun _ => Ev.bind (f := fun _ t => some t) (eq_ev a5 b5 h) (Ev.now _))
  rw [Bool.decide_eq_true] at this
  exact this
theorem one_ev (a0 a1 a2 a3 a4 : Int) (a5 : List Int) (a6 a7 a8 a9 b0 b1 b2 b3 b4 : Int) (b5 : List Int) (b6 b7 b8 b9 : Int) (h : a5.length < 1000000000) :
    Ev (fun k => colophonref15_One.f k a0 a1 a2 a3 a4 a5 a6 a7 a8 a9 b0 b1 b2 b3 b4 b5 b6 b7 b8 b9) (same10 a0 a1 a2 a3 a4 a5 a6 a7 a8 a9 b0 b1 b2 b3 b4 b5 b6 b7 b8 b9) := by
  unfold colophonref15_One.f same10
  refine ev_ite_false fun _ => ev_ite_false fun _ => ev_ite_false fun _ => ev_ite_false fun _ => ev_ite_false fun _ => ?_
  have := ev_ite_false (c := ((a6 == b6 && (a7 == b7 && (a8 == b8 && (a9 == b9)))) = true)) (fun _ => Ev.bind (f := fun _ t => some t) (keep_ev a5 b5 h) (Ev.now _))
  rw [Bool.decide_eq_true] at this
  exact this
def sameB (a b : S50) : Bool := same10 a.f0 a.f1 a.f2 a.f3 a.f4 a.f5 a.f6.f0 a.f6.f1 a.f6.f2 a.f6.f3 b.f0 b.f1 b.f2 b.f3 b.f4 b.f5 b.f6.f0 b.f6.f1 b.f6.f2 b.f6.f3
theorem sameB_refl (a : S50) : sameB a a = true := by simp [sameB, same10]
def zeroB (m : S50) : Bool := same10 m.f0 m.f1 m.f2 m.f3 m.f4 m.f5 m.f6.f0 m.f6.f1 m.f6.f2 m.f6.f3 m.f0 0 0 0 0 [] m.f6.f0 m.f6.f1 m.f6.f2 m.f6.f3
def endB (m : S50) : Bool := same10 m.f0 m.f1 m.f2 m.f3 m.f4 m.f5 m.f6.f0 m.f6.f1 m.f6.f2 m.f6.f3 m.f0 0 0 0 0 [] 0 0 0 0
def mayB (m : S50) : Bool :=
  if m.f0 = 1 then m.f5.all inr && restB m.f1 m.f2 m.f3 m.f4 m.f5 m.f6.f0 m.f6.f1 m.f6.f2 m.f6.f3
  else if m.f0 = 2 ∨ m.f0 = 3 then zeroB m && boxB m.f6.f0 m.f6.f1 m.f6.f2 m.f6.f3
  else if m.f0 = 4 then endB m else false
theorem all_drop {l : List Int} {i : Nat} (h : i < l.length) : (l.drop i).all inr = (inr l[i] && (l.drop (i + 1)).all inr) := by
  rw [List.drop_eq_getElem_cons h, List.all_cons]
theorem may_l0 (gl : List Int) (hb : gl.length < 1000000000) (f0 f1 f2 f3 f4 x0 x1 x2 x3 : Int) : ∀ n i : Nat, i + n = gl.length →
    Ev (fun k => emit_may.l0 k gl (gl.length : Int) (i : Int) f0 f1 f2 f3 f4 gl x0 x1 x2 x3) ((gl.drop i).all inr && restB f1 f2 f3 f4 gl x0 x1 x2 x3)
  | 0, i, h => by
    refine Ev.step (f := fun _ => some _) (fun k => ?_) (Ev.now _)
    rw [emit_may.l0, if_neg (by omega), List.drop_of_length_le (by omega)]
    simp only [fixed_in, Option.bind_some, ite_some, Bool.decide_eq_true, List.all_nil, Bool.true_and]
    rfl
  | n + 1, i, h => by
    have h1 : i < gl.length := by omega
    rw [all_drop h1]
    by_cases e : 0 ≤ gl[i] ∧ gl[i] ≤ 65535
    · rw [show inr gl[i] = true from by simp [inr, e], Bool.true_and]
      refine Ev.step (fun k => ?_) (may_l0 gl hb f0 f1 f2 f3 f4 x0 x1 x2 x3 n (i + 1) (by omega))
      rw [emit_may.l0, if_pos (by omega), if_pos (by omega), if_pos (by omega), rd_nat h1, if_neg (by omega), if_neg (by omega), wrap_nat (by omega)]
    · rw [show inr gl[i] = false from by simp [inr]; omega, Bool.false_and, Bool.false_and]
      refine Ev.step (f := fun _ => some _) (fun k => ?_) (Ev.now _)
      rw [emit_may.l0, if_pos (by omega), if_pos (by omega), if_pos (by omega), rd_nat h1]
      by_cases h3 : gl[i] < 0
      · rw [if_pos h3]
      · rw [if_neg h3, if_pos (by omega)]
theorem may_j1 (x6 f0 f1 f2 f3 f4 : Int) (b : Bool) (gl : List Int) (x0 x1 x2 x3 : Int) (hb : gl.length < 1000000000) :
    Ev (fun k => emit_may.j1 k x6 b f0 f1 f2 f3 f4 gl x0 x1 x2 x3) (if b = true then same10 f0 f1 f2 f3 f4 gl x0 x1 x2 x3 f0 0 0 0 0 [] x0 x1 x2 x3 && boxB x0 x1 x2 x3 else if x6 = 4 then same10 f0 f1 f2 f3 f4 gl x0 x1 x2 x3 f0 0 0 0 0 [] 0 0 0 0 else false) := by
  cases b
  · by_cases h4 : x6 = 4
    · refine Ev.step (f := fun k => (emit_same.f k f0 f1 f2 f3 f4 gl x0 x1 x2 x3 f0 0 0 0 0 ([] : List Int) 0 0 0 0).bind fun t121 => (some t121)) (fun k => ?_) ?_
      · rw [emit_may.j1, if_neg (by simp), if_pos h4]
      · rw [if_neg (by simp), if_pos h4]
        exact Ev.bind (same_ev _ _ _ _ _ _ _ _ _ _ _ _ _ _ _ _ _ _ _ _ hb) (Ev.now _)
    · refine Ev.step (f := fun _ => some _) (fun k => ?_) (Ev.now _)
      rw [emit_may.j1, if_neg (by simp), if_neg h4, if_neg (by simp), if_neg h4]
  · rw [if_pos rfl]
    refine Ev.step (f := fun k => (emit_same.f k f0 f1 f2 f3 f4 gl x0 x1 x2 x3 f0 0 0 0 0 ([] : List Int) x0 x1 x2 x3).bind fun t117 => if t117 = true then some (boxB x0 x1 x2 x3) else some false) (fun k => ?_) ?_
    · rw [emit_may.j1, if_pos rfl]
      simp only [rect_may, fixed_in, Option.bind_some, ite_some, Bool.decide_eq_true]
      rfl
    · refine Ev.bind (same_ev _ _ _ _ _ _ _ _ _ _ _ _ _ _ _ _ _ _ _ _ hb) ?_
      rw [ite_some, Bool.decide_eq_true]
      exact Ev.now _
theorem may_ev (m : S50) (hb : m.f5.length < 1000000000) : Ev (fun k => emit_may.f k m.f0 m.f1 m.f2 m.f3 m.f4 m.f5 m.f6.f0 m.f6.f1 m.f6.f2 m.f6.f3) (mayB m) := by
  unfold emit_may.f mayB
  by_cases h1 : m.f0 = 1
  · simp only [if_pos h1]
    exact may_l0 m.f5 hb _ _ _ _ _ _ _ _ _ m.f5.length 0 (by omega)
  · simp only [if_neg h1]
    by_cases h2 : m.f0 = 2
    · simp only [if_pos h2, if_pos (Or.inl h2 : m.f0 = 2 ∨ m.f0 = 3)]
      have := may_j1 m.f0 m.f0 m.f1 m.f2 m.f3 m.f4 (m.f0 == 2) m.f5 m.f6.f0 m.f6.f1 m.f6.f2 m.f6.f3 hb
      rw [if_pos (by simp [h2])] at this
      exact this
    · simp only [if_neg h2]
      have := may_j1 m.f0 m.f0 m.f1 m.f2 m.f3 m.f4 (m.f0 == 3) m.f5 m.f6.f0 m.f6.f1 m.f6.f2 m.f6.f3 hb
      by_cases h3 : m.f0 = 3
      · rw [if_pos (by simp [h3])] at this
        rw [if_pos (Or.inr h3)]
        exact this
      · rw [if_neg (by simp [h3])] at this
        rw [if_neg (by omega)]
        exact this
theorem one_j0_true (f0 f1 f2 f3 f4 : Int) (gl : List Int) (x0 x1 x2 x3 : Int) : Ev (fun k => colophonref15_one.j0 k true f0 f1 f2 f3 f4 gl x0 x1 x2 x3) false := by
  refine Ev.step (f := fun _ => some false) (fun k => ?_) (Ev.now _)
  rw [colophonref15_one.j0, if_pos rfl]
theorem one_l0 (gl : List Int) (hb : gl.length < 1000000000) (f0 f1 f2 f3 f4 x0 x1 x2 x3 : Int) : ∀ n i : Nat, i + n = gl.length →
    Ev (fun k => colophonref15_one.l0 k (i : Int) f0 f1 f2 f3 f4 gl x0 x1 x2 x3) ((gl.drop i).all inr)
  | 0, i, h => by
    refine Ev.step (f := fun _ => some _) (fun k => ?_) (Ev.now _)
    rw [colophonref15_one.l0, if_neg (by omega), List.drop_of_length_le (by omega)]
    rfl
  | n + 1, i, h => by
    have h1 : i < gl.length := by omega
    rw [all_drop h1]
    by_cases e : 0 ≤ gl[i] ∧ gl[i] ≤ 65535
    · rw [show inr gl[i] = true from by simp [inr, e], Bool.true_and]
      refine Ev.step (fun k => ?_) (one_l0 gl hb f0 f1 f2 f3 f4 x0 x1 x2 x3 n (i + 1) (by omega))
      rw [colophonref15_one.l0, if_pos (by omega), if_pos (by omega), rd_nat h1, if_neg (by omega), if_neg (by omega), wrap_nat (by omega)]
    · rw [show inr gl[i] = false from by simp [inr]; omega, Bool.false_and]
      refine Ev.step (f := fun _ => some _) (fun k => ?_) (Ev.now _)
      rw [colophonref15_one.l0, if_pos (by omega), if_pos (by omega), rd_nat h1]
      by_cases h3 : gl[i] < 0
      · rw [if_pos h3]
      · rw [if_neg h3, if_pos (by omega)]
theorem one_j0 (b : Bool) (f0 f1 f2 f3 f4 : Int) (gl : List Int) (x0 x1 x2 x3 : Int) (hb : gl.length < 1000000000) : Ev (fun k => colophonref15_one.j0 k b f0 f1 f2 f3 f4 gl x0 x1 x2 x3) (!b && gl.all inr) := by
  cases b
  · refine Ev.step (fun k => ?_) (one_l0 gl hb f0 f1 f2 f3 f4 x0 x1 x2 x3 gl.length 0 (by omega))
    rw [colophonref15_one.j0, if_neg (by simp)]; rfl
  · exact one_j0_true _ _ _ _ _ _ _ _ _ _
theorem one_j2 (f0 f1 f2 f3 f4 : Int) (b : Bool) (gl : List Int) (x0 x1 x2 x3 : Int) (hb : gl.length < 1000000000) :
    Ev (fun k => colophonref15_one.j2 k b f0 f1 f2 f3 f4 gl x0 x1 x2 x3) (if b = true then boxB x0 x1 x2 x3 && same10 f0 f1 f2 f3 f4 gl x0 x1 x2 x3 f0 0 0 0 0 [] x0 x1 x2 x3 else if f0 = 4 then same10 f0 f1 f2 f3 f4 gl x0 x1 x2 x3 4 0 0 0 0 [] 0 0 0 0 else false) := by
  cases b
  · by_cases h4 : f0 = 4
    · refine Ev.step (f := fun k => (colophonref15_One.f k f0 f1 f2 f3 f4 gl x0 x1 x2 x3 4 0 0 0 0 ([] : List Int) 0 0 0 0).bind fun t121 => (some t121)) (fun k => ?_) ?_
      · rw [colophonref15_one.j2, if_neg (by simp), if_pos h4]
      · rw [if_neg (by simp), if_pos h4]
        exact Ev.bind (one_ev _ _ _ _ _ _ _ _ _ _ _ _ _ _ _ _ _ _ _ _ hb) (Ev.now _)
    · refine Ev.step (f := fun _ => some _) (fun k => ?_) (Ev.now _)
      rw [colophonref15_one.j2, if_neg (by simp), if_neg h4, if_neg (by simp), if_neg h4]
  · rw [if_pos rfl]
    refine Ev.step (f := fun k => if boxB x0 x1 x2 x3 = true then (colophonref15_One.f k f0 f1 f2 f3 f4 gl x0 x1 x2 x3 f0 0 0 0 0 ([] : List Int) x0 x1 x2 x3).bind fun t => some t else some false) (fun k => ?_) ?_
    · rw [colophonref15_one.j2, if_pos rfl, ref_boxed, Option.bind_some]
    · have := ev_ite_false (c := (boxB x0 x1 x2 x3 = true)) (fun _ => Ev.bind (f := fun _ t => some t) (one_ev f0 f1 f2 f3 f4 gl x0 x1 x2 x3 f0 0 0 0 0 [] x0 x1 x2 x3 hb) (Ev.now _))
      rw [Bool.decide_eq_true] at this
      exact this
theorem refone_ev (m : S50) (hb : m.f5.length < 1000000000) : Ev (fun k => colophonref15_one.f k m.f0 m.f1 m.f2 m.f3 m.f4 m.f5 m.f6.f0 m.f6.f1 m.f6.f2 m.f6.f3) (mayB m) := by
  unfold colophonref15_one.f mayB
  by_cases h1 : m.f0 = 1
  · simp only [if_pos h1]
    unfold restB
    by_cases a1 : m.f1 < 0
    · simp only [if_pos a1]
      rw [show decide (0 ≤ m.f1) = false from decide_eq_false (by omega)]
      simpa using one_j0_true _ _ _ _ _ _ _ _ _ _
    · simp only [if_neg a1]
      rw [show decide (0 ≤ m.f1) = true from decide_eq_true (by omega), Bool.true_and]
      by_cases a2 : m.f1 > 99
      · simp only [if_pos a2]
        rw [show decide (m.f1 ≤ 99) = false from decide_eq_false (by omega)]
        simpa using one_j0_true _ _ _ _ _ _ _ _ _ _
      · simp only [if_neg a2]
        rw [show decide (m.f1 ≤ 99) = true from decide_eq_true (by omega), Bool.true_and]
        by_cases a3 : m.f2 < 1
        · simp only [if_pos a3]
          rw [show decide (1 ≤ m.f2) = false from decide_eq_false (by omega)]
          simpa using one_j0_true _ _ _ _ _ _ _ _ _ _
        · simp only [if_neg a3, ref_in, Option.bind_some]
          rw [show decide (1 ≤ m.f2) = true from decide_eq_true (by omega), Bool.true_and]
          by_cases b1 : inB m.f2 = true
          · simp only [if_pos b1, b1, Bool.true_and]
            by_cases b2 : inB m.f3 = true
            · simp only [if_pos b2, b2, Bool.true_and]
              by_cases b3 : inB m.f4 = true
              · simp only [if_pos b3, b3, Bool.true_and]
                by_cases l0 : (m.f5.length : Int) = 0
                · simp only [if_pos l0]
                  rw [show decide ((m.f5.length : Int) > 0) = false from decide_eq_false (by omega)]
                  simpa using one_j0_true _ _ _ _ _ _ _ _ _ _
                · simp only [if_neg l0]
                  rw [show decide ((m.f5.length : Int) > 0) = true from decide_eq_true (by omega), Bool.true_and]
                  have := one_j0 (!(m.f6.f0 == 0) || (!(m.f6.f1 == 0) || (!(m.f6.f2 == 0) || (!(m.f6.f3 == 0))))) m.f0 m.f1 m.f2 m.f3 m.f4 m.f5 m.f6.f0 m.f6.f1 m.f6.f2 m.f6.f3 hb
                  simpa only [Bool.not_or, Bool.not_not, Bool.and_comm, Bool.and_assoc, Bool.and_left_comm, if_true, ↓reduceIte] using this
              · simp only [if_neg b3]
                simpa [b3] using one_j0_true _ _ _ _ _ _ _ _ _ _
            · simp only [if_neg b2]
              simpa [b2] using one_j0_true _ _ _ _ _ _ _ _ _ _
          · simp only [if_neg b1]
            simpa [b1] using one_j0_true _ _ _ _ _ _ _ _ _ _
  · simp only [if_neg h1]
    by_cases h2 : m.f0 = 2
    · simp only [if_pos h2, if_pos (Or.inl h2 : m.f0 = 2 ∨ m.f0 = 3)]
      have := one_j2 m.f0 m.f1 m.f2 m.f3 m.f4 (m.f0 == 2) m.f5 m.f6.f0 m.f6.f1 m.f6.f2 m.f6.f3 hb
      rw [if_pos (by simp [h2])] at this
      rw [Bool.and_comm]
      exact this
    · simp only [if_neg h2]
      have := one_j2 m.f0 m.f1 m.f2 m.f3 m.f4 (m.f0 == 3) m.f5 m.f6.f0 m.f6.f1 m.f6.f2 m.f6.f3 hb
      by_cases h3 : m.f0 = 3
      · rw [if_pos (by simp [h3])] at this
        rw [if_pos (Or.inr h3), Bool.and_comm]
        exact this
      · rw [if_neg (by simp [h3])] at this
        rw [if_neg (by omega)]
        by_cases h4 : m.f0 = 4
        · rw [if_pos h4] at this
          rw [if_pos h4, endB]
          rw [show same10 m.f0 m.f1 m.f2 m.f3 m.f4 m.f5 m.f6.f0 m.f6.f1 m.f6.f2 m.f6.f3 m.f0 0 0 0 0 [] 0 0 0 0 = same10 m.f0 m.f1 m.f2 m.f3 m.f4 m.f5 m.f6.f0 m.f6.f1 m.f6.f2 m.f6.f3 4 0 0 0 0 [] 0 0 0 0 from by rw [h4]]
          exact this
        · rw [if_neg h4] at this
          rw [if_neg h4]
          exact this
def nest (o : Int) (m : S50) : Int := if m.f0 = 3 then o + 1 else if m.f0 = 4 then o - 1 else o
def checkGo (o : Int) : List S50 → Int
  | [] => if o = 0 then 0 else 150
  | m :: t => if mayB m = true then (if nest o m < 0 then 150 else if nest o m > 32 then 150 else checkGo (nest o m) t) else 150
def checkN (l : List S50) : Int := if (l.length : Int) > 8192 then 150 else checkGo 0 l
theorem rd_T50_nat {l : List S50} {i : Nat} (h : i < l.length) : rd_T50 l (i : Int) = l[i] := by
  show l.getD (i : Int).toNat z50 = _
  rw [Int.toNat_natCast]; simp [h]
theorem ev_if3 {c1 c2 : Prop} [Decidable c1] [Decidable c2] {g : Nat → Option Int} {r : Int} (h : ¬ c1 → ¬ c2 → Ev g r) : Ev (fun k => if c1 then some 150 else if c2 then some 150 else g k) (if c1 then 150 else if c2 then 150 else r) := by
  by_cases h1 : c1
  · simp only [if_pos h1]; exact Ev.now _
  · by_cases h2 : c2
    · simp only [if_neg h1, if_pos h2]; exact Ev.now _
    · simp only [if_neg h1, if_neg h2]; exact h h1 h2
theorem ev_ift {b : Bool} {g : Nat → Option Int} {r : Int} (h : Ev g r) : Ev (fun k => if b = true then g k else some 150) (if b = true then r else 150) := by
  cases b
  · simpa using Ev.now _
  · simpa using h
theorem check_l0 (l : List S50) (hb : l.length < 1000000000) (hg : ∀ m ∈ l, m.f5.length < 1000000000) : ∀ (n i : Nat) (o : Int), 0 ≤ o → o ≤ 32 → i + n = l.length → Ev (fun k => emit_Check.l0 k o l (l.length : Int) (i : Int)) (checkGo o (l.drop i))
  | 0, i, o, o0, o1, h => by
    refine Ev.step (f := fun _ => some _) (fun k => ?_) (Ev.now _)
    rw [emit_Check.l0, if_neg (by omega), List.drop_of_length_le (by omega), checkGo]
    split <;> rfl
  | n + 1, i, o, o0, o1, h => by
    have h1 : i < l.length := by omega
    rw [List.drop_eq_getElem_cons h1, checkGo]
    have hm := may_ev l[i] (hg _ (List.getElem_mem h1))
    have w1 : wrap64 (o + 1) = o + 1 := by unfold wrap64; omega
    have w2 : wrap64 (o - 1) = o - 1 := by unfold wrap64; omega
    refine Ev.step (f := fun k => (emit_may.f k l[i].f0 l[i].f1 l[i].f2 l[i].f3 l[i].f4 l[i].f5 l[i].f6.f0 l[i].f6.f1 l[i].f6.f2 l[i].f6.f3).bind fun t => if t = true then (if nest o l[i] < 0 then some 150 else if nest o l[i] > 32 then some 150 else emit_Check.l0 k (nest o l[i]) l (l.length : Int) ((i + 1 : Nat) : Int)) else some 150) (fun k => ?_) ?_
    · rw [emit_Check.l0, if_pos (by omega), if_pos (by omega), if_pos (by omega), rd_T50_nat h1, w1, w2, wrap_nat (by omega)]
      unfold nest
      by_cases h3 : l[i].f0 = 3
      · simp only [if_pos h3]
      · simp only [if_neg h3]
        by_cases h4 : l[i].f0 = 4
        · simp only [if_pos h4]
        · simp only [if_neg h4]
    · refine Ev.bind hm (ev_ift (ev_if3 fun c1 c2 => check_l0 l hb hg n (i + 1) _ (by omega) (by omega) (by omega)))
theorem check_ev (l : List S50) (hg : ∀ m ∈ l, m.f5.length < 1000000000) : Ev (fun k => emit_Check.f k l) (checkN l) := by
  unfold emit_Check.f checkN
  by_cases h : (l.length : Int) > 8192
  · simp only [if_pos h]; exact Ev.now _
  · simp only [if_neg h]
    exact check_l0 l (by omega) hg l.length 0 0 (by omega) (by omega) (by omega)
theorem refcheck_l0 (l : List S50) (hb : l.length < 1000000000) (hg : ∀ m ∈ l, m.f5.length < 1000000000) : ∀ (n i : Nat) (o : Int), 0 ≤ o → o ≤ 32 → i + n = l.length → Ev (fun k => colophonref15_Check.l0 k l o (i : Int)) (checkGo o (l.drop i))
  | 0, i, o, o0, o1, h => by
    refine Ev.step (f := fun _ => some _) (fun k => ?_) (Ev.now _)
    rw [colophonref15_Check.l0, if_neg (by omega), List.drop_of_length_le (by omega), checkGo]
    split <;> rfl
  | n + 1, i, o, o0, o1, h => by
    have h1 : i < l.length := by omega
    rw [List.drop_eq_getElem_cons h1, checkGo]
    have hm := refone_ev l[i] (hg _ (List.getElem_mem h1))
    have w1 : wrap64 (o + 1) = o + 1 := by unfold wrap64; omega
    have w2 : wrap64 (o - 1) = o - 1 := by unfold wrap64; omega
    refine Ev.step (f := fun k => (colophonref15_one.f k l[i].f0 l[i].f1 l[i].f2 l[i].f3 l[i].f4 l[i].f5 l[i].f6.f0 l[i].f6.f1 l[i].f6.f2 l[i].f6.f3).bind fun t => if t = true then (if l[i].f0 = 3 then colophonref15_Check.j1 k l (o + 1) (i : Int) else colophonref15_Check.j1 k l o (i : Int)) else some 150) (fun k => ?_) ?_
    · rw [colophonref15_Check.l0, if_pos (by omega), if_pos (by omega), rd_T50_nat h1, w1]
    · refine Ev.bind hm (ev_ift ?_)
      have hq : ∀ z : Int, Ev (fun k => if z < 0 then some 150 else if z > 32 then some 150 else colophonref15_Check.l0 k l z ((i + 1 : Nat) : Int)) (if z < 0 then 150 else if z > 32 then 150 else checkGo z (l.drop (i + 1))) := fun z => ev_if3 fun c1 c2 => refcheck_l0 l hb hg n (i + 1) z (by omega) (by omega) (by omega)
      have hj : ∀ q : Int, 0 ≤ q → q ≤ 33 → (l[i].f0 = 4 → q = o) → Ev (fun k => colophonref15_Check.j1 k l q (i : Int)) (if (if l[i].f0 = 4 then q - 1 else q) < 0 then 150 else if (if l[i].f0 = 4 then q - 1 else q) > 32 then 150 else checkGo (if l[i].f0 = 4 then q - 1 else q) (l.drop (i + 1))) := by
        intro q q0 q1 q2
        have w3 : wrap64 (q - 1) = q - 1 := by unfold wrap64; omega
        refine Ev.step (f := fun k => if (if l[i].f0 = 4 then q - 1 else q) < 0 then some 150 else if (if l[i].f0 = 4 then q - 1 else q) > 32 then some 150 else colophonref15_Check.l0 k l (if l[i].f0 = 4 then q - 1 else q) ((i + 1 : Nat) : Int)) (fun k => ?_) (hq _)
        rw [colophonref15_Check.j1, if_pos (by omega), if_pos (by omega), rd_T50_nat h1, w3, wrap_nat (by omega)]
        by_cases h4 : l[i].f0 = 4
        · simp only [if_pos h4]
        · simp only [if_neg h4]
      unfold nest
      by_cases h3 : l[i].f0 = 3
      · simp only [if_pos h3]
        have := hj (o + 1) (by omega) (by omega) (by omega)
        simpa only [show ¬ l[i].f0 = 4 from by omega, if_false] using this
      · simp only [if_neg h3]
        exact hj o o0 (by omega) (fun _ => rfl)
theorem refcheck_ev (l : List S50) (hg : ∀ m ∈ l, m.f5.length < 1000000000) : Ev (fun k => colophonref15_Check.f k l) (checkN l) := by
  unfold colophonref15_Check.f checkN
  by_cases h : (l.length : Int) > 8192
  · simp only [if_pos h]; exact Ev.now _
  · simp only [if_neg h]
    exact refcheck_l0 l (by omega) hg l.length 0 0 (by omega) (by omega) (by omega)
theorem checkGo_zero : ∀ (l : List S50) (o : Int), checkGo o l = 0 → ∀ m ∈ l, mayB m = true
  | [], o, h, m, hm => by simp at hm
  | x :: t, o, h, m, hm => by
    rw [checkGo] at h
    by_cases hx : mayB x = true
    · rw [if_pos hx] at h
      rcases List.mem_cons.1 hm with rfl | hm
      · exact hx
      · by_cases c1 : nest o x < 0
        · rw [if_pos c1] at h; omega
        · rw [if_neg c1] at h
          by_cases c2 : nest o x > 32
          · rw [if_pos c2] at h; omega
          · rw [if_neg c2] at h
            exact checkGo_zero t _ h m hm
    · rw [if_neg hx] at h; omega
theorem checkGo_vals : ∀ (l : List S50) (o : Int), checkGo o l = 0 ∨ checkGo o l = 150
  | [], o => by rw [checkGo]; split <;> simp
  | x :: t, o => by
    rw [checkGo]
    repeat' split
    all_goals first | simp | exact checkGo_vals t _
theorem checkN_vals (l : List S50) : checkN l = 0 ∨ checkN l = 150 := by
  unfold checkN
  split
  · simp
  · exact checkGo_vals l 0
theorem checkN_zero {l : List S50} (h : checkN l = 0) : l.length ≤ 8192 ∧ ∀ m ∈ l, mayB m = true := by
  unfold checkN at h
  by_cases hl : (l.length : Int) > 8192
  · rw [if_pos hl] at h; omega
  · rw [if_neg hl] at h
    exact ⟨by omega, checkGo_zero l 0 h⟩
end Go.Proofs.YtekifiblehmafaaDoor.Y
end
section
set_option linter.unusedVariables false
set_option linter.unusedSimpArgs false
namespace Go.Proofs.YtekifiblehmafaaDoor.Y
open Go.RowKit Go.Proofs.YtekifiblehmafaaDoor.X Go.Proofs.YtekifiblehmafaaDoorW.PrintWords
theorem same_calls (m q : S50) (A B : Option Addr) (c d : Nat) (w : World) (h : m.f5.length < 1000000000) (hr0 : Kd.C (Kd.int .i64) w A m.f5.length m.f5) (hc0 : m.f5.length ≤ c) (hr1 : Kd.C (Kd.int .i64) w B q.f5.length q.f5) (hc1 : q.f5.length ≤ d) :
    Calls Tryd.prog 42 #[.agg #[.int .i64 m.f0, .int .i64 m.f1, .int .i64 m.f2, .int .i64 m.f3, .int .i64 m.f4, .slice A m.f5.length c, .int .i64 m.f6.f0, .int .i64 m.f6.f1, .int .i64 m.f6.f2, .int .i64 m.f6.f3], .agg #[.int .i64 q.f0, .int .i64 q.f1, .int .i64 q.f2, .int .i64 q.f3, .int .i64 q.f4, .slice B q.f5.length d, .int .i64 q.f6.f0, .int .i64 q.f6.f1, .int .i64 q.f6.f2, .int .i64 q.f6.f3]] w fun e w' => e = .returned (.bool (sameB m q)) ∧ Below w.heap.size w w' := by
  obtain ⟨k, hk⟩ := (same_ev m.f0 m.f1 m.f2 m.f3 m.f4 m.f5 m.f6.f0 m.f6.f1 m.f6.f2 m.f6.f3 q.f0 q.f1 q.f2 q.f3 q.f4 q.f5 q.f6.f0 q.f6.f1 q.f6.f2 q.f6.f3 h).rounds
  exact emit_same.calls k _ _ _ _ _ A c m.f5 _ _ _ _ _ _ _ _ _ B d q.f5 _ _ _ _ _ w hr0 hc0 hr1 hc1 hk
def alike : List S50 → List S50 → Bool
  | [], [] => true
  | a :: s, b :: t => sameB a b && alike s t
  | _, _ => false
theorem alike_len : ∀ (a b : List S50), a.length ≠ b.length → alike a b = false
  | [], [], h => absurd rfl h
  | [], _ :: _, _ => rfl
  | _ :: _, [], _ => rfl
  | x :: s, y :: t, h => by
    rw [alike, alike_len s t (fun e => h (by simp [e]))]
    simp
theorem alike_refl : ∀ a : List S50, alike a a = true
  | [] => rfl
  | x :: s => by rw [alike, sameB_refl, alike_refl s]; rfl
set_option maxHeartbeats 8000000 in
set_option maxRecDepth 100000 in
theorem equal_walk (A B : Option Addr) (c d : Nat) (a b : List S50) (w : World) (hr : Kd.C k50 w A a.length a) (hr2 : Kd.C k50 w B b.length b) (hg : ∀ m ∈ a, m.f5.length < 1000000000) (hN : a.length < 1000000000) :
    Calls Tryd.prog 41 #[.slice A a.length c, .slice B b.length d, .func (.func 42) #[] #[]] w fun e w' => e = .returned (.bool (alike a b)) ∧ Below w.heap.size w w' := by
  have HR := Aside0.mk hr
  have HS := Aside0.mk hr2
  have HG := Aside0.mk hg
  have HN := Aside0.mk hN
  clear hr hr2 hg hN
  by_cases hl : a.length = b.length
  · have hl1 : ((a.length : Int) != (b.length : Int)) = false := by simp [hl]
    have HL := Aside0.mk hl
    clear hl
    go_enter Tryd.func41, Tryd.ntmps41
    go_wp2
    go_loopw [17] (fun iv wr => ∃ i : Nat, i ≤ a.length ∧ iv = .int .i64 i ∧ Aside0 (Below w.heap.size w wr) ∧ Aside0 (alike (a.drop i) (b.drop i) = alike a b)) (fun iv _ => a.length - (intOf iv).toNat)
    case atStart => exact ⟨0, by omega, rfl, ⟨Below.refl _ _⟩, ⟨rfl⟩⟩
    case round =>
      obtain ⟨i, hi, rfl, HB, HE⟩ := hrel
      by_cases hlt : i < a.length
      · have hlt2 : i < b.length := by have := HL.out; omega
        obtain ⟨ad, A5, c5, e5, hx0, hx1, hx2, hx3, hx4, hx5, hx6, hx7, hx8, hx9, hl5, hi5⟩ := at_T50 HR.out (i : Int) (by omega) (by omega)
        obtain ⟨bd, B5, d5, e6, hy0, hy1, hy2, hy3, hy4, hy5, hy6, hy7, hy8, hy9, hm5, hj5⟩ := at_T50 HS.out (i : Int) (by omega) (by omega)
        cases e5
        cases e6
        have hb := HB.out
        replace hx0 := (hb.cell (World.block_lt_of_cell? w _ hx0)).trans hx0
        replace hx1 := (hb.cell (World.block_lt_of_cell? w _ hx1)).trans hx1
        replace hx2 := (hb.cell (World.block_lt_of_cell? w _ hx2)).trans hx2
        replace hx3 := (hb.cell (World.block_lt_of_cell? w _ hx3)).trans hx3
        replace hx4 := (hb.cell (World.block_lt_of_cell? w _ hx4)).trans hx4
        replace hx5 := (hb.cell (World.block_lt_of_cell? w _ hx5)).trans hx5
        replace hx6 := (hb.cell (World.block_lt_of_cell? w _ hx6)).trans hx6
        replace hx7 := (hb.cell (World.block_lt_of_cell? w _ hx7)).trans hx7
        replace hx8 := (hb.cell (World.block_lt_of_cell? w _ hx8)).trans hx8
        replace hx9 := (hb.cell (World.block_lt_of_cell? w _ hx9)).trans hx9
        replace hy0 := (hb.cell (World.block_lt_of_cell? w _ hy0)).trans hy0
        replace hy1 := (hb.cell (World.block_lt_of_cell? w _ hy1)).trans hy1
        replace hy2 := (hb.cell (World.block_lt_of_cell? w _ hy2)).trans hy2
        replace hy3 := (hb.cell (World.block_lt_of_cell? w _ hy3)).trans hy3
        replace hy4 := (hb.cell (World.block_lt_of_cell? w _ hy4)).trans hy4
        replace hy5 := (hb.cell (World.block_lt_of_cell? w _ hy5)).trans hy5
        replace hy6 := (hb.cell (World.block_lt_of_cell? w _ hy6)).trans hy6
        replace hy7 := (hb.cell (World.block_lt_of_cell? w _ hy7)).trans hy7
        replace hy8 := (hb.cell (World.block_lt_of_cell? w _ hy8)).trans hy8
        replace hy9 := (hb.cell (World.block_lt_of_cell? w _ hy9)).trans hy9
        have HL5 := Aside0.mk hl5
        have HI5 := Aside0.mk hi5
        have HM5 := Aside0.mk hm5
        have HJ5 := Aside0.mk hj5
        rw [rd_T50_nat hlt] at hx0 hx1 hx2 hx3 hx4 hx5 hx6 hx7 hx8 hx9 HL5 HI5
        rw [rd_T50_nat hlt2] at hy0 hy1 hy2 hy3 hy4 hy5 hy6 hy7 hy8 hy9 HM5 HJ5
        have HGm := Aside0.mk (HG.out a[i] (List.getElem_mem hlt))
        have HT : Aside0 (alike (a.drop i) (b.drop i) = (sameB a[i] b[i] && alike (a.drop (i + 1)) (b.drop (i + 1)))) := ⟨by
          rw [List.drop_eq_getElem_cons hlt, List.drop_eq_getElem_cons hlt2, alike]⟩
        clear hl5 hi5 hm5 hj5 hb
        generalize a[i] = m at hx0 hx1 hx2 hx3 hx4 hx5 hx6 hx7 hx8 hx9 HL5 HI5 HGm HT
        generalize b[i] = q at hy0 hy1 hy2 hy3 hy4 hy5 hy6 hy7 hy8 hy9 HM5 HJ5 HT
        simp only [Int.toNat_natCast] at hx0 hx1 hx2 hx3 hx4 hx5 hx6 hx7 hx8 hx9 hy0 hy1 hy2 hy3 hy4 hy5 hy6 hy7 hy8 hy9
        have hlb : (i : Int) < (b.length : Int) := by omega
        have hlb2 : (0 : Int) ≤ (i : Int) := by omega
        replace hy0 := ((Below.alloc (Below.refl wr.heap.size wr) (Nat.le_refl _) (.cells #[.int .i64 m.f0, .int .i64 m.f1, .int .i64 m.f2, .int .i64 m.f3, .int .i64 m.f4, .slice A5 m.f5.length c5, .int .i64 m.f6.f0, .int .i64 m.f6.f1, .int .i64 m.f6.f2, .int .i64 m.f6.f3] 50)).cell (World.block_lt_of_cell? wr _ hy0)).trans hy0
        replace hy1 := ((Below.alloc (Below.refl wr.heap.size wr) (Nat.le_refl _) (.cells #[.int .i64 m.f0, .int .i64 m.f1, .int .i64 m.f2, .int .i64 m.f3, .int .i64 m.f4, .slice A5 m.f5.length c5, .int .i64 m.f6.f0, .int .i64 m.f6.f1, .int .i64 m.f6.f2, .int .i64 m.f6.f3] 50)).cell (World.block_lt_of_cell? wr _ hy1)).trans hy1
        replace hy2 := ((Below.alloc (Below.refl wr.heap.size wr) (Nat.le_refl _) (.cells #[.int .i64 m.f0, .int .i64 m.f1, .int .i64 m.f2, .int .i64 m.f3, .int .i64 m.f4, .slice A5 m.f5.length c5, .int .i64 m.f6.f0, .int .i64 m.f6.f1, .int .i64 m.f6.f2, .int .i64 m.f6.f3] 50)).cell (World.block_lt_of_cell? wr _ hy2)).trans hy2
        replace hy3 := ((Below.alloc (Below.refl wr.heap.size wr) (Nat.le_refl _) (.cells #[.int .i64 m.f0, .int .i64 m.f1, .int .i64 m.f2, .int .i64 m.f3, .int .i64 m.f4, .slice A5 m.f5.length c5, .int .i64 m.f6.f0, .int .i64 m.f6.f1, .int .i64 m.f6.f2, .int .i64 m.f6.f3] 50)).cell (World.block_lt_of_cell? wr _ hy3)).trans hy3
        replace hy4 := ((Below.alloc (Below.refl wr.heap.size wr) (Nat.le_refl _) (.cells #[.int .i64 m.f0, .int .i64 m.f1, .int .i64 m.f2, .int .i64 m.f3, .int .i64 m.f4, .slice A5 m.f5.length c5, .int .i64 m.f6.f0, .int .i64 m.f6.f1, .int .i64 m.f6.f2, .int .i64 m.f6.f3] 50)).cell (World.block_lt_of_cell? wr _ hy4)).trans hy4
        replace hy5 := ((Below.alloc (Below.refl wr.heap.size wr) (Nat.le_refl _) (.cells #[.int .i64 m.f0, .int .i64 m.f1, .int .i64 m.f2, .int .i64 m.f3, .int .i64 m.f4, .slice A5 m.f5.length c5, .int .i64 m.f6.f0, .int .i64 m.f6.f1, .int .i64 m.f6.f2, .int .i64 m.f6.f3] 50)).cell (World.block_lt_of_cell? wr _ hy5)).trans hy5
        replace hy6 := ((Below.alloc (Below.refl wr.heap.size wr) (Nat.le_refl _) (.cells #[.int .i64 m.f0, .int .i64 m.f1, .int .i64 m.f2, .int .i64 m.f3, .int .i64 m.f4, .slice A5 m.f5.length c5, .int .i64 m.f6.f0, .int .i64 m.f6.f1, .int .i64 m.f6.f2, .int .i64 m.f6.f3] 50)).cell (World.block_lt_of_cell? wr _ hy6)).trans hy6
        replace hy7 := ((Below.alloc (Below.refl wr.heap.size wr) (Nat.le_refl _) (.cells #[.int .i64 m.f0, .int .i64 m.f1, .int .i64 m.f2, .int .i64 m.f3, .int .i64 m.f4, .slice A5 m.f5.length c5, .int .i64 m.f6.f0, .int .i64 m.f6.f1, .int .i64 m.f6.f2, .int .i64 m.f6.f3] 50)).cell (World.block_lt_of_cell? wr _ hy7)).trans hy7
        replace hy8 := ((Below.alloc (Below.refl wr.heap.size wr) (Nat.le_refl _) (.cells #[.int .i64 m.f0, .int .i64 m.f1, .int .i64 m.f2, .int .i64 m.f3, .int .i64 m.f4, .slice A5 m.f5.length c5, .int .i64 m.f6.f0, .int .i64 m.f6.f1, .int .i64 m.f6.f2, .int .i64 m.f6.f3] 50)).cell (World.block_lt_of_cell? wr _ hy8)).trans hy8
        replace hy9 := ((Below.alloc (Below.refl wr.heap.size wr) (Nat.le_refl _) (.cells #[.int .i64 m.f0, .int .i64 m.f1, .int .i64 m.f2, .int .i64 m.f3, .int .i64 m.f4, .slice A5 m.f5.length c5, .int .i64 m.f6.f0, .int .i64 m.f6.f1, .int .i64 m.f6.f2, .int .i64 m.f6.f3] 50)).cell (World.block_lt_of_cell? wr _ hy9)).trans hy9
        have HW1 : Aside0 (wrap64 ((i : Int) + 1) = ((i + 1 : Nat) : Int)) := ⟨wrap_nat (by have := HN.out; omega)⟩
        have HLT := Aside0.mk hlt
        have HB2 : Aside0 (Below w.heap.size w ((wr.alloc (.cells #[.int .i64 m.f0, .int .i64 m.f1, .int .i64 m.f2, .int .i64 m.f3, .int .i64 m.f4, .slice A5 m.f5.length c5, .int .i64 m.f6.f0, .int .i64 m.f6.f1, .int .i64 m.f6.f2, .int .i64 m.f6.f3] 50)).alloc (.cells #[.int .i64 q.f0, .int .i64 q.f1, .int .i64 q.f2, .int .i64 q.f3, .int .i64 q.f4, .slice B5 q.f5.length d5, .int .i64 q.f6.f0, .int .i64 q.f6.f1, .int .i64 q.f6.f2, .int .i64 q.f6.f3] 50))) := ⟨(HB.out.alloc HB.out.size _).alloc (by have := HB.out.size; simp; omega) _⟩
        have HQ1 := Aside0.mk (blk_alloc (blk_new wr (.cells #[.int .i64 m.f0, .int .i64 m.f1, .int .i64 m.f2, .int .i64 m.f3, .int .i64 m.f4, .slice A5 m.f5.length c5, .int .i64 m.f6.f0, .int .i64 m.f6.f1, .int .i64 m.f6.f2, .int .i64 m.f6.f3] 50)) (.cells #[.int .i64 q.f0, .int .i64 q.f1, .int .i64 q.f2, .int .i64 q.f3, .int .i64 q.f4, .slice B5 q.f5.length d5, .int .i64 q.f6.f0, .int .i64 q.f6.f1, .int .i64 q.f6.f2, .int .i64 q.f6.f3] 50))
        have p0 := blk_cell HQ1.out 0
        have p1 := blk_cell HQ1.out 1
        have p2 := blk_cell HQ1.out 2
        have p3 := blk_cell HQ1.out 3
        have p4 := blk_cell HQ1.out 4
        have p5 := blk_cell HQ1.out 5
        have p6 := blk_cell HQ1.out 6
        have p7 := blk_cell HQ1.out 7
        have p8 := blk_cell HQ1.out 8
        have p9 := blk_cell HQ1.out 9
        simp only [List.getElem?_toArray, List.getElem?_cons_zero, List.getElem?_cons_succ] at p0 p1 p2 p3 p4 p5 p6 p7 p8 p9
        by_cases hs : sameB m q = true
        · have HSm := Aside0.mk hs
          clear hs
          go_wp2_with (first | (go_at_call 42; refine ((same_calls m q A5 B5 c5 d5 _ HGm.out (Kd.C_below HI5.out HB2.out) HL5.out (Kd.C_below HJ5.out HB2.out) HM5.out).mono (fun e w' h => (⟨by rw [h.1, HSm.out], h.2⟩ : e = .returned (.bool true) ∧ _))).mono ?_; rintro e w4 ⟨rfl, hb4⟩))
          go_roundw
          case rel => exact ⟨i + 1, by have := HLT.out; omega, by rw [HW1.out], ⟨HB2.out.trans (hb4.mono HB2.out.size)⟩, ⟨by rw [← HE.out, HT.out, HSm.out, Bool.true_and]⟩⟩
          case measure => have := HLT.out; rw [HW1.out]; simp only [intOf]; omega
        · have HSm := Aside0.mk (by simpa using hs : sameB m q = false)
          clear hs
          go_wp2_with (first | (go_at_call 42; refine ((same_calls m q A5 B5 c5 d5 _ HGm.out (Kd.C_below HI5.out HB2.out) HL5.out (Kd.C_below HJ5.out HB2.out) HM5.out).mono (fun e w' h => (⟨by rw [h.1, HSm.out], h.2⟩ : e = .returned (.bool false) ∧ _))).mono ?_; rintro e w4 ⟨rfl, hb4⟩))
          go_ret
          exact ⟨by rw [← HE.out, HT.out, HSm.out, Bool.false_and]; rfl, HB2.out.trans (hb4.mono HB2.out.size)⟩
      · have hie : i = a.length := by omega
        subst hie
        have he := HE.out
        rw [List.drop_of_length_le (Nat.le_refl _), List.drop_of_length_le (by have := HL.out; omega)] at he
        have HE2 := Aside0.mk he
        clear he
        go_wp2
        go_ret
        exact ⟨by rw [← HE2.out]; rfl, HB.out⟩
  · have hl1 : ((a.length : Int) != (b.length : Int)) = true := by simp; omega
    have HL := Aside0.mk hl
    clear hl
    go_enter Tryd.func41, Tryd.ntmps41
    go_wp2
    go_ret
    exact ⟨by rw [alike_len a b HL.out]; rfl, Below.refl _ _⟩
set_option maxHeartbeats 8000000 in
theorem same_all (A B : Option Addr) (c d : Nat) (a b : List S50) (w : World) (hr : Kd.C k50 w A a.length a) (hr2 : Kd.C k50 w B b.length b) (hg : ∀ m ∈ a, m.f5.length < 1000000000) (hN : a.length < 1000000000) :
    Calls Tryd.prog 20 #[.slice A a.length c, .slice B b.length d] w fun e w' => e = .returned (.bool (alike a b)) ∧ Below w.heap.size w w' := by
  have H := Aside0.mk (equal_walk A B c d a b w hr hr2 hg hN)
  clear hr hr2 hg hN
  go_enter Tryd.func20, Tryd.ntmps20
  go_wp2_with (first | (go_at_call 41; refine H.out.mono ?_; rintro e w4 ⟨rfl, hb4⟩))
  go_ret
  exact ⟨rfl, hb4⟩
end Go.Proofs.YtekifiblehmafaaDoor.Y
end
section
set_option linter.unusedVariables false
set_option linter.unusedSimpArgs false
namespace Go.Proofs.YtekifiblehmafaaDoor.Y
open Go.RowKit Go.Proofs.YtekifiblehmafaaDoor.X Go.Proofs.YtekifiblehmafaaDoorW.PrintWords
def bigOk (l : List S50) : Bool := l.all fun m => decide (m.f5.length ≤ 100000)
theorem bigOk_of {l : List S50} (h : bigOk l = true) : ∀ m ∈ l, m.f5.length ≤ 100000 := by simpa [bigOk] using h
def emitOut (l : List S50) : ByteArray × Int :=
  if checkN l = 0 then (if (allLines l).length ≤ 1048576 then (bs (allLines l), 0) else (bs [], 2)) else (bs [], 150)
theorem good_of (m : S50) (h : mayB m = true) (hb : m.f5.length ≤ 100000) : Good m := by
  unfold mayB at h
  by_cases h1 : m.f0 = 1
  · rw [if_pos h1] at h
    simp only [restB, Bool.and_eq_true, decide_eq_true_eq, List.all_eq_true] at h
    obtain ⟨ha, h2, h3, h4, _⟩ := h
    refine ⟨by omega, by omega, fun _ => ⟨⟨h3, h4⟩, fun g hg => ?_, fun e => by rw [e] at h2; simp at h2, hb⟩⟩
    have := ha g hg
    simpa [inr] using this
  · rw [if_neg h1] at h
    by_cases h2 : m.f0 = 2 ∨ m.f0 = 3
    · exact ⟨by omega, by omega, fun e => absurd e h1⟩
    · rw [if_neg h2] at h
      by_cases h4 : m.f0 = 4
      · exact ⟨by omega, by omega, fun e => absurd e h1⟩
      · rw [if_neg h4] at h; cases h
theorem emitRes_out {l : List S50} (h : checkN l = 0) : emitRes l = .tuple #[.string (emitOut l).1, .int .i64 (emitOut l).2] := by
  unfold emitRes emitOut
  rw [if_pos h]
  split <;> rfl
theorem emitOut_no {l : List S50} (h : ¬ checkN l = 0) : emitOut l = (bs [], 150) := by rw [emitOut, if_neg h]
def emit_Emit.f (l0 : List S50) : Option (ByteArray × Int) := if bigOk l0 = true then some (emitOut l0) else none
theorem emit_Emit.calls (A0 : Option Addr) (c0 : Nat) (l0 : List S50) (r1 : ByteArray) (r2 : Int) (w : World) (hG : Aside0 (GW w)) (hr0 : Kd.C k50 w A0 l0.length l0) (hc0 : l0.length ≤ c0) (h : emit_Emit.f l0 = some (r1, r2)) :
    Calls Tryd.prog 15 #[.slice A0 l0.length c0] w fun e w' => e = .returned (.tuple #[.string r1, .int .i64 r2]) ∧ Below w.heap.size w w' := by
  unfold emit_Emit.f at h
  split at h
  · rename_i hb
    have hb := bigOk_of hb
    have ho := Option.some.inj h
    obtain ⟨k, hk⟩ := (check_ev l0 (fun m hm => by have := hb m hm; omega)).rounds
    by_cases hc : checkN l0 = 0
    · rw [hc] at hk
      obtain ⟨hn, hm⟩ := checkN_zero hc
      refine (emit_all k c0 A0 l0 w hG.out hr0 hc0 hk hn (fun m hq => good_of m (hm m hq) (hb m hq))).mono ?_
      rintro e w' ⟨he, hw⟩
      rw [emitRes_out hc, ho] at he
      exact ⟨he, hw⟩
    · have h15 := (checkN_vals l0).resolve_left hc
      rw [h15] at hk
      rw [emitOut_no hc] at ho
      refine (emit_no k c0 A0 l0 150 w hr0 hc0 hk (by omega)).mono ?_
      rintro e w' ⟨he, hw⟩
      have h1 := (Prod.mk.inj ho).1
      have h2 := (Prod.mk.inj ho).2
      rw [← h1, ← h2]
      exact ⟨he, hw⟩
  · cases h
set_option maxHeartbeats 8000000 in
set_option maxRecDepth 100000 in
theorem ref_no (k c : Nat) (A : Option Addr) (l : List S50) (r : Int) (w : World) (hr : Kd.C k50 w A l.length l) (hc : l.length ≤ c) (hck : colophonref15_Check.f k l = some r) (hn : r ≠ 0) :
    Calls Tryd.prog 16 #[.slice A l.length c] w fun e w' => e = .returned (.tuple #[.string ⟨#[]⟩, .int .i64 150]) ∧ Below w.heap.size w w' := by
  have HR := Aside0.mk hr
  have HC := Aside0.mk hc
  have HK := Aside0.mk hck
  have hb0 : (r != 0) = true := bne_iff_ne.mpr hn
  have hb1 : (r == 0) = false := beq_eq_false_iff_ne.mpr hn
  clear hr hc hck hn
  go_enter Tryd.func16, Tryd.ntmps16
  go_wp2_with (first
    | (go_at_call 19; refine (colophonref15_Check.calls k A c l r _ HR.out HC.out HK.out).mono ?_; rintro e w1 ⟨rfl, hb1⟩))
  go_ret2
  exact ⟨rfl, hb1⟩
def colophonref15_Emit.f (l0 : List S50) : Option (ByteArray × Int) := if bigOk l0 = true then some (emitOut l0) else none
theorem colophonref15_Emit.calls (A0 : Option Addr) (c0 : Nat) (l0 : List S50) (r1 : ByteArray) (r2 : Int) (w : World) (hr0 : Kd.C k50 w A0 l0.length l0) (hc0 : l0.length ≤ c0) (h : colophonref15_Emit.f l0 = some (r1, r2)) :
    Calls Tryd.prog 16 #[.slice A0 l0.length c0] w fun e w' => e = .returned (.tuple #[.string r1, .int .i64 r2]) ∧ Below w.heap.size w w' := by
  unfold colophonref15_Emit.f at h
  split at h
  · rename_i hb
    have hb := bigOk_of hb
    have ho := Option.some.inj h
    obtain ⟨k, hk⟩ := (refcheck_ev l0 (fun m hm => by have := hb m hm; omega)).rounds
    by_cases hc : checkN l0 = 0
    · rw [hc] at hk
      obtain ⟨hn, hm⟩ := checkN_zero hc
      refine (ref_walk k c0 A0 l0 w hr0 hc0 hk hn (fun m hq => good_of m (hm m hq) (hb m hq))).mono ?_
      rintro e w' ⟨he, hw⟩
      rw [emitRes_out hc, ho] at he
      exact ⟨he, hw⟩
    · rw [emitOut_no hc] at ho
      refine (ref_no k c0 A0 l0 (checkN l0) w hr0 hc0 hk hc).mono ?_
      rintro e w' ⟨he, hw⟩
      have h1 := (Prod.mk.inj ho).1
      have h2 := (Prod.mk.inj ho).2
      rw [← h1, ← h2]
      exact ⟨he, hw⟩
  · cases h
def smallOk (l : List S50) : Bool := decide (l.length < 1000000000) && l.all fun m => decide (m.f5.length < 1000000000)
def emit_Same.f (l0 l1 : List S50) : Option Bool := if smallOk l0 = true then some (alike l0 l1) else none
theorem emit_Same.calls (A0 : Option Addr) (c0 : Nat) (l0 : List S50) (A1 : Option Addr) (c1 : Nat) (l1 : List S50) (r : Bool) (w : World) (hr0 : Kd.C k50 w A0 l0.length l0) (hc0 : l0.length ≤ c0) (hr1 : Kd.C k50 w A1 l1.length l1) (hc1 : l1.length ≤ c1) (h : emit_Same.f l0 l1 = some r) :
    Calls Tryd.prog 20 #[.slice A0 l0.length c0, .slice A1 l1.length c1] w fun e w' => e = .returned (.bool r) ∧ Below w.heap.size w w' := by
  unfold emit_Same.f at h
  split at h
  · rename_i hs
    obtain rfl := Option.some.inj h
    simp only [smallOk, Bool.and_eq_true, decide_eq_true_eq, List.all_eq_true] at hs
    exact same_all A0 A1 c0 c1 l0 l1 w hr0 hr1 hs.2 hs.1
  · cases h
end Go.Proofs.YtekifiblehmafaaDoor.Y
end
