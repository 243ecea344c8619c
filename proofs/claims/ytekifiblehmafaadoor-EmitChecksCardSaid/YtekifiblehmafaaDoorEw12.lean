/- Part 12 of a proof: what it needs of the program's functions as plain Lean functions, with the proof that the machine's calls come to them, and of plain laws; put together out of smaller texts. No conditions besides those that each statement names. -/
import Derived.Laws.IdiomStrings
import Derived.Test.YtekifiblehmafaaDoorEw11
import Derived.Test.YtekifiblehmafaaDoorEw2
import Derived.Test.YtekifiblehmafaaDoorEw9
section
namespace Go.Proofs.YtekifiblehmafaaDoor.X
end Go.Proofs.YtekifiblehmafaaDoor.X
namespace Go.Proofs.YtekifiblehmafaaDoor.Y
open Go.RowKit Go.Proofs.YtekifiblehmafaaDoor.X Go.Proofs.YtekifiblehmafaaDoorW.PrintWords Go.Proofs.YtekifiblehmafaaDoorW.PrintLast Go.Proofs.YtekifiblehmafaaDoorW.PrintMore
attribute [local go_sem] max2_int min2_int max_two min_two max_three min_three max_four min_four   -- for this text's walks alone
set_option linter.unusedVariables false
set_option linter.unusedSimpArgs false
mutual
def colophonref15_Check.l0 : Nat → List (S50) → Int → Int → Option (Int)
  | 0, _, _, _ => none
  | k + 1, x0, x3, x4 => if x4 < (x0.length : Int) then (if 0 ≤ x4 then ((colophonref15_one.f k ((rd_T50 x0 x4).f0) ((rd_T50 x0 x4).f1) ((rd_T50 x0 x4).f2) ((rd_T50 x0 x4).f3) ((rd_T50 x0 x4).f4) ((rd_T50 x0 x4).f5) ((rd_T50 x0 x4).f6.f0) ((rd_T50 x0 x4).f6.f1) ((rd_T50 x0 x4).f6.f2) ((rd_T50 x0 x4).f6.f3)).bind fun t182 => (if t182 = true then (if ((rd_T50 x0 x4).f0) = 3 then (colophonref15_Check.j1 k x0 (wrap64 (x3 + 1)) x4) else (colophonref15_Check.j1 k x0 x3 x4)) else (some 150))) else (none)) else (if x3 = 0 then (some 0) else (some 150))
def colophonref15_Check.j1 : Nat → List (S50) → Int → Int → Option (Int)
  | 0, _, _, _ => none
  | k + 1, x0, x3, x4 => if 0 ≤ x4 then (if x4 < (x0.length : Int) then (if ((rd_T50 x0 x4).f0) = 4 then (if (wrap64 (x3 - 1)) < 0 then (some 150) else (if (wrap64 (x3 - 1)) > 32 then (some 150) else (colophonref15_Check.l0 k x0 (wrap64 (x3 - 1)) (wrap64 (x4 + 1))))) else (if x3 < 0 then (some 150) else (if x3 > 32 then (some 150) else (colophonref15_Check.l0 k x0 x3 (wrap64 (x4 + 1)))))) else (none)) else (none)
end
def colophonref15_Check.f (k : Nat) (l0 : List (S50)) : Option (Int) := if (l0.length : Int) > 8192 then (some 150) else (colophonref15_Check.l0 k l0 0 0)
theorem colophonref15_Check.mono_l : ∀ k, (∀ y0 y1 y2, LeO (colophonref15_Check.l0 k y0 y1 y2) (colophonref15_Check.l0 (k + 1) y0 y1 y2)) ∧ (∀ y0 y1 y2, LeO (colophonref15_Check.j1 k y0 y1 y2) (colophonref15_Check.j1 (k + 1) y0 y1 y2))
  | 0 => ⟨fun _ _ _ r h => by simp [colophonref15_Check.l0] at h, fun _ _ _ r h => by simp [colophonref15_Check.j1] at h⟩
  | k + 1 => by
    obtain ⟨ih0, ih1⟩ := colophonref15_Check.mono_l k
    refine ⟨?_, ?_⟩
    · intro y0 y1 y2
      unfold colophonref15_Check.l0
      repeat' first
      | (with_reducible exact ih0 _ _ _)
      | (with_reducible exact ih1 _ _ _)
      | (with_reducible exact colophonref15_one.mono _ _ _ _ _ _ _ _ _ _ _)
      | (with_reducible exact LeO.refl _)
      | (with_reducible exact LeO.none _)
      | (with_reducible refine LeO.ite ?_ ?_)
      | (with_reducible refine LeO.bind ?_ (fun _ => ?_))
      | exact ih0 _ _ _
      | exact ih1 _ _ _
      | exact colophonref15_one.mono _ _ _ _ _ _ _ _ _ _ _
      | exact LeO.none _
      | refine LeO.ite ?_ ?_
      | refine LeO.bind ?_ (fun _ => ?_)
    · intro y0 y1 y2
      unfold colophonref15_Check.j1
      repeat' first
      | (with_reducible exact ih0 _ _ _)
      | (with_reducible exact ih1 _ _ _)
      | (with_reducible exact colophonref15_one.mono _ _ _ _ _ _ _ _ _ _ _)
      | (with_reducible exact LeO.refl _)
      | (with_reducible exact LeO.none _)
      | (with_reducible refine LeO.ite ?_ ?_)
      | (with_reducible refine LeO.bind ?_ (fun _ => ?_))
      | exact ih0 _ _ _
      | exact ih1 _ _ _
      | exact colophonref15_one.mono _ _ _ _ _ _ _ _ _ _ _
      | exact LeO.none _
      | refine LeO.ite ?_ ?_
      | refine LeO.bind ?_ (fun _ => ?_)
theorem colophonref15_Check.mono : ∀ a0 k, LeO (colophonref15_Check.f k a0) (colophonref15_Check.f (k + 1) a0) := by
  intro a0 k
  obtain ⟨ih0, ih1⟩ := colophonref15_Check.mono_l k
  unfold colophonref15_Check.f
  repeat' first
      | (with_reducible exact ih0 _ _ _)
      | (with_reducible exact ih1 _ _ _)
      | (with_reducible exact colophonref15_one.mono _ _ _ _ _ _ _ _ _ _ _)
      | (with_reducible exact LeO.refl _)
      | (with_reducible exact LeO.none _)
      | (with_reducible refine LeO.ite ?_ ?_)
      | (with_reducible refine LeO.bind ?_ (fun _ => ?_))
      | exact ih0 _ _ _
      | exact ih1 _ _ _
      | exact colophonref15_one.mono _ _ _ _ _ _ _ _ _ _ _
      | exact LeO.none _
      | refine LeO.ite ?_ ?_
      | refine LeO.bind ?_ (fun _ => ?_)
set_option maxHeartbeats 8000000 in
set_option maxRecDepth 100000 in
theorem colophonref15_Check.calls (k : Nat) (A0 : Option Addr) (c0 : Nat) (l0 : List (S50)) (r : Int) (w : World) (hr0 : Kd.C k50 w A0 l0.length l0) (hc0 : l0.length ≤ c0) (h : colophonref15_Check.f k l0 = some r) :
    Calls Tryd.prog 19 #[.slice A0 l0.length c0] w fun e w' => e = .returned (.int .i64 r) ∧ Below w.heap.size w w' := by
  have hu50 := Tryd.underlying50
  have HR0 := Aside0.mk hr0
  have HC0 := Aside0.mk hc0
  clear hr0 hc0
  have HB := Aside0.mk (Below.refl w.heap.size w)
  have H : (if (l0.length : Int) > 8192 then (some 150) else (colophonref15_Check.l0 k l0 0 0)) = some r := h
  clear h
  by_cases c2 : (l0.length : Int) > 8192
  · rw [if_pos c2] at H
    have c2b0 : decide (8192 < (l0.length : Int)) = true := decide_eq_true c2
    have c2b1 : decide (8192 < l0.length) = true := decide_eq_true (by omega)
    clear c2
    obtain rfl := Option.some.inj H
    go_enter Tryd.func19, Tryd.ntmps19
    go_wp2
    go_ret
    exact ⟨by first | rfl | (simp [errW_none, errW_some] <;> rfl) | (simp [*, errW_none, errW_some] <;> rfl), by repeat (first | (with_reducible first | exact HB.out | apply below_alloc | apply pw_below_drewN | apply below_drew1) | exact HB.out)⟩
  · rw [if_neg c2] at H
    have c2b0 : decide (8192 < (l0.length : Int)) = false := decide_eq_false c2
    have c2b1 : decide (8192 < l0.length) = false := decide_eq_false (by omega)
    clear c2
    have H' := Aside0.mk H
    clear H
    go_enter Tryd.func19, Tryd.ntmps19
    go_wp2
    go_loopg [3, 4] k (fun kq v3 v4 w' => ∃ (x3_1 : Int) (x4_1 : Int), v3 = .int .i64 x3_1 ∧ v4 = .int .i64 x4_1 ∧ Aside0 (colophonref15_Check.l0 kq l0 x3_1 x4_1 = some r) ∧ Aside0 (kq ≤ k) ∧ Aside0 (Below w.heap.size w w'))
    case atStart => exact ⟨(0), (0), (by first | rfl | (simp; done) | (simp [*]; done) | (simp [ne_nil_]; done)), (by first | rfl | (simp; done) | (simp [*]; done) | (simp [ne_nil_]; done)), H', ⟨Nat.le_refl _⟩, ⟨by repeat (first | (with_reducible first | exact HB.out | apply below_alloc | apply pw_below_drewN | apply below_drew1) | exact HB.out)⟩⟩
    case round =>
      clear H'
      try clear c1
      try clear c2
      try clear c2b0
      try clear c2b1
      try clear p2
      obtain ⟨x3_1, x4_1, rfl, rfl, HA, HK1, HB⟩ := hrel
      cases gk with
      | zero => exact absurd HA.out (by simp [colophonref15_Check.l0])
      | succ k1 =>
        have H := HA.out
        clear HA
        simp only [colophonref15_Check.l0] at H
        by_cases c3 : x4_1 < (l0.length : Int)
        · rw [if_pos c3] at H
          have c3b0 : decide (x4_1 < (l0.length : Int)) = true := decide_eq_true c3
          clear c3
          by_cases c4 : 0 ≤ x4_1
          · rw [if_pos c4] at H
            have c4b0 : decide (0 ≤ x4_1) = true := decide_eq_true c4
            clear c4
            replace H := Option.bind_eq_some_iff.mp H
            obtain ⟨t182, A50, H⟩ := H
            replace H : (if t182 = true then (if ((rd_T50 l0 x4_1).f0) = 3 then (colophonref15_Check.j1 k1 l0 (wrap64 (x3_1 + 1)) x4_1) else (colophonref15_Check.j1 k1 l0 x3_1 x4_1)) else (some 150)) = some r := H
            have A5 := Aside0.mk A50
            clear A50
            by_cases c6 : t182 = true
            · subst c6
              have H1 : (if ((rd_T50 l0 x4_1).f0) = 3 then (colophonref15_Check.j1 k1 l0 (wrap64 (x3_1 + 1)) x4_1) else (colophonref15_Check.j1 k1 l0 x3_1 x4_1)) = some r := by rw [if_pos rfl] at H; exact H
              clear H
              have H := H1
              clear H1
              have HC7 := Aside0.mk H
              clear H
              have p181 : 0 ≤ (x4_1 : Int) := of_decide_eq_true (by first | (with_reducible assumption) | assumption)
              have q181 : x4_1 < (l0.length : Int) := of_decide_eq_true (by first | (with_reducible assumption) | assumption)
              obtain ⟨ad181, A181_5, c181_5, e181, hx181_0, hx181_1, hx181_2, hx181_3, hx181_4, hx181_5, hx181_6, hx181_7, hx181_8, hx181_9, hl181_5, hi181_5⟩ := at_T50 HR0.out x4_1 p181 q181
              cases e181
              replace hx181_0 := (HB.out.cell (World.block_lt_of_cell? w _ hx181_0)).trans hx181_0
              replace hx181_1 := (HB.out.cell (World.block_lt_of_cell? w _ hx181_1)).trans hx181_1
              replace hx181_2 := (HB.out.cell (World.block_lt_of_cell? w _ hx181_2)).trans hx181_2
              replace hx181_3 := (HB.out.cell (World.block_lt_of_cell? w _ hx181_3)).trans hx181_3
              replace hx181_4 := (HB.out.cell (World.block_lt_of_cell? w _ hx181_4)).trans hx181_4
              replace hx181_5 := (HB.out.cell (World.block_lt_of_cell? w _ hx181_5)).trans hx181_5
              replace hx181_6 := (HB.out.cell (World.block_lt_of_cell? w _ hx181_6)).trans hx181_6
              replace hx181_7 := (HB.out.cell (World.block_lt_of_cell? w _ hx181_7)).trans hx181_7
              replace hx181_8 := (HB.out.cell (World.block_lt_of_cell? w _ hx181_8)).trans hx181_8
              replace hx181_9 := (HB.out.cell (World.block_lt_of_cell? w _ hx181_9)).trans hx181_9
              have HR181_5 := Aside0.mk hi181_5
              have HC181_5 := Aside0.mk hl181_5
              clear hi181_5 hl181_5
              replace p181 := eq_true p181
              replace q181 := eq_true q181
              go_upto_if 25 with (first | ((with_reducible refine gate_callee (f := 40) rfl ?_); refine goesL_ (some 18) rfl rfl Tryd.func40 (by kernel_rfl) rfl #[.agg #[.int .i64 ((rd_T50 l0 x4_1).f0), .int .i64 ((rd_T50 l0 x4_1).f1), .int .i64 ((rd_T50 l0 x4_1).f2), .int .i64 ((rd_T50 l0 x4_1).f3), .int .i64 ((rd_T50 l0 x4_1).f4), .slice A181_5 ((rd_T50 l0 x4_1).f5).length c181_5, .int .i64 ((rd_T50 l0 x4_1).f6.f0), .int .i64 ((rd_T50 l0 x4_1).f6.f1), .int .i64 ((rd_T50 l0 x4_1).f6.f2), .int .i64 ((rd_T50 l0 x4_1).f6.f3)]] rfl (by (try simp only [List.map_toArray, List.map_cons, List.map_nil]); first | done | rfl | (simp only [List.length_drop, List.length_take]; rfl) | (simp only [Array.mk.injEq, List.cons.injEq, Value.int.injEq, and_true, true_and]; (try unfold wrap64); omega)) ?_; (with_reducible refine (colophonref15_one.calls k1 ((rd_T50 l0 x4_1).f0) ((rd_T50 l0 x4_1).f1) ((rd_T50 l0 x4_1).f2) ((rd_T50 l0 x4_1).f3) ((rd_T50 l0 x4_1).f4) _ _ ((rd_T50 l0 x4_1).f5) ((rd_T50 l0 x4_1).f6.f0) ((rd_T50 l0 x4_1).f6.f1) ((rd_T50 l0 x4_1).f6.f2) ((rd_T50 l0 x4_1).f6.f3) true _ ?side1 ?side2 A5.out).mono ?_); (case side1 => repeat (first | exact (Kd.C_below HR181_5.out HB.out) | (with_reducible refine Kd.C_alloc ?_ _) | (with_reducible refine Kd.C_drewN ?_ _) | (with_reducible refine Kd.C_drew ?_))); (case side2 => exact HC181_5.out); rintro e w8 ⟨rfl, hb⟩; refine ⟨_, rfl, ?_⟩; have n0_ := Aside0.mk (below_step (by repeat (first | (with_reducible first | exact HB.out | apply below_alloc | apply pw_below_drewN | apply below_drew1) | exact HB.out)) hb); clear HB; have HB := n0_; clear n0_; (try clear hb); (try clear hb2); (try clear hk); (try clear hi); have p183 : 0 ≤ (x4_1 : Int) := of_decide_eq_true (by first | (with_reducible assumption) | assumption); have q183 : x4_1 < (l0.length : Int) := of_decide_eq_true (by first | (with_reducible assumption) | assumption); obtain ⟨ad183, A183_5, c183_5, e183, hx183_0, hx183_1, hx183_2, hx183_3, hx183_4, hx183_5, hx183_6, hx183_7, hx183_8, hx183_9, hl183_5, hi183_5⟩ := at_T50 HR0.out x4_1 p183 q183; obtain rfl : ad181 = ad183 := (by injection e183); replace hx183_0 := (HB.out.cell (World.block_lt_of_cell? w _ hx183_0)).trans hx183_0; replace hx183_1 := (HB.out.cell (World.block_lt_of_cell? w _ hx183_1)).trans hx183_1; replace hx183_2 := (HB.out.cell (World.block_lt_of_cell? w _ hx183_2)).trans hx183_2; replace hx183_3 := (HB.out.cell (World.block_lt_of_cell? w _ hx183_3)).trans hx183_3; replace hx183_4 := (HB.out.cell (World.block_lt_of_cell? w _ hx183_4)).trans hx183_4; replace hx183_5 := (HB.out.cell (World.block_lt_of_cell? w _ hx183_5)).trans hx183_5; replace hx183_6 := (HB.out.cell (World.block_lt_of_cell? w _ hx183_6)).trans hx183_6; replace hx183_7 := (HB.out.cell (World.block_lt_of_cell? w _ hx183_7)).trans hx183_7; replace hx183_8 := (HB.out.cell (World.block_lt_of_cell? w _ hx183_8)).trans hx183_8; replace hx183_9 := (HB.out.cell (World.block_lt_of_cell? w _ hx183_9)).trans hx183_9; have HR183_5 := Aside0.mk hi183_5; have HC183_5 := Aside0.mk hl183_5; clear hi183_5 hl183_5; replace p183 := eq_true p183; replace q183 := eq_true q183))
              (try simp only [Act.put, List.setIfInBounds_toArray, List.set_cons_zero, List.set_cons_succ])
              go_cut [3] (fun v3 wc => ∃ (kq : Nat) (x3_6 : Int), v3 = .int .i64 x3_6 ∧ Aside0 (colophonref15_Check.j1 kq l0 x3_6 x4_1 = some r) ∧ Aside0 (kq ≤ k1) ∧ Aside0 (Below w.heap.size w wc))
              case first =>
                have H := HC7.out
                clear HC7
                by_cases c9 : ((rd_T50 l0 x4_1).f0) = 3
                · rw [if_pos c9] at H
                  have c9b0 : (((rd_T50 l0 x4_1).f0) == 3) = true := beq_iff_eq.mpr c9
                  have c9b1 : (((rd_T50 l0 x4_1).f0) != 3) = false := bne_eq_false_iff_eq.mpr c9
                  clear c9
                  (first | rw [c9b0] | (simp only [i64_w, i32_w]; rw [c9b0]) | skip)
                  have H' := Aside0.mk H
                  clear H
                  go_wp2
                  go_meet
                  case rel => exact ⟨_, (wrap64 (x3_1 + 1)), (by first | rfl | (simp; done) | (simp [*]; done) | (simp [ne_nil_]; done)), H', ⟨by have := HK1.out; first | omega | exact Nat.le_refl _⟩, ⟨by repeat (first | (with_reducible first | exact HB.out | apply below_alloc | apply pw_below_drewN | apply below_drew1) | exact HB.out)⟩⟩
                · rw [if_neg c9] at H
                  have c9b0 : (((rd_T50 l0 x4_1).f0) == 3) = false := beq_eq_false_iff_ne.mpr c9
                  have c9b1 : (((rd_T50 l0 x4_1).f0) != 3) = true := bne_iff_ne.mpr c9
                  (first | rw [c9b0] | (simp only [i64_w, i32_w]; rw [c9b0]) | skip)
                  have H' := Aside0.mk H
                  clear H
                  go_wp2
                  go_meet
                  case rel => exact ⟨_, (x3_1), (by first | rfl | (simp; done) | (simp [*]; done) | (simp [ne_nil_]; done)), H', ⟨by have := HK1.out; first | omega | exact Nat.le_refl _⟩, ⟨by repeat (first | (with_reducible first | exact HB.out | apply below_alloc | apply pw_below_drewN | apply below_drew1) | exact HB.out)⟩⟩
              case rest =>
                clear HC7
                try clear c1
                try clear p1
                try clear q1
                try clear hx1
                try clear c2
                try clear c2b0
                try clear c2b1
                try clear p2
                try clear c3
                try clear c3b0
                try clear c4
                try clear c4b0
                try clear c6
                try clear p6
                try clear c9
                try clear c9b0
                try clear c9b1
                try clear hx181_0
                try clear hx181_1
                try clear hx181_2
                try clear hx181_3
                try clear hx181_4
                try clear hx181_5
                try clear hx181_6
                try clear hx181_7
                try clear hx181_8
                try clear hx181_9
                try clear hx183_0
                try clear hx183_1
                try clear hx183_2
                try clear hx183_3
                try clear hx183_4
                try clear hx183_5
                try clear hx183_6
                try clear hx183_7
                try clear hx183_8
                try clear hx183_9
                try clear p181
                try clear p183
                try clear p2
                try clear q181
                try clear q183
                obtain ⟨kq, x3_6, rfl, HA, HJ6, HB⟩ := hcut
                cases kq with
                | zero => exact absurd HA.out (by simp [colophonref15_Check.j1])
                | succ kj6 =>
                  have H := HA.out
                  clear HA
                  simp only [colophonref15_Check.j1] at H
                  by_cases c10 : 0 ≤ x4_1
                  · rw [if_pos c10] at H
                    have c10b0 : decide (0 ≤ x4_1) = true := decide_eq_true c10
                    clear c10
                    by_cases c11 : x4_1 < (l0.length : Int)
                    · rw [if_pos c11] at H
                      have c11b0 : decide (x4_1 < (l0.length : Int)) = true := decide_eq_true c11
                      clear c11
                      by_cases c12 : ((rd_T50 l0 x4_1).f0) = 4
                      · rw [if_pos c12] at H
                        have c12b0 : (((rd_T50 l0 x4_1).f0) == 4) = true := beq_iff_eq.mpr c12
                        have c12b1 : (((rd_T50 l0 x4_1).f0) != 4) = false := bne_eq_false_iff_eq.mpr c12
                        clear c12
                        by_cases c13 : (wrap64 (x3_6 - 1)) < 0
                        · rw [if_pos c13] at H
                          have c13b0 : decide ((wrap64 (x3_6 - 1)) < 0) = true := decide_eq_true c13
                          clear c13
                          obtain rfl := Option.some.inj H
                          have p184 : 0 ≤ (x4_1 : Int) := of_decide_eq_true (by first | (with_reducible assumption) | assumption)
                          have q184 : x4_1 < (l0.length : Int) := of_decide_eq_true (by first | (with_reducible assumption) | assumption)
                          obtain ⟨ad184, A184_5, c184_5, e184, hx184_0, hx184_1, hx184_2, hx184_3, hx184_4, hx184_5, hx184_6, hx184_7, hx184_8, hx184_9, hl184_5, hi184_5⟩ := at_T50 HR0.out x4_1 p184 q184
                          obtain rfl : ad181 = ad184 := (by injection e184)
                          replace hx184_0 := (HB.out.cell (World.block_lt_of_cell? w _ hx184_0)).trans hx184_0
                          replace hx184_1 := (HB.out.cell (World.block_lt_of_cell? w _ hx184_1)).trans hx184_1
                          replace hx184_2 := (HB.out.cell (World.block_lt_of_cell? w _ hx184_2)).trans hx184_2
                          replace hx184_3 := (HB.out.cell (World.block_lt_of_cell? w _ hx184_3)).trans hx184_3
                          replace hx184_4 := (HB.out.cell (World.block_lt_of_cell? w _ hx184_4)).trans hx184_4
                          replace hx184_5 := (HB.out.cell (World.block_lt_of_cell? w _ hx184_5)).trans hx184_5
                          replace hx184_6 := (HB.out.cell (World.block_lt_of_cell? w _ hx184_6)).trans hx184_6
                          replace hx184_7 := (HB.out.cell (World.block_lt_of_cell? w _ hx184_7)).trans hx184_7
                          replace hx184_8 := (HB.out.cell (World.block_lt_of_cell? w _ hx184_8)).trans hx184_8
                          replace hx184_9 := (HB.out.cell (World.block_lt_of_cell? w _ hx184_9)).trans hx184_9
                          have HR184_5 := Aside0.mk hi184_5
                          have HC184_5 := Aside0.mk hl184_5
                          clear hi184_5 hl184_5
                          replace p184 := eq_true p184
                          replace q184 := eq_true q184
                          go_wp2
                          go_ret
                          exact ⟨by first | rfl | (simp [errW_none, errW_some] <;> rfl) | (simp [*, errW_none, errW_some] <;> rfl), by repeat (first | (with_reducible first | exact HB.out | apply below_alloc | apply pw_below_drewN | apply below_drew1) | exact HB.out)⟩
                        · rw [if_neg c13] at H
                          have c13b0 : decide ((wrap64 (x3_6 - 1)) < 0) = false := decide_eq_false c13
                          clear c13
                          by_cases c14 : (wrap64 (x3_6 - 1)) > 32
                          · rw [if_pos c14] at H
                            have c14b0 : decide (32 < (wrap64 (x3_6 - 1))) = true := decide_eq_true c14
                            clear c14
                            obtain rfl := Option.some.inj H
                            have p184 : 0 ≤ (x4_1 : Int) := of_decide_eq_true (by first | (with_reducible assumption) | assumption)
                            have q184 : x4_1 < (l0.length : Int) := of_decide_eq_true (by first | (with_reducible assumption) | assumption)
                            obtain ⟨ad184, A184_5, c184_5, e184, hx184_0, hx184_1, hx184_2, hx184_3, hx184_4, hx184_5, hx184_6, hx184_7, hx184_8, hx184_9, hl184_5, hi184_5⟩ := at_T50 HR0.out x4_1 p184 q184
                            obtain rfl : ad181 = ad184 := (by injection e184)
                            replace hx184_0 := (HB.out.cell (World.block_lt_of_cell? w _ hx184_0)).trans hx184_0
                            replace hx184_1 := (HB.out.cell (World.block_lt_of_cell? w _ hx184_1)).trans hx184_1
                            replace hx184_2 := (HB.out.cell (World.block_lt_of_cell? w _ hx184_2)).trans hx184_2
                            replace hx184_3 := (HB.out.cell (World.block_lt_of_cell? w _ hx184_3)).trans hx184_3
                            replace hx184_4 := (HB.out.cell (World.block_lt_of_cell? w _ hx184_4)).trans hx184_4
                            replace hx184_5 := (HB.out.cell (World.block_lt_of_cell? w _ hx184_5)).trans hx184_5
                            replace hx184_6 := (HB.out.cell (World.block_lt_of_cell? w _ hx184_6)).trans hx184_6
                            replace hx184_7 := (HB.out.cell (World.block_lt_of_cell? w _ hx184_7)).trans hx184_7
                            replace hx184_8 := (HB.out.cell (World.block_lt_of_cell? w _ hx184_8)).trans hx184_8
                            replace hx184_9 := (HB.out.cell (World.block_lt_of_cell? w _ hx184_9)).trans hx184_9
                            have HR184_5 := Aside0.mk hi184_5
                            have HC184_5 := Aside0.mk hl184_5
                            clear hi184_5 hl184_5
                            replace p184 := eq_true p184
                            replace q184 := eq_true q184
                            go_wp2
                            go_ret
                            exact ⟨by first | rfl | (simp [errW_none, errW_some] <;> rfl) | (simp [*, errW_none, errW_some] <;> rfl), by repeat (first | (with_reducible first | exact HB.out | apply below_alloc | apply pw_below_drewN | apply below_drew1) | exact HB.out)⟩
                          · rw [if_neg c14] at H
                            have c14b0 : decide (32 < (wrap64 (x3_6 - 1))) = false := decide_eq_false c14
                            clear c14
                            have H' := Aside0.mk H
                            clear H
                            have p184 : 0 ≤ (x4_1 : Int) := of_decide_eq_true (by first | (with_reducible assumption) | assumption)
                            have q184 : x4_1 < (l0.length : Int) := of_decide_eq_true (by first | (with_reducible assumption) | assumption)
                            obtain ⟨ad184, A184_5, c184_5, e184, hx184_0, hx184_1, hx184_2, hx184_3, hx184_4, hx184_5, hx184_6, hx184_7, hx184_8, hx184_9, hl184_5, hi184_5⟩ := at_T50 HR0.out x4_1 p184 q184
                            obtain rfl : ad181 = ad184 := (by injection e184)
                            replace hx184_0 := (HB.out.cell (World.block_lt_of_cell? w _ hx184_0)).trans hx184_0
                            replace hx184_1 := (HB.out.cell (World.block_lt_of_cell? w _ hx184_1)).trans hx184_1
                            replace hx184_2 := (HB.out.cell (World.block_lt_of_cell? w _ hx184_2)).trans hx184_2
                            replace hx184_3 := (HB.out.cell (World.block_lt_of_cell? w _ hx184_3)).trans hx184_3
                            replace hx184_4 := (HB.out.cell (World.block_lt_of_cell? w _ hx184_4)).trans hx184_4
                            replace hx184_5 := (HB.out.cell (World.block_lt_of_cell? w _ hx184_5)).trans hx184_5
                            replace hx184_6 := (HB.out.cell (World.block_lt_of_cell? w _ hx184_6)).trans hx184_6
                            replace hx184_7 := (HB.out.cell (World.block_lt_of_cell? w _ hx184_7)).trans hx184_7
                            replace hx184_8 := (HB.out.cell (World.block_lt_of_cell? w _ hx184_8)).trans hx184_8
                            replace hx184_9 := (HB.out.cell (World.block_lt_of_cell? w _ hx184_9)).trans hx184_9
                            have HR184_5 := Aside0.mk hi184_5
                            have HC184_5 := Aside0.mk hl184_5
                            clear hi184_5 hl184_5
                            replace p184 := eq_true p184
                            replace q184 := eq_true q184
                            go_wp2
                            go_roundg kj6
                            case measure => have := HK1.out; have := HJ6.out; omega
                            case rel => exact ⟨(wrap64 (x3_6 - 1)), (wrap64 (x4_1 + 1)), (by first | rfl | (simp; done) | (simp [*]; done) | (simp [ne_nil_]; done)), (by first | rfl | (simp; done) | (simp [*]; done) | (simp [ne_nil_]; done)), H', ⟨by have := HK1.out; have := HJ6.out; omega⟩, ⟨by repeat (first | (with_reducible first | exact HB.out | apply below_alloc | apply pw_below_drewN | apply below_drew1) | exact HB.out)⟩⟩
                      · rw [if_neg c12] at H
                        have c12b0 : (((rd_T50 l0 x4_1).f0) == 4) = false := beq_eq_false_iff_ne.mpr c12
                        have c12b1 : (((rd_T50 l0 x4_1).f0) != 4) = true := bne_iff_ne.mpr c12
                        by_cases c15 : x3_6 < 0
                        · rw [if_pos c15] at H
                          have c15b0 : decide (x3_6 < 0) = true := decide_eq_true c15
                          clear c15
                          obtain rfl := Option.some.inj H
                          have p184 : 0 ≤ (x4_1 : Int) := of_decide_eq_true (by first | (with_reducible assumption) | assumption)
                          have q184 : x4_1 < (l0.length : Int) := of_decide_eq_true (by first | (with_reducible assumption) | assumption)
                          obtain ⟨ad184, A184_5, c184_5, e184, hx184_0, hx184_1, hx184_2, hx184_3, hx184_4, hx184_5, hx184_6, hx184_7, hx184_8, hx184_9, hl184_5, hi184_5⟩ := at_T50 HR0.out x4_1 p184 q184
                          obtain rfl : ad181 = ad184 := (by injection e184)
                          replace hx184_0 := (HB.out.cell (World.block_lt_of_cell? w _ hx184_0)).trans hx184_0
                          replace hx184_1 := (HB.out.cell (World.block_lt_of_cell? w _ hx184_1)).trans hx184_1
                          replace hx184_2 := (HB.out.cell (World.block_lt_of_cell? w _ hx184_2)).trans hx184_2
                          replace hx184_3 := (HB.out.cell (World.block_lt_of_cell? w _ hx184_3)).trans hx184_3
                          replace hx184_4 := (HB.out.cell (World.block_lt_of_cell? w _ hx184_4)).trans hx184_4
                          replace hx184_5 := (HB.out.cell (World.block_lt_of_cell? w _ hx184_5)).trans hx184_5
                          replace hx184_6 := (HB.out.cell (World.block_lt_of_cell? w _ hx184_6)).trans hx184_6
                          replace hx184_7 := (HB.out.cell (World.block_lt_of_cell? w _ hx184_7)).trans hx184_7
                          replace hx184_8 := (HB.out.cell (World.block_lt_of_cell? w _ hx184_8)).trans hx184_8
                          replace hx184_9 := (HB.out.cell (World.block_lt_of_cell? w _ hx184_9)).trans hx184_9
                          have HR184_5 := Aside0.mk hi184_5
                          have HC184_5 := Aside0.mk hl184_5
                          clear hi184_5 hl184_5
                          replace p184 := eq_true p184
                          replace q184 := eq_true q184
                          go_wp2
                          go_ret
                          exact ⟨by first | rfl | (simp [errW_none, errW_some] <;> rfl) | (simp [*, errW_none, errW_some] <;> rfl), by repeat (first | (with_reducible first | exact HB.out | apply below_alloc | apply pw_below_drewN | apply below_drew1) | exact HB.out)⟩
                        · rw [if_neg c15] at H
                          have c15b0 : decide (x3_6 < 0) = false := decide_eq_false c15
                          clear c15
                          by_cases c16 : x3_6 > 32
                          · rw [if_pos c16] at H
                            have c16b0 : decide (32 < x3_6) = true := decide_eq_true c16
                            clear c16
                            obtain rfl := Option.some.inj H
                            have p184 : 0 ≤ (x4_1 : Int) := of_decide_eq_true (by first | (with_reducible assumption) | assumption)
                            have q184 : x4_1 < (l0.length : Int) := of_decide_eq_true (by first | (with_reducible assumption) | assumption)
                            obtain ⟨ad184, A184_5, c184_5, e184, hx184_0, hx184_1, hx184_2, hx184_3, hx184_4, hx184_5, hx184_6, hx184_7, hx184_8, hx184_9, hl184_5, hi184_5⟩ := at_T50 HR0.out x4_1 p184 q184
                            obtain rfl : ad181 = ad184 := (by injection e184)
                            replace hx184_0 := (HB.out.cell (World.block_lt_of_cell? w _ hx184_0)).trans hx184_0
                            replace hx184_1 := (HB.out.cell (World.block_lt_of_cell? w _ hx184_1)).trans hx184_1
                            replace hx184_2 := (HB.out.cell (World.block_lt_of_cell? w _ hx184_2)).trans hx184_2
                            replace hx184_3 := (HB.out.cell (World.block_lt_of_cell? w _ hx184_3)).trans hx184_3
                            replace hx184_4 := (HB.out.cell (World.block_lt_of_cell? w _ hx184_4)).trans hx184_4
                            replace hx184_5 := (HB.out.cell (World.block_lt_of_cell? w _ hx184_5)).trans hx184_5
                            replace hx184_6 := (HB.out.cell (World.block_lt_of_cell? w _ hx184_6)).trans hx184_6
                            replace hx184_7 := (HB.out.cell (World.block_lt_of_cell? w _ hx184_7)).trans hx184_7
                            replace hx184_8 := (HB.out.cell (World.block_lt_of_cell? w _ hx184_8)).trans hx184_8
                            replace hx184_9 := (HB.out.cell (World.block_lt_of_cell? w _ hx184_9)).trans hx184_9
                            have HR184_5 := Aside0.mk hi184_5
                            have HC184_5 := Aside0.mk hl184_5
                            clear hi184_5 hl184_5
                            replace p184 := eq_true p184
                            replace q184 := eq_true q184
                            go_wp2
                            go_ret
                            exact ⟨by first | rfl | (simp [errW_none, errW_some] <;> rfl) | (simp [*, errW_none, errW_some] <;> rfl), by repeat (first | (with_reducible first | exact HB.out | apply below_alloc | apply pw_below_drewN | apply below_drew1) | exact HB.out)⟩
                          · rw [if_neg c16] at H
                            have c16b0 : decide (32 < x3_6) = false := decide_eq_false c16
                            clear c16
                            have H' := Aside0.mk H
                            clear H
                            have p184 : 0 ≤ (x4_1 : Int) := of_decide_eq_true (by first | (with_reducible assumption) | assumption)
                            have q184 : x4_1 < (l0.length : Int) := of_decide_eq_true (by first | (with_reducible assumption) | assumption)
                            obtain ⟨ad184, A184_5, c184_5, e184, hx184_0, hx184_1, hx184_2, hx184_3, hx184_4, hx184_5, hx184_6, hx184_7, hx184_8, hx184_9, hl184_5, hi184_5⟩ := at_T50 HR0.out x4_1 p184 q184
                            obtain rfl : ad181 = ad184 := (by injection e184)
                            replace hx184_0 := (HB.out.cell (World.block_lt_of_cell? w _ hx184_0)).trans hx184_0
                            replace hx184_1 := (HB.out.cell (World.block_lt_of_cell? w _ hx184_1)).trans hx184_1
                            replace hx184_2 := (HB.out.cell (World.block_lt_of_cell? w _ hx184_2)).trans hx184_2
                            replace hx184_3 := (HB.out.cell (World.block_lt_of_cell? w _ hx184_3)).trans hx184_3
                            replace hx184_4 := (HB.out.cell (World.block_lt_of_cell? w _ hx184_4)).trans hx184_4
                            replace hx184_5 := (HB.out.cell (World.block_lt_of_cell? w _ hx184_5)).trans hx184_5
                            replace hx184_6 := (HB.out.cell (World.block_lt_of_cell? w _ hx184_6)).trans hx184_6
                            replace hx184_7 := (HB.out.cell (World.block_lt_of_cell? w _ hx184_7)).trans hx184_7
                            replace hx184_8 := (HB.out.cell (World.block_lt_of_cell? w _ hx184_8)).trans hx184_8
                            replace hx184_9 := (HB.out.cell (World.block_lt_of_cell? w _ hx184_9)).trans hx184_9
                            have HR184_5 := Aside0.mk hi184_5
                            have HC184_5 := Aside0.mk hl184_5
                            clear hi184_5 hl184_5
                            replace p184 := eq_true p184
                            replace q184 := eq_true q184
                            go_wp2
                            go_roundg kj6
                            case measure => have := HK1.out; have := HJ6.out; omega
                            case rel => exact ⟨(x3_6), (wrap64 (x4_1 + 1)), (by first | rfl | (simp; done) | (simp [*]; done) | (simp [ne_nil_]; done)), (by first | rfl | (simp; done) | (simp [*]; done) | (simp [ne_nil_]; done)), H', ⟨by have := HK1.out; have := HJ6.out; omega⟩, ⟨by repeat (first | (with_reducible first | exact HB.out | apply below_alloc | apply pw_below_drewN | apply below_drew1) | exact HB.out)⟩⟩
                    · rw [if_neg c11] at H
                      exact absurd H (by simp)
                  · rw [if_neg c10] at H
                    exact absurd H (by simp)
            · replace c6 := Bool.eq_false_iff.mpr c6
              subst c6
              have H1 : (some 150) = some r := by rw [if_neg (show ¬ (false = true) by decide)] at H; exact H
              clear H
              have H := H1
              clear H1
              obtain rfl := Option.some.inj H
              have p181 : 0 ≤ (x4_1 : Int) := of_decide_eq_true (by first | (with_reducible assumption) | assumption)
              have q181 : x4_1 < (l0.length : Int) := of_decide_eq_true (by first | (with_reducible assumption) | assumption)
              obtain ⟨ad181, A181_5, c181_5, e181, hx181_0, hx181_1, hx181_2, hx181_3, hx181_4, hx181_5, hx181_6, hx181_7, hx181_8, hx181_9, hl181_5, hi181_5⟩ := at_T50 HR0.out x4_1 p181 q181
              cases e181
              replace hx181_0 := (HB.out.cell (World.block_lt_of_cell? w _ hx181_0)).trans hx181_0
              replace hx181_1 := (HB.out.cell (World.block_lt_of_cell? w _ hx181_1)).trans hx181_1
              replace hx181_2 := (HB.out.cell (World.block_lt_of_cell? w _ hx181_2)).trans hx181_2
              replace hx181_3 := (HB.out.cell (World.block_lt_of_cell? w _ hx181_3)).trans hx181_3
              replace hx181_4 := (HB.out.cell (World.block_lt_of_cell? w _ hx181_4)).trans hx181_4
              replace hx181_5 := (HB.out.cell (World.block_lt_of_cell? w _ hx181_5)).trans hx181_5
              replace hx181_6 := (HB.out.cell (World.block_lt_of_cell? w _ hx181_6)).trans hx181_6
              replace hx181_7 := (HB.out.cell (World.block_lt_of_cell? w _ hx181_7)).trans hx181_7
              replace hx181_8 := (HB.out.cell (World.block_lt_of_cell? w _ hx181_8)).trans hx181_8
              replace hx181_9 := (HB.out.cell (World.block_lt_of_cell? w _ hx181_9)).trans hx181_9
              have HR181_5 := Aside0.mk hi181_5
              have HC181_5 := Aside0.mk hl181_5
              clear hi181_5 hl181_5
              replace p181 := eq_true p181
              replace q181 := eq_true q181
              go_wp2_with (first | ((with_reducible refine gate_callee (f := 40) rfl ?_); refine goesL_ (some 18) rfl rfl Tryd.func40 (by kernel_rfl) rfl #[.agg #[.int .i64 ((rd_T50 l0 x4_1).f0), .int .i64 ((rd_T50 l0 x4_1).f1), .int .i64 ((rd_T50 l0 x4_1).f2), .int .i64 ((rd_T50 l0 x4_1).f3), .int .i64 ((rd_T50 l0 x4_1).f4), .slice A181_5 ((rd_T50 l0 x4_1).f5).length c181_5, .int .i64 ((rd_T50 l0 x4_1).f6.f0), .int .i64 ((rd_T50 l0 x4_1).f6.f1), .int .i64 ((rd_T50 l0 x4_1).f6.f2), .int .i64 ((rd_T50 l0 x4_1).f6.f3)]] rfl (by (try simp only [List.map_toArray, List.map_cons, List.map_nil]); first | done | rfl | (simp only [List.length_drop, List.length_take]; rfl) | (simp only [Array.mk.injEq, List.cons.injEq, Value.int.injEq, and_true, true_and]; (try unfold wrap64); omega)) ?_; (with_reducible refine (colophonref15_one.calls k1 ((rd_T50 l0 x4_1).f0) ((rd_T50 l0 x4_1).f1) ((rd_T50 l0 x4_1).f2) ((rd_T50 l0 x4_1).f3) ((rd_T50 l0 x4_1).f4) _ _ ((rd_T50 l0 x4_1).f5) ((rd_T50 l0 x4_1).f6.f0) ((rd_T50 l0 x4_1).f6.f1) ((rd_T50 l0 x4_1).f6.f2) ((rd_T50 l0 x4_1).f6.f3) false _ ?side1 ?side2 A5.out).mono ?_); (case side1 => repeat (first | exact (Kd.C_below HR181_5.out HB.out) | (with_reducible refine Kd.C_alloc ?_ _) | (with_reducible refine Kd.C_drewN ?_ _) | (with_reducible refine Kd.C_drew ?_))); (case side2 => exact HC181_5.out); rintro e w17 ⟨rfl, hb⟩; refine ⟨_, rfl, ?_⟩; have n0_ := Aside0.mk (below_step (by repeat (first | (with_reducible first | exact HB.out | apply below_alloc | apply pw_below_drewN | apply below_drew1) | exact HB.out)) hb); clear HB; have HB := n0_; clear n0_; (try clear hb); (try clear hb2); (try clear hk); (try clear hi)))
              go_ret
              exact ⟨by first | rfl | (simp [errW_none, errW_some] <;> rfl) | (simp [*, errW_none, errW_some] <;> rfl), by repeat (first | (with_reducible first | exact HB.out | apply below_alloc | apply pw_below_drewN | apply below_drew1) | exact HB.out)⟩
          · rw [if_neg c4] at H
            exact absurd H (by simp)
        · rw [if_neg c3] at H
          have c3b0 : decide (x4_1 < (l0.length : Int)) = false := decide_eq_false c3
          clear c3
          by_cases c18 : x3_1 = 0
          · rw [if_pos c18] at H
            have c18b0 : (x3_1 == 0) = true := beq_iff_eq.mpr c18
            have c18b1 : (x3_1 != 0) = false := bne_eq_false_iff_eq.mpr c18
            clear c18
            obtain rfl := Option.some.inj H
            go_wp2
            go_ret
            exact ⟨by first | rfl | (simp [errW_none, errW_some] <;> rfl) | (simp [*, errW_none, errW_some] <;> rfl), by repeat (first | (with_reducible first | exact HB.out | apply below_alloc | apply pw_below_drewN | apply below_drew1) | exact HB.out)⟩
          · rw [if_neg c18] at H
            have c18b0 : (x3_1 == 0) = false := beq_eq_false_iff_ne.mpr c18
            have c18b1 : (x3_1 != 0) = true := bne_iff_ne.mpr c18
            obtain rfl := Option.some.inj H
            go_wp2
            go_ret
            exact ⟨by first | rfl | (simp [errW_none, errW_some] <;> rfl) | (simp [*, errW_none, errW_some] <;> rfl), by repeat (first | (with_reducible first | exact HB.out | apply below_alloc | apply pw_below_drewN | apply below_drew1) | exact HB.out)⟩
end Go.Proofs.YtekifiblehmafaaDoor.Y
end
section
set_option linter.unusedVariables false
set_option linter.unusedSimpArgs false
namespace Go.Proofs.YtekifiblehmafaaDoor.Y
open Go.RowKit Go.Shelf Go.Proofs.YtekifiblehmafaaDoor.X Go.Proofs.YtekifiblehmafaaDoorW.PrintWords
theorem step_append_string {P : Program} {ops : Array Oper} {o : Oper} {a : Act} {w : World} {K : Act → World → Prop} {Q : Exit → Act → World → Prop} {E : Prop} (hgd : o.guard = none) (sl x : Operand) (t u : TypeId)
    (ho : o.op = .call { callee := .builtin .append, args := #[sl, x], argTypes := #[t, u] })
    (base : Nat) (e : TypeId) (i : TypeInfo) (ht : P.underlying t = some (.slice e)) (hu : P.underlying u = some .string) (hi : P.info? e = some i) (hz : i.zero = some (.int .u8 0))
    (hsize : i.size = 1) (hby : i.bytes = 1)
    (v : Value) (n : Nat) (xs : List Value) (hs : a.eval sl = v) (hown : w.ownsRowF base e 1 v n xs) (s : ByteArray) (hx : a.eval x = .string s)
    (h63 : n + s.size ≤ maxLen) (hbytes : n + s.size ≤ 140737488355328) (hbase : base ≤ w.heap.size)
    (h : ∀ v' w', w'.ownsRowF base e 1 v' (n + s.size) (xs ++ Lib.strCells s) → w.grownBy w' v.ownBlock → K (a.put o.dst v') w') : if Region.wanted o (yielded ops a.tmps) = true then Oper.wp P o a w K Q else E := by
  have hw : Region.wanted o (yielded ops a.tmps) = true := by simp [Region.wanted, hgd]
  rw [if_pos hw]
  obtain ⟨v', w', hr, h2, h3, h4⟩ := Lib.run_append_own_stringF (P := P) w base t u o.type e i ht hu hi hz hsize hby v n xs hown s h63 hbytes hbase
  unfold Oper.wp execOp
  simp only [ho, resolve, invoke, builtin, Sem.run_bind, Sem.run_pure, Result.andThen_ok, List.map_toArray, List.map_cons, List.map_nil, hs, hx, hr]
  exact h v' w' h2 h3
structure Row (W : World) (v : Value) (T : List UInt8) (w' : World) : Prop where
  own : w'.ownsRowF W.heap.size 5 1 v T.length (Lib.byteCells T)
  bel : Below W.heap.size W w'
theorem Row.alloc {W w' : World} {v : Value} {T : List UInt8} (h : Row W v T w') (o : Obj) : Row W v T (w'.alloc o) := ⟨h.own.alloc _, h.bel.alloc h.bel.size _⟩
theorem Row.slice {W w' : World} {v : Value} {T : List UInt8} (h : Row W v T w') : ∃ ao cap, v = .slice ao T.length cap := by
  rcases h.own.2 with ⟨hv, h0⟩ | ⟨g, cap, cur, fz, hv, _⟩
  · exact ⟨none, 0, by rw [hv, h0]⟩
  · exact ⟨_, _, hv⟩
theorem Row.step {W w1 w2 : World} {v : Value} {T : List UInt8} (h : Row W v T w1) (hb : Below w1.heap.size w1 w2) : Row W v T w2 :=
  ⟨h.own.kept (row := none) ⟨hb.os, hb.tape, hb.output, hb.size, fun k hk _ => hb.block k hk⟩ (Classical.em _), h.bel.trans (hb.mono h.bel.size)⟩
theorem Row.grown {W w1 w2 : World} {v v' : Value} {T : List UInt8} {s : ByteArray} (h : Row W v T w1) (hown : w2.ownsRowF W.heap.size 5 1 v' (T.length + s.size) (Lib.byteCells T ++ Lib.strCells s)) (hg : w1.grownBy w2 v.ownBlock) : Row W v' (T ++ s.data.toList) w2 := by
  refine ⟨?_, h.bel.grown hg h.bel.size (fun k hk => (h.own.lt k hk).1)⟩
  rw [List.length_append, Lib.byteCells_append, data_length]
  exact hown
theorem Row.keeps {W w1 w2 : World} {v : Value} {T : List UInt8} {p t : Nat} {M : Array Value} (h : Row W v T w1) (hg : w1.grownBy w2 v.ownBlock) (hP : w1.heap[p]? = some (.cells M t (0, 0))) (ht : t ≠ 5) : w2.heap[p]? = some (.cells M t (0, 0)) := by
  have hlt : p < w1.heap.size := (Array.getElem?_eq_some_iff.1 hP).1
  rw [hg.block p hlt ?_]
  · exact hP
  · intro e
    obtain ⟨c, fz, hc⟩ := Lib.ownsRowF_kind h.own p e.symm
    rw [hP] at hc
    simp at hc
    exact ht hc.2.1
def headW (m : S50) : ByteArray := ((((((((⟨#[66, 84, 10, 47, 70]⟩ : ByteArray) ++ decW m.f1) ++ (⟨#[32]⟩ : ByteArray)) ++ num m.f2) ++ (⟨#[32, 84, 102, 10, 49, 32, 48, 32, 48, 32, 49, 32]⟩ : ByteArray)) ++ num m.f3) ++ (⟨#[32]⟩ : ByteArray)) ++ num m.f4) ++ (⟨#[32, 84, 109, 10, 60]⟩ : ByteArray)
theorem bs_list (s t : ByteArray) : (s ++ t).data.toList = s.data.toList ++ t.data.toList := by
  rw [ByteArray.data_append, Array.toList_append]
theorem text_lines (m : S50) (h : m.f0 = 1) : markLines m = (headW m).data.toList ++ (m.f5.map hex4).flatten ++ [62, 32, 84, 106, 10, 69, 84, 10] := by
  rw [markLines, if_pos h]
  simp [textLines, line, Lib.join, List.intercalate, headW, decW, fontWord, bs_list]
theorem box_lines (x0 y0 x1 y1 : Int) : (boxW x0 y0 x1 y1).data.toList = boxLine x0 y0 x1 y1 := by
  simp [boxLine, line, Lib.join, List.intercalate, boxW, bs_list, Go.Proofs.YtekifiblehmafaaDoorW.PrintLast.i64_w]
theorem info5b : ∃ i0, Tryd.prog.info? 5 = some i0 ∧ i0.zero = some (.int .u8 0) ∧ i0.size = 1 ∧ i0.bytes = 1 := info_parts Tryd.Builder_Extra_B.infoByte
theorem boxW_size (x0 y0 x1 y1 : Int) : (boxW x0 y0 x1 y1).size ≤ 200 := by
  have h0 := num_size x0
  have h1 := num_size y0
  have h2 := num_size (wrap64 (x1 - x0))
  have h3 := num_size (wrap64 (y1 - y0))
  have s1 : (⟨#[32]⟩ : ByteArray).size = 1 := rfl
  have s4 : (⟨#[32, 114, 101, 10]⟩ : ByteArray).size = 4 := rfl
  unfold boxW
  simp only [ByteArray.size_append]; omega
theorem ref_box_as (x0 y0 x1 y1 : Int) (bw : ByteArray) (h : bw = boxW x0 y0 x1 y1) (w : World) : Calls Tryd.prog 37 #[.agg #[.int .i64 x0, .int .i64 y0, .int .i64 x1, .int .i64 y1]] w fun e w' => e = .returned (.string bw) ∧ Below w.heap.size w w' := by
  subst h
  exact ref_box x0 y0 x1 y1 w
theorem decW_size (u : Int) (h0 : 0 ≤ u) (h1 : u ≤ 99) : (decW u).size ≤ 2 := by
  have := font_len u h0 h1
  show (Lib.itoa u).toArray.size ≤ 2
  rw [List.size_toArray]; exact this
theorem headW_size (m : S50) (h0 : 0 ≤ m.f1) (h1 : m.f1 ≤ 99) : (headW m).size ≤ 200 := by
  have a0 := decW_size m.f1 h0 h1
  have a1 := num_size m.f2
  have a2 := num_size m.f3
  have a3 := num_size m.f4
  have e1 : (⟨#[66, 84, 10, 47, 70]⟩ : ByteArray).size = 5 := rfl
  have e2 : (⟨#[32]⟩ : ByteArray).size = 1 := rfl
  have e3 : (⟨#[32, 84, 102, 10, 49, 32, 48, 32, 48, 32, 49, 32]⟩ : ByteArray).size = 12 := rfl
  have e4 : (⟨#[32, 84, 109, 10, 60]⟩ : ByteArray).size = 5 := rfl
  unfold headW
  simp only [ByteArray.size_append]; omega
theorem markLines_len (m : S50) (h : Good m) : (markLines m).length ≤ 1000000 := by
  have hb := boxW_size m.f6.f0 m.f6.f1 m.f6.f2 m.f6.f3
  rw [← data_length, box_lines] at hb
  have l1 : (line [⟨#[102]⟩]).length = 2 := rfl
  have l2 : (line [⟨#[113]⟩]).length = 2 := rfl
  have l3 : (line [⟨#[87, 32, 110]⟩]).length = 4 := rfl
  have l4 : (line [⟨#[81]⟩]).length = 2 := rfl
  by_cases h1 : m.f0 = 1
  · obtain ⟨hf, _, _, hn⟩ := h.2.2 h1
    have := headW_size m hf.1 hf.2
    rw [text_lines m h1, List.length_append, List.length_append, flat_len, data_length]
    simp only [List.length_cons, List.length_nil]; omega
  · unfold markLines
    rw [if_neg h1]
    repeat' split
    all_goals simp only [List.length_append, l1, l2, l3, l4]; omega
theorem all_prefix (l : List S50) (i : Nat) : (allLines (l.take i)).length ≤ (allLines l).length := by
  conv => rhs; rw [← List.take_append_drop i l]
  simp only [allLines, List.map_append, List.flatten_append, List.length_append]
  omega
theorem row_string {W w' : World} {ao : Option Addr} {cap : Nat} {T : List UInt8} (h : Row W (.slice ao T.length cap) T w') :
    (convert 54 9 (.slice ao T.length cap)).run Tryd.prog w' = .ok (.string ⟨T.toArray⟩) w' := by
  rcases h.own.2 with ⟨hv, h0⟩ | ⟨g, cap2, cur, fz, hv, r⟩
  · obtain rfl := List.length_eq_zero_iff.1 h0
    simp only [Value.slice.injEq] at hv
    rw [hv.1]
    exact run_convert_bytes_nil (P := Tryd.prog) w' 54 5 Tryd.underlying54 Tryd.underlying5 _ _ 9 Tryd.underlying9
  · simp only [Value.slice.injEq] at hv
    obtain ⟨rfl, _, rfl⟩ := hv
    refine run_convert_bytes_back (P := Tryd.prog) w' 54 9 5 ⟨g, 0, none⟩ cap T Tryd.underlying54 Tryd.underlying5 Tryd.underlying9 ?_
    intro j hj
    have := h.own.cells (g := g) rfl j (.int .u8 (T[j].toNat)) (by simp [Lib.byteCells, hj])
    exact this
set_option maxHeartbeats 8000000 in
set_option maxRecDepth 100000 in
theorem ref_walk (k c : Nat) (A : Option Addr) (l : List S50) (w : World) (hr : Kd.C k50 w A l.length l) (hc : l.length ≤ c) (hck : colophonref15_Check.f k l = some 0) (hN : l.length ≤ 8192) (hg : ∀ m ∈ l, Good m) :
    Calls Tryd.prog 16 #[.slice A l.length c] w fun e w' => e = .returned (emitRes l) ∧ Below w.heap.size w w' := by
  obtain ⟨i0, hi0, hz0, hz1, hz2⟩ := info5b
  have HI0 := Aside0.mk hi0
  have HZ0 := Aside0.mk hz0
  have HZ1 := Aside0.mk hz1
  have HZ2 := Aside0.mk hz2
  have HR := Aside0.mk hr
  have HC := Aside0.mk hc
  have HK := Aside0.mk hck
  have HN := Aside0.mk hN
  have HGd := Aside0.mk hg
  clear hr hc hck hN hg hi0 hz0 hz1 hz2
  go_enter Tryd.func16, Tryd.ntmps16
  go_wp2_with (first
    | (go_at_call 19; refine (colophonref15_Check.calls k A c l 0 _ HR.out HC.out HK.out).mono ?_; rintro e w1 ⟨rfl, hb1⟩))
  have H0 : Aside0 (Row w (.slice none 0 0) (allLines (l.take 0)) w1) := ⟨⟨⟨by simp [allLines, Lib.byteCells], .inl ⟨rfl, by simp [allLines]⟩⟩, hb1⟩⟩
  clear hb1
  go_loopw [4, 5] (fun bv iv wr => ∃ i : Nat, i ≤ l.length ∧ iv = .int .i64 i ∧ Aside0 (Row w bv (allLines (l.take i)) wr) ∧ Aside0 ((allLines (l.take i)).length ≤ 1048576)) (fun _ iv _ => l.length - (intOf iv).toNat)
  case atStart => exact ⟨0, by omega, rfl, H0, ⟨by simp [allLines]⟩⟩
  case round =>
    clear H0
    obtain ⟨i, hi, rfl, HB, HT0⟩ := hrel
    by_cases hlt : i < l.length
    · obtain ⟨ad, A5, c5, e5, hx0, hx1, hx2, hx3, hx4, hx5, hx6, hx7, hx8, hx9, hl5, hi5⟩ := at_T50 HR.out (i : Int) (by omega) (by omega)
      cases e5
      have hb := HB.out.bel
      replace hx0 := (hb.cell (World.block_lt_of_cell? w _ hx0)).trans hx0
      replace hx1 := (hb.cell (World.block_lt_of_cell? w _ hx1)).trans hx1
      replace hx2 := (hb.cell (World.block_lt_of_cell? w _ hx2)).trans hx2
      replace hx3 := (hb.cell (World.block_lt_of_cell? w _ hx3)).trans hx3
      replace hx4 := (hb.cell (World.block_lt_of_cell? w _ hx4)).trans hx4
      replace hx5 := (hb.cell (World.block_lt_of_cell? w _ hx5)).trans hx5
      replace hx6 := (hb.cell (World.block_lt_of_cell? w _ hx6)).trans hx6
      replace hx7 := (hb.cell (World.block_lt_of_cell? w _ hx7)).trans hx7
      replace hx8 := (hb.cell (World.block_lt_of_cell? w _ hx8)).trans hx8
      replace hx9 := (hb.cell (World.block_lt_of_cell? w _ hx9)).trans hx9
      have HL5 := Aside0.mk hl5
      have HI5 := Aside0.mk hi5
      have hm : rd_T50 l (i : Int) = l[i] := by
        show l.getD (i : Int).toNat z50 = _
        rw [Int.toNat_natCast]; simp [hlt]
      rw [hm] at hx0 hx1 hx2 hx3 hx4 hx5 hx6 hx7 hx8 hx9 HL5 HI5
      have HGm := Aside0.mk (HGd.out l[i] (List.getElem_mem hlt))
      have HT : Aside0 (allLines (l.take (i + 1)) = allLines (l.take i) ++ markLines l[i]) := ⟨by
        rw [List.take_succ_eq_append_getElem hlt]
        unfold allLines
        rw [List.map_append, List.flatten_append]
        simp only [List.map_cons, List.map_nil, List.flatten_cons, List.flatten_nil, List.append_nil]⟩
      have HPX : Aside0 ((allLines (l.take (i + 1))).length ≤ (allLines l).length) := ⟨all_prefix l (i + 1)⟩
      clear hl5 hi5 hm hb
      generalize l[i] = m at hx0 hx1 hx2 hx3 hx4 hx5 hx6 hx7 hx8 hx9 HL5 HI5 HGm HT
      simp only [Int.toNat_natCast] at hx0 hx1 hx2 hx3 hx4 hx5 hx6 hx7 hx8 hx9
      obtain ⟨ao, cap, rfl⟩ := HB.out.slice
      have HP : Aside0 ((wr.alloc (.cells #[.int .i64 m.f0, .int .i64 m.f1, .int .i64 m.f2, .int .i64 m.f3, .int .i64 m.f4, .slice A5 m.f5.length c5, .int .i64 m.f6.f0, .int .i64 m.f6.f1, .int .i64 m.f6.f2, .int .i64 m.f6.f3] 50)).heap[wr.heap.size]? = some (.cells #[.int .i64 m.f0, .int .i64 m.f1, .int .i64 m.f2, .int .i64 m.f3, .int .i64 m.f4, .slice A5 m.f5.length c5, .int .i64 m.f6.f0, .int .i64 m.f6.f1, .int .i64 m.f6.f2, .int .i64 m.f6.f3] 50 (0, 0))) := ⟨blk_new _ _⟩
      have HB := Aside0.mk (HB.out.alloc (.cells #[.int .i64 m.f0, .int .i64 m.f1, .int .i64 m.f2, .int .i64 m.f3, .int .i64 m.f4, .slice A5 m.f5.length c5, .int .i64 m.f6.f0, .int .i64 m.f6.f1, .int .i64 m.f6.f2, .int .i64 m.f6.f3] 50))
      obtain ⟨T, hT⟩ : ∃ T, T = allLines (l.take i) := ⟨_, rfl⟩
      rw [← hT] at HB HT HT0 ⊢
      have hTH := Aside0.mk hT
      clear hT
      have HW1 : Aside0 (wrap64 ((i : Int) + 1) = ((i + 1 : Nat) : Int)) := ⟨by have := HN.out; unfold wrap64; omega⟩
      have HLT := Aside0.mk hlt
      have HML := Aside0.mk (markLines_len m HGm.out)
      have y0 : (wr.alloc (.cells #[.int .i64 m.f0, .int .i64 m.f1, .int .i64 m.f2, .int .i64 m.f3, .int .i64 m.f4, .slice A5 m.f5.length c5, .int .i64 m.f6.f0, .int .i64 m.f6.f1, .int .i64 m.f6.f2, .int .i64 m.f6.f3] 50)).cell? ⟨wr.heap.size, 0, none⟩ = some (.int .i64 m.f0) := blk_cell HP.out 0
      have HML := Aside0.mk (markLines_len m HGm.out)
      have HG1 := Aside0.mk HGm.out.1
      have HG2 := Aside0.mk HGm.out.2.1
      have HT2L : Aside0 ((T ++ markLines m).length ≤ 2048576) := ⟨by have := HT0.out; have := HML.out; simp only [List.length_append]; omega⟩
      by_cases hk1 : m.f0 = 1
      · have k1 : (m.f0 == 1) = true := by rw [hk1]; rfl
        have k1b : (1 == m.f0) = true := by rw [hk1]; rfl
        have HL := Aside0.mk (text_lines m hk1)
        have HF := Aside0.mk (HGm.out.2.2 hk1)
        clear hk1
        have a0 := decW_size m.f1 HF.out.1.1 HF.out.1.2
        have a1 := num_size m.f2
        have a2 := num_size m.f3
        have a3 := num_size m.f4
        have z0 : (9223372036854775807 < 5 + (decW m.f1).size) = False := eq_false (by omega)
        have z1 : (9223372036854775807 < 5 + (decW m.f1).size + 1) = False := eq_false (by omega)
        have z2 : (9223372036854775807 < 5 + (decW m.f1).size + 1 + (num m.f2).size) = False := eq_false (by omega)
        have z3 : (9223372036854775807 < 5 + (decW m.f1).size + 1 + (num m.f2).size + 12) = False := eq_false (by omega)
        have z4 : (9223372036854775807 < 5 + (decW m.f1).size + 1 + (num m.f2).size + 12 + (num m.f3).size) = False := eq_false (by omega)
        have z5 : (9223372036854775807 < 5 + (decW m.f1).size + 1 + (num m.f2).size + 12 + (num m.f3).size + 1) = False := eq_false (by omega)
        have z6 : (9223372036854775807 < 5 + (decW m.f1).size + 1 + (num m.f2).size + 12 + (num m.f3).size + 1 + (num m.f4).size) = False := eq_false (by omega)
        have z7 : (9223372036854775807 < 5 + (decW m.f1).size + 1 + (num m.f2).size + 12 + (num m.f3).size + 1 + (num m.f4).size + 5) = False := eq_false (by omega)
        clear a0 a1 a2 a3
        have HWS := Aside0.mk (headW_size m HF.out.1.1 HF.out.1.2)
        obtain ⟨T2, hT2⟩ : ∃ T2, T2 = T ++ markLines m := ⟨_, rfl⟩
        rw [← hT2] at HT HT2L
        have HT2 := Aside0.mk hT2
        clear hT2
        go_wp2
        clear hx0 hx1 hx2 hx3 hx4 hx5 hx6 hx7 hx8 hx9 y0
        generalize wr.heap.size = p at HP ⊢
        generalize wr.alloc (.cells #[.int .i64 m.f0, .int .i64 m.f1, .int .i64 m.f2, .int .i64 m.f3, .int .i64 m.f4, .slice A5 m.f5.length c5, .int .i64 m.f6.f0, .int .i64 m.f6.f1, .int .i64 m.f6.f2, .int .i64 m.f6.f3] 50) = w3 at HB HP ⊢
        go_region_held3 (fun w' => w'.cell? ⟨p, 1, none⟩ = some (.int .i64 m.f1) ∧ w'.cell? ⟨p, 2, none⟩ = some (.int .i64 m.f2) ∧ w'.cell? ⟨p, 3, none⟩ = some (.int .i64 m.f3) ∧ w'.cell? ⟨p, 4, none⟩ = some (.int .i64 m.f4))
          (first
            | exact ⟨blk_cell HP.out 1, blk_cell HP.out 2, blk_cell HP.out 3, blk_cell HP.out 4⟩
            | exact ⟨blk_cell (blk_drew HP.out) 1, blk_cell (blk_drew HP.out) 2, blk_cell (blk_drew HP.out) 3, blk_cell (blk_drew HP.out) 4⟩)
          (first
            | (go_at_call 33; refine (ref_dec m.f1 HF.out.1.1 HF.out.1.2 _).mono ?_; rintro e w4 ⟨rfl, hb4⟩; have HB := Aside0.mk ((HB.out.step (Below.drew (Below.refl _ _))).step hb4); have HP := Aside0.mk (blk_below (blk_drew HP.out) hb4); clear hb4)
            | (go_at_call 34; refine (ref_num _ _).mono ?_; rintro e w4 ⟨rfl, hb4⟩; have HB := Aside0.mk (HB.out.step hb4); have HP := Aside0.mk (blk_below HP.out hb4); clear hb4)
            | (refine step_append_string rfl _ _ 54 9 rfl w.heap.size 5 i0 Tryd.underlying54 Tryd.underlying9 HI0.out HZ0.out HZ1.out HZ2.out _ _ _ rfl HB.out.own (headW m) rfl (by have := HT0.out; have := HWS.out; unfold maxLen; omega) (by have := HT0.out; have := HWS.out; omega) HB.out.bel.size ?_; intro v' w5 hown hgrow; have HP := Aside0.mk (HB.out.keeps hgrow HP.out (by decide)); have HB := Aside0.mk (HB.out.grown hown hgrow); clear hown hgrow))
        obtain ⟨Ta, hTa⟩ : ∃ Ta, Ta = T ++ (headW m).data.toList := ⟨_, rfl⟩
        rw [← hTa] at HB
        have HTa := Aside0.mk hTa
        have HTaL : Aside0 (Ta.length ≤ 1048776) := ⟨by have := HT0.out; have := HWS.out; rw [hTa, List.length_append, data_length]; omega⟩
        clear hTa
        clear z0 z1 z2 z3 z4 z5 z6 z7
        go_wp2
        obtain ⟨ad5, HGB, HCS⟩ := glyph_cells HI5.out HF.out.2.2.1 rfl
        obtain ⟨rfl, hgb⟩ := HGB.out
        have HGB := Aside0.mk hgb
        clear hgb
        go_loopw [4, 7] (fun bv kv wr => ∃ j : Nat, j ≤ m.f5.length ∧ kv = .int .i64 j ∧ Aside0 (Row w bv (Ta ++ ((m.f5.take j).map hex4).flatten) wr) ∧ Aside0 (wr.heap[p]? = some (.cells #[.int .i64 m.f0, .int .i64 m.f1, .int .i64 m.f2, .int .i64 m.f3, .int .i64 m.f4, .slice (some ad5) m.f5.length c5, .int .i64 m.f6.f0, .int .i64 m.f6.f1, .int .i64 m.f6.f2, .int .i64 m.f6.f3] 50 (0, 0)))) (fun _ kv _ => m.f5.length - (intOf kv).toNat)
        case atStart => exact ⟨0, by omega, rfl, by simpa using HB, HP⟩
        case round =>
          clear HB HP
          obtain ⟨j, hj, rfl, HB, HP⟩ := hrel
          have q5 : wr.cell? ⟨p, 5, none⟩ = some (.slice (some ad5) m.f5.length c5) := blk_cell HP.out 5
          by_cases hlt2 : j < m.f5.length
          · have hx : wr.cell? (ad5.add j) = some (.int .i64 m.f5[j]) := (HB.out.bel.cell (p := ad5.add j) (by rw [X.add_block]; exact HGB.out)).trans (HCS.out j hlt2)
            have hgj := HF.out.2.1 m.f5[j] (List.getElem_mem hlt2)
            have HG0 := Aside0.mk hgj.1
            have HG1 := Aside0.mk hgj.2
            have HTJ : Aside0 (Ta ++ ((m.f5.take (j + 1)).map hex4).flatten = Ta ++ ((m.f5.take j).map hex4).flatten ++ hex4 m.f5[j]) := ⟨by
              rw [List.take_succ_eq_append_getElem hlt2, List.map_append, List.flatten_append]
              simp⟩
            have HSJ : Aside0 ((Ta ++ ((m.f5.take j).map hex4).flatten).length ≤ 1500000) := ⟨by
              have := HTaL.out; have := HF.out.2.2.2
              rw [List.length_append, flat_len, List.length_take]; omega⟩
            have HW2 : Aside0 (wrap64 ((j : Int) + 1) = ((j + 1 : Nat) : Int)) := ⟨by have := HF.out.2.2.2; unfold wrap64; omega⟩
            generalize m.f5[j] = g at hx HG0 HG1 HTJ
            clear hgj
            generalize Ta ++ ((m.f5.take j).map hex4).flatten = Tj at HB HTJ HSJ ⊢
            go_wp2_with (first
              | (go_at_call 36; refine (ref_two g _).mono ?_; rintro e w4 ⟨rfl, hb4⟩; have HB := Aside0.mk (HB.out.step hb4); have HP := Aside0.mk (blk_below HP.out hb4); clear hb4)
              | (go_at_call 35; refine (ref_hex g HG0.out HG1.out _).mono ?_; rintro e w4 ⟨rfl, hb4⟩; have HB := Aside0.mk (HB.out.step hb4); have HP := Aside0.mk (blk_below HP.out hb4); clear hb4)
              | (at_builtin; refine Lib.wpList_append_own_stringF _ rfl _ _ 54 9 rfl w.heap.size 5 i0 Tryd.underlying54 Tryd.underlying9 HI0.out HZ0.out HZ1.out HZ2.out _ _ _ rfl HB.out.own ⟨(hex4 g).toArray⟩ rfl (by have := HSJ.out; have e : (⟨(hex4 g).toArray⟩ : ByteArray).size = 4 := rfl; unfold maxLen; omega) (by have := HSJ.out; have e : (⟨(hex4 g).toArray⟩ : ByteArray).size = 4 := rfl; omega) HB.out.bel.size ?_; intro v' w5 hown hgrow _; have HP := Aside0.mk (HB.out.keeps hgrow HP.out (by decide)); have HB := Aside0.mk (HB.out.grown hown hgrow); clear hown hgrow))
            go_roundw
            case rel => exact ⟨j + 1, by omega, by rw [HW2.out], ⟨by rw [HTJ.out]; exact HB.out⟩, HP⟩
            case measure => rw [HW2.out]; simp only [intOf]; omega
          · have hje : j = m.f5.length := by omega
            subst hje
            rw [List.take_length] at HB
            have HTb : Aside0 (Ta ++ (m.f5.map hex4).flatten ++ (⟨#[62, 32, 84, 106, 10, 69, 84, 10]⟩ : ByteArray).data.toList = T2) := ⟨by rw [HT2.out, HL.out, HTa.out]; simp [List.append_assoc]⟩
            have HSB : Aside0 ((Ta ++ (m.f5.map hex4).flatten).length ≤ 1500000) := ⟨by
              have := HTaL.out; have := HF.out.2.2.2
              rw [List.length_append, flat_len]; omega⟩
            generalize Ta ++ (m.f5.map hex4).flatten = Tb at HB HTb HSB
            by_cases hbig : T2.length ≤ 1048576
            · have HBG := Aside0.mk hbig
              have hn : (1048576 < (T2.length : Int)) = False := eq_false (by omega)
              clear hbig
              go_wp2_with (first | (at_builtin; refine Lib.wpList_append_own_stringF _ rfl _ _ 54 9 rfl w.heap.size 5 i0 Tryd.underlying54 Tryd.underlying9 HI0.out HZ0.out HZ1.out HZ2.out _ _ _ rfl HB.out.own ⟨#[62, 32, 84, 106, 10, 69, 84, 10]⟩ rfl (by have := HSB.out; have e : (⟨#[62, 32, 84, 106, 10, 69, 84, 10]⟩ : ByteArray).size = 8 := rfl; unfold maxLen; omega) (by have := HSB.out; have e : (⟨#[62, 32, 84, 106, 10, 69, 84, 10]⟩ : ByteArray).size = 8 := rfl; omega) HB.out.bel.size ?_; intro v' w5 hown hgrow _; have HB5 := HB.out.grown hown hgrow; rw [HTb.out] at HB5; have HB := Aside0.mk HB5; clear HB5 hown hgrow; obtain ⟨ao2, cap2, rfl⟩ := HB.out.slice))
              go_roundw
              case rel => exact ⟨i + 1, by have := HLT.out; omega, by rw [HW1.out], ⟨by rw [HT.out]; exact HB.out⟩, ⟨by rw [HT.out]; exact HBG.out⟩⟩
              case measure => have := HLT.out; rw [HW1.out]; simp only [intOf]; omega
            · have HBG := Aside0.mk hbig
              have hn : (1048576 < (T2.length : Int)) = True := eq_true (by omega)
              clear hbig
              go_wp2_with (first | (at_builtin; refine Lib.wpList_append_own_stringF _ rfl _ _ 54 9 rfl w.heap.size 5 i0 Tryd.underlying54 Tryd.underlying9 HI0.out HZ0.out HZ1.out HZ2.out _ _ _ rfl HB.out.own ⟨#[62, 32, 84, 106, 10, 69, 84, 10]⟩ rfl (by have := HSB.out; have e : (⟨#[62, 32, 84, 106, 10, 69, 84, 10]⟩ : ByteArray).size = 8 := rfl; unfold maxLen; omega) (by have := HSB.out; have e : (⟨#[62, 32, 84, 106, 10, 69, 84, 10]⟩ : ByteArray).size = 8 := rfl; omega) HB.out.bel.size ?_; intro v' w5 hown hgrow _; have HB5 := HB.out.grown hown hgrow; rw [HTb.out] at HB5; have HB := Aside0.mk HB5; clear HB5 hown hgrow; obtain ⟨ao2, cap2, rfl⟩ := HB.out.slice))
              go_ret2
              exact ⟨by rw [emitRes, if_neg (by have := HPX.out; have h2 := HBG.out; rw [HT.out] at this; omega)]; rfl, HB.out.bel⟩
      · have k1 : (m.f0 == 1) = false := beq_eq_false_iff_ne.mpr hk1
        have k1b : (1 == m.f0) = false := beq_eq_false_iff_ne.mpr (fun e => hk1 e.symm)
        by_cases hk2 : m.f0 = 2
        · have k2 : (m.f0 == 2) = true := by rw [hk2]; rfl
          have k2b : (2 == m.f0) = true := by rw [hk2]; rfl
          obtain ⟨bw, hbw⟩ : ∃ s, s = boxW m.f6.f0 m.f6.f1 m.f6.f2 m.f6.f3 := ⟨_, rfl⟩
          have HBW := Aside0.mk hbw
          have hbs : bw.size ≤ 200 := by rw [hbw]; exact boxW_size _ _ _ _
          have HBS := Aside0.mk hbs
          have HQ : Aside0 (markLines m = (bw ++ (⟨#[102, 10]⟩ : ByteArray)).data.toList) := ⟨by rw [hbw]; simp [markLines, hk1, hk2, bs_list, box_lines, line, Lib.join, List.intercalate]⟩
          clear hbw
          have z1 : (9223372036854775807 < bw.size + 2) = False := eq_false (by omega)
          clear hbs
          obtain ⟨T2, hT2⟩ : ∃ T2, T2 = T ++ markLines m := ⟨_, rfl⟩
          rw [← hT2] at HT HT2L
          have HT2 := Aside0.mk hT2
          have y6 := blk_cell HP.out 6
          have y7 := blk_cell HP.out 7
          have y8 := blk_cell HP.out 8
          have y9 := blk_cell HP.out 9
          simp at y6 y7 y8 y9
          clear hT2 hk1 hk2
          by_cases hbig : T2.length ≤ 1048576
          · have HBG := Aside0.mk hbig
            have hn : (1048576 < (T2.length : Int)) = False := eq_false (by omega)
            clear hbig
            go_wp2_with (first | (go_at_call 37; refine (ref_box_as _ _ _ _ bw HBW.out _).mono ?_; rintro e w4 ⟨rfl, hb4⟩; have HB := Aside0.mk (HB.out.step hb4); clear hb4) | (at_builtin; refine Lib.wpList_append_own_stringF _ rfl _ _ 54 9 rfl w.heap.size 5 i0 Tryd.underlying54 Tryd.underlying9 HI0.out HZ0.out HZ1.out HZ2.out _ _ _ rfl HB.out.own (bw ++ ⟨#[102, 10]⟩) rfl (by have := HT0.out; unfold maxLen; have := HBS.out; have e : (bw ++ (⟨#[102, 10]⟩ : ByteArray)).size = bw.size + 2 := (by rw [ByteArray.size_append]; rfl); omega) (by have := HT0.out; have := HBS.out; have e : (bw ++ (⟨#[102, 10]⟩ : ByteArray)).size = bw.size + 2 := (by rw [ByteArray.size_append]; rfl); omega) HB.out.bel.size ?_; intro v' w5 hown hgrow _; have HB5 := HB.out.grown hown hgrow; rw [← HQ.out, ← HT2.out] at HB5; have HB := Aside0.mk HB5; clear HB5 hown hgrow; obtain ⟨ao2, cap2, rfl⟩ := HB.out.slice))
            go_roundw
            case rel => exact ⟨i + 1, by have := HLT.out; omega, by rw [HW1.out], ⟨by rw [HT.out]; exact HB.out⟩, ⟨by rw [HT.out]; exact HBG.out⟩⟩
            case measure => have := HLT.out; rw [HW1.out]; simp only [intOf]; omega
          · have HBG := Aside0.mk hbig
            have hn : (1048576 < (T2.length : Int)) = True := eq_true (by omega)
            clear hbig
            go_wp2_with (first | (go_at_call 37; refine (ref_box_as _ _ _ _ bw HBW.out _).mono ?_; rintro e w4 ⟨rfl, hb4⟩; have HB := Aside0.mk (HB.out.step hb4); clear hb4) | (at_builtin; refine Lib.wpList_append_own_stringF _ rfl _ _ 54 9 rfl w.heap.size 5 i0 Tryd.underlying54 Tryd.underlying9 HI0.out HZ0.out HZ1.out HZ2.out _ _ _ rfl HB.out.own (bw ++ ⟨#[102, 10]⟩) rfl (by have := HT0.out; unfold maxLen; have := HBS.out; have e : (bw ++ (⟨#[102, 10]⟩ : ByteArray)).size = bw.size + 2 := (by rw [ByteArray.size_append]; rfl); omega) (by have := HT0.out; have := HBS.out; have e : (bw ++ (⟨#[102, 10]⟩ : ByteArray)).size = bw.size + 2 := (by rw [ByteArray.size_append]; rfl); omega) HB.out.bel.size ?_; intro v' w5 hown hgrow _; have HB5 := HB.out.grown hown hgrow; rw [← HQ.out, ← HT2.out] at HB5; have HB := Aside0.mk HB5; clear HB5 hown hgrow; obtain ⟨ao2, cap2, rfl⟩ := HB.out.slice))
            go_ret2
            exact ⟨by rw [emitRes, if_neg (by have := HPX.out; have h2 := HBG.out; rw [HT.out] at this; omega)]; rfl, HB.out.bel⟩
        · have k2 : (m.f0 == 2) = false := beq_eq_false_iff_ne.mpr hk2
          have k2b : (2 == m.f0) = false := beq_eq_false_iff_ne.mpr (fun e => hk2 e.symm)
          by_cases hk3 : m.f0 = 3
          · have k3 : (m.f0 == 3) = true := by rw [hk3]; rfl
            have k3b : (3 == m.f0) = true := by rw [hk3]; rfl
            obtain ⟨bw, hbw⟩ : ∃ s, s = boxW m.f6.f0 m.f6.f1 m.f6.f2 m.f6.f3 := ⟨_, rfl⟩
            have HBW := Aside0.mk hbw
            have hbs : bw.size ≤ 200 := by rw [hbw]; exact boxW_size _ _ _ _
            have HBS := Aside0.mk hbs
            have HQ : Aside0 (markLines m = ((⟨#[113, 10]⟩ : ByteArray) ++ bw ++ (⟨#[87, 32, 110, 10]⟩ : ByteArray)).data.toList) := ⟨by rw [hbw]; simp [markLines, hk1, hk2, hk3, bs_list, box_lines, line, Lib.join, List.intercalate]⟩
            clear hbw
            have z1 : (9223372036854775807 < 2 + bw.size) = False := eq_false (by omega)
            have z2 : (9223372036854775807 < 2 + bw.size + 4) = False := eq_false (by omega)
            clear hbs
            obtain ⟨T2, hT2⟩ : ∃ T2, T2 = T ++ markLines m := ⟨_, rfl⟩
            rw [← hT2] at HT HT2L
            have HT2 := Aside0.mk hT2
            have y6 := blk_cell HP.out 6
            have y7 := blk_cell HP.out 7
            have y8 := blk_cell HP.out 8
            have y9 := blk_cell HP.out 9
            simp at y6 y7 y8 y9
            clear hT2 hk1 hk2 hk3
            by_cases hbig : T2.length ≤ 1048576
            · have HBG := Aside0.mk hbig
              have hn : (1048576 < (T2.length : Int)) = False := eq_false (by omega)
              clear hbig
              go_wp2_with (first | (go_at_call 37; refine (ref_box_as _ _ _ _ bw HBW.out _).mono ?_; rintro e w4 ⟨rfl, hb4⟩; have HB := Aside0.mk (HB.out.step hb4); clear hb4) | (at_builtin; refine Lib.wpList_append_own_stringF _ rfl _ _ 54 9 rfl w.heap.size 5 i0 Tryd.underlying54 Tryd.underlying9 HI0.out HZ0.out HZ1.out HZ2.out _ _ _ rfl HB.out.own (⟨#[113, 10]⟩ ++ bw ++ ⟨#[87, 32, 110, 10]⟩) rfl (by have := HT0.out; unfold maxLen; have := HBS.out; have e : ((⟨#[113, 10]⟩ : ByteArray) ++ bw ++ (⟨#[87, 32, 110, 10]⟩ : ByteArray)).size = 2 + bw.size + 4 := (by rw [ByteArray.size_append, ByteArray.size_append]; rfl); omega) (by have := HT0.out; have := HBS.out; have e : ((⟨#[113, 10]⟩ : ByteArray) ++ bw ++ (⟨#[87, 32, 110, 10]⟩ : ByteArray)).size = 2 + bw.size + 4 := (by rw [ByteArray.size_append, ByteArray.size_append]; rfl); omega) HB.out.bel.size ?_; intro v' w5 hown hgrow _; have HB5 := HB.out.grown hown hgrow; rw [← HQ.out, ← HT2.out] at HB5; have HB := Aside0.mk HB5; clear HB5 hown hgrow; obtain ⟨ao2, cap2, rfl⟩ := HB.out.slice))
              go_roundw
              case rel => exact ⟨i + 1, by have := HLT.out; omega, by rw [HW1.out], ⟨by rw [HT.out]; exact HB.out⟩, ⟨by rw [HT.out]; exact HBG.out⟩⟩
              case measure => have := HLT.out; rw [HW1.out]; simp only [intOf]; omega
            · have HBG := Aside0.mk hbig
              have hn : (1048576 < (T2.length : Int)) = True := eq_true (by omega)
              clear hbig
              go_wp2_with (first | (go_at_call 37; refine (ref_box_as _ _ _ _ bw HBW.out _).mono ?_; rintro e w4 ⟨rfl, hb4⟩; have HB := Aside0.mk (HB.out.step hb4); clear hb4) | (at_builtin; refine Lib.wpList_append_own_stringF _ rfl _ _ 54 9 rfl w.heap.size 5 i0 Tryd.underlying54 Tryd.underlying9 HI0.out HZ0.out HZ1.out HZ2.out _ _ _ rfl HB.out.own (⟨#[113, 10]⟩ ++ bw ++ ⟨#[87, 32, 110, 10]⟩) rfl (by have := HT0.out; unfold maxLen; have := HBS.out; have e : ((⟨#[113, 10]⟩ : ByteArray) ++ bw ++ (⟨#[87, 32, 110, 10]⟩ : ByteArray)).size = 2 + bw.size + 4 := (by rw [ByteArray.size_append, ByteArray.size_append]; rfl); omega) (by have := HT0.out; have := HBS.out; have e : ((⟨#[113, 10]⟩ : ByteArray) ++ bw ++ (⟨#[87, 32, 110, 10]⟩ : ByteArray)).size = 2 + bw.size + 4 := (by rw [ByteArray.size_append, ByteArray.size_append]; rfl); omega) HB.out.bel.size ?_; intro v' w5 hown hgrow _; have HB5 := HB.out.grown hown hgrow; rw [← HQ.out, ← HT2.out] at HB5; have HB := Aside0.mk HB5; clear HB5 hown hgrow; obtain ⟨ao2, cap2, rfl⟩ := HB.out.slice))
              go_ret2
              exact ⟨by rw [emitRes, if_neg (by have := HPX.out; have h2 := HBG.out; rw [HT.out] at this; omega)]; rfl, HB.out.bel⟩
          · have k3 : (m.f0 == 3) = false := beq_eq_false_iff_ne.mpr hk3
            have k3b : (3 == m.f0) = false := beq_eq_false_iff_ne.mpr (fun e => hk3 e.symm)
            have HQ : Aside0 (markLines m = (⟨#[81, 10]⟩ : ByteArray).data.toList) := ⟨by rw [markLines, if_neg hk1, if_neg hk2, if_neg hk3]; rfl⟩
            obtain ⟨T2, hT2⟩ : ∃ T2, T2 = T ++ markLines m := ⟨_, rfl⟩
            rw [← hT2] at HT HT2L
            have HT2 := Aside0.mk hT2
            clear hT2 hk1 hk2 hk3
            by_cases hbig : T2.length ≤ 1048576
            · have HBG := Aside0.mk hbig
              have hn : (1048576 < (T2.length : Int)) = False := eq_false (by omega)
              clear hbig
              go_wp2_with (at_builtin; refine Lib.wpList_append_own_stringF _ rfl _ _ 54 9 rfl w.heap.size 5 i0 Tryd.underlying54 Tryd.underlying9 HI0.out HZ0.out HZ1.out HZ2.out _ _ _ rfl HB.out.own ⟨#[81, 10]⟩ rfl (by have := HT0.out; unfold maxLen; have : (⟨#[81, 10]⟩ : ByteArray).size = 2 := rfl; omega) (by have := HT0.out; have : (⟨#[81, 10]⟩ : ByteArray).size = 2 := rfl; omega) HB.out.bel.size ?_; intro v' w5 hown hgrow _; have HB5 := HB.out.grown hown hgrow; rw [← HQ.out, ← HT2.out] at HB5; have HB := Aside0.mk HB5; clear HB5 hown hgrow; obtain ⟨ao2, cap2, rfl⟩ := HB.out.slice)
              go_roundw
              case rel => exact ⟨i + 1, by have := HLT.out; omega, by rw [HW1.out], ⟨by rw [HT.out]; exact HB.out⟩, ⟨by rw [HT.out]; exact HBG.out⟩⟩
              case measure => have := HLT.out; rw [HW1.out]; simp only [intOf]; omega
            · have HBG := Aside0.mk hbig
              have hn : (1048576 < (T2.length : Int)) = True := eq_true (by omega)
              clear hbig
              go_wp2_with (at_builtin; refine Lib.wpList_append_own_stringF _ rfl _ _ 54 9 rfl w.heap.size 5 i0 Tryd.underlying54 Tryd.underlying9 HI0.out HZ0.out HZ1.out HZ2.out _ _ _ rfl HB.out.own ⟨#[81, 10]⟩ rfl (by have := HT0.out; unfold maxLen; have : (⟨#[81, 10]⟩ : ByteArray).size = 2 := rfl; omega) (by have := HT0.out; have : (⟨#[81, 10]⟩ : ByteArray).size = 2 := rfl; omega) HB.out.bel.size ?_; intro v' w5 hown hgrow _; have HB5 := HB.out.grown hown hgrow; rw [← HQ.out, ← HT2.out] at HB5; have HB := Aside0.mk HB5; clear HB5 hown hgrow; obtain ⟨ao2, cap2, rfl⟩ := HB.out.slice)
              go_ret2
              exact ⟨by rw [emitRes, if_neg (by have := HPX.out; have h2 := HBG.out; rw [HT.out] at this; omega)]; rfl, HB.out.bel⟩
    · have hie : i = l.length := by omega
      subst hie
      rw [List.take_length] at HB HT0
      obtain ⟨ao, cap, rfl⟩ := HB.out.slice
      have hcv := row_string HB.out
      go_wp2
      go_ret2
      exact ⟨by rw [emitRes, if_pos HT0.out]; rfl, HB.out.bel⟩
end Go.Proofs.YtekifiblehmafaaDoor.Y
end
