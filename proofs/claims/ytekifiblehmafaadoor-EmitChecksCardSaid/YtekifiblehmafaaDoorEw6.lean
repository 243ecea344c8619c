/- Part 6 of a proof: what it needs of the program's functions as plain Lean functions, with the proof that the machine's calls come to them, and of plain laws; put together out of smaller texts. No conditions besides those that each statement names. -/
import Derived.Test.YtekifiblehmafaaDoorEw2
import Derived.Test.YtekifiblehmafaaDoorEw4
import Derived.Test.YtekifiblehmafaaDoorEw5
section
namespace Go.Proofs.YtekifiblehmafaaDoor.X
end Go.Proofs.YtekifiblehmafaaDoor.X
namespace Go.Proofs.YtekifiblehmafaaDoor.Y
open Go.RowKit Go.Proofs.YtekifiblehmafaaDoor.X Go.Proofs.YtekifiblehmafaaDoorW.PrintWords Go.Proofs.YtekifiblehmafaaDoorW.PrintLast Go.Proofs.YtekifiblehmafaaDoorW.PrintMore
attribute [local go_sem] max2_int min2_int max_two min_two max_three min_three max_four min_four   -- for this text's walks alone
set_option linter.unusedVariables false
set_option linter.unusedSimpArgs false
attribute [local go_sem high] eqA48
mutual
def emit_may.l0 : Nat → List Int → Int → Int → Int → Int → Int → Int → Int → List Int → Int → Int → Int → Int → Option (Bool)
  | 0, _, _, _, _, _, _, _, _, _, _, _, _, _ => none
  | k + 1, x10, x11, x12, x113000, x113001, x113002, x113003, x113004, x113005, x113006, x113007, x113008, x113009 => if x12 < x11 then (if 0 ≤ x12 then (if x12 < (x10.length : Int) then (if (rd x10 x12) < 0 then (some false) else (if (rd x10 x12) > 65535 then (some false) else (emit_may.l0 k x10 x11 (wrap64 (x12 + 1)) x113000 x113001 x113002 x113003 x113004 x113005 x113006 x113007 x113008 x113009))) else (none)) else (none)) else (if (x113005.length : Int) > 0 then (if 0 ≤ x113001 then (if x113001 ≤ 99 then (if 1 ≤ x113002 then ((fixed_In.f x113002).bind fun t114 => (if t114 = true then ((fixed_In.f x113003).bind fun t115 => (if t115 = true then ((fixed_In.f x113004).bind fun t116 => (if t116 = true then (some (x113006 == 0 && (x113007 == 0 && (x113008 == 0 && (x113009 == 0))))) else (some false))) else (some false))) else (some false))) else (some false)) else (some false)) else (some false)) else (some false))
def emit_may.j1 : Nat → Int → Bool → Int → Int → Int → Int → Int → List Int → Int → Int → Int → Int → Option (Bool)
  | 0, _, _, _, _, _, _, _, _, _, _, _, _ => none
  | k + 1, x6, x63, x113000, x113001, x113002, x113003, x113004, x113005, x113006, x113007, x113008, x113009 => if x63 = true then ((emit_same.f k x113000 x113001 x113002 x113003 x113004 x113005 x113006 x113007 x113008 x113009 x113000 0 0 0 0 ([] : List Int) x113006 x113007 x113008 x113009).bind fun t117 => (if t117 = true then ((rect_May.f x113006 x113007 x113008 x113009).bind fun t118 => (if t118 = true then ((fixed_In.f (wrap64 (x113008 - x113006))).bind fun t119 => (if t119 = true then ((fixed_In.f (wrap64 (x113009 - x113007))).bind fun t120 => (some t120)) else (some false))) else (some false))) else (some false))) else (if x6 = 4 then ((emit_same.f k x113000 x113001 x113002 x113003 x113004 x113005 x113006 x113007 x113008 x113009 x113000 0 0 0 0 ([] : List Int) 0 0 0 0).bind fun t121 => (some t121)) else (some false))
end
def emit_may.f (k : Nat) (a0_0 : Int) (a0_1 : Int) (a0_2 : Int) (a0_3 : Int) (a0_4 : Int) (l0_5 : List Int) (a0_6 : Int) (a0_7 : Int) (a0_8 : Int) (a0_9 : Int) : Option (Bool) := if a0_0 = 1 then (emit_may.l0 k l0_5 (l0_5.length : Int) 0 a0_0 a0_1 a0_2 a0_3 a0_4 l0_5 a0_6 a0_7 a0_8 a0_9) else (if a0_0 = 2 then (emit_may.j1 k a0_0 (a0_0 == 2) a0_0 a0_1 a0_2 a0_3 a0_4 l0_5 a0_6 a0_7 a0_8 a0_9) else (emit_may.j1 k a0_0 (a0_0 == 3) a0_0 a0_1 a0_2 a0_3 a0_4 l0_5 a0_6 a0_7 a0_8 a0_9))
theorem emit_may.mono_l : ∀ k, (∀ y0 y1 y2 y3 y4 y5 y6 y7 y8 y9 y10 y11 y12, LeO (emit_may.l0 k y0 y1 y2 y3 y4 y5 y6 y7 y8 y9 y10 y11 y12) (emit_may.l0 (k + 1) y0 y1 y2 y3 y4 y5 y6 y7 y8 y9 y10 y11 y12)) ∧ (∀ y0 y1 y2 y3 y4 y5 y6 y7 y8 y9 y10 y11, LeO (emit_may.j1 k y0 y1 y2 y3 y4 y5 y6 y7 y8 y9 y10 y11) (emit_may.j1 (k + 1) y0 y1 y2 y3 y4 y5 y6 y7 y8 y9 y10 y11))
  | 0 => ⟨fun _ _ _ _ _ _ _ _ _ _ _ _ _ r h => by simp [emit_may.l0] at h, fun _ _ _ _ _ _ _ _ _ _ _ _ r h => by simp [emit_may.j1] at h⟩
  | k + 1 => by
    obtain ⟨ih0, ih1⟩ := emit_may.mono_l k
    refine ⟨?_, ?_⟩
    · intro y0 y1 y2 y3 y4 y5 y6 y7 y8 y9 y10 y11 y12
      unfold emit_may.l0
      repeat' first
      | (with_reducible exact ih0 _ _ _ _ _ _ _ _ _ _ _ _ _)
      | (with_reducible exact ih1 _ _ _ _ _ _ _ _ _ _ _ _)
      | (with_reducible exact emit_same.mono _ _ _ _ _ _ _ _ _ _ _ _ _ _ _ _ _ _ _ _ _)
      | (with_reducible exact LeO.refl _)
      | (with_reducible exact LeO.none _)
      | (with_reducible refine LeO.ite ?_ ?_)
      | (with_reducible refine LeO.bind ?_ (fun _ => ?_))
      | exact ih0 _ _ _ _ _ _ _ _ _ _ _ _ _
      | exact ih1 _ _ _ _ _ _ _ _ _ _ _ _
      | exact emit_same.mono _ _ _ _ _ _ _ _ _ _ _ _ _ _ _ _ _ _ _ _ _
      | exact LeO.none _
      | refine LeO.ite ?_ ?_
      | refine LeO.bind ?_ (fun _ => ?_)
    · intro y0 y1 y2 y3 y4 y5 y6 y7 y8 y9 y10 y11
      unfold emit_may.j1
      repeat' first
      | (with_reducible exact ih0 _ _ _ _ _ _ _ _ _ _ _ _ _)
      | (with_reducible exact ih1 _ _ _ _ _ _ _ _ _ _ _ _)
      | (with_reducible exact emit_same.mono _ _ _ _ _ _ _ _ _ _ _ _ _ _ _ _ _ _ _ _ _)
      | (with_reducible exact LeO.refl _)
      | (with_reducible exact LeO.none _)
      | (with_reducible refine LeO.ite ?_ ?_)
      | (with_reducible refine LeO.bind ?_ (fun _ => ?_))
      | exact ih0 _ _ _ _ _ _ _ _ _ _ _ _ _
      | exact ih1 _ _ _ _ _ _ _ _ _ _ _ _
      | exact emit_same.mono _ _ _ _ _ _ _ _ _ _ _ _ _ _ _ _ _ _ _ _ _
      | exact LeO.none _
      | refine LeO.ite ?_ ?_
      | refine LeO.bind ?_ (fun _ => ?_)
theorem emit_may.mono : ∀ a0 a1 a2 a3 a4 a5 a6 a7 a8 a9 k, LeO (emit_may.f k a0 a1 a2 a3 a4 a5 a6 a7 a8 a9) (emit_may.f (k + 1) a0 a1 a2 a3 a4 a5 a6 a7 a8 a9) := by
  intro a0 a1 a2 a3 a4 a5 a6 a7 a8 a9 k
  obtain ⟨ih0, ih1⟩ := emit_may.mono_l k
  unfold emit_may.f
  repeat' first
      | (with_reducible exact ih0 _ _ _ _ _ _ _ _ _ _ _ _ _)
      | (with_reducible exact ih1 _ _ _ _ _ _ _ _ _ _ _ _)
      | (with_reducible exact emit_same.mono _ _ _ _ _ _ _ _ _ _ _ _ _ _ _ _ _ _ _ _ _)
      | (with_reducible exact LeO.refl _)
      | (with_reducible exact LeO.none _)
      | (with_reducible refine LeO.ite ?_ ?_)
      | (with_reducible refine LeO.bind ?_ (fun _ => ?_))
      | exact ih0 _ _ _ _ _ _ _ _ _ _ _ _ _
      | exact ih1 _ _ _ _ _ _ _ _ _ _ _ _
      | exact emit_same.mono _ _ _ _ _ _ _ _ _ _ _ _ _ _ _ _ _ _ _ _ _
      | exact LeO.none _
      | refine LeO.ite ?_ ?_
      | refine LeO.bind ?_ (fun _ => ?_)
set_option maxHeartbeats 8000000 in
set_option maxRecDepth 100000 in
theorem emit_may.calls (k : Nat) (a0_0 : Int) (a0_1 : Int) (a0_2 : Int) (a0_3 : Int) (a0_4 : Int) (A0_5 : Option Addr) (c0_5 : Nat) (l0_5 : List Int) (a0_6 : Int) (a0_7 : Int) (a0_8 : Int) (a0_9 : Int) (r : Bool) (w : World) (hr0_5 : Kd.C (Kd.int .i64) w A0_5 l0_5.length l0_5) (hc0_5 : l0_5.length ≤ c0_5) (h : emit_may.f k a0_0 a0_1 a0_2 a0_3 a0_4 l0_5 a0_6 a0_7 a0_8 a0_9 = some r) :
    Calls Tryd.prog 39 #[.agg #[.int .i64 a0_0, .int .i64 a0_1, .int .i64 a0_2, .int .i64 a0_3, .int .i64 a0_4, .slice A0_5 l0_5.length c0_5, .int .i64 a0_6, .int .i64 a0_7, .int .i64 a0_8, .int .i64 a0_9]] w fun e w' => e = .returned (.bool r) ∧ Below w.heap.size w w' := by
  have hu50 := Tryd.underlying50
  have hu48 := Tryd.underlying48
  have HR0_5 := Aside0.mk hr0_5
  have HC0_5 := Aside0.mk hc0_5
  clear hr0_5 hc0_5
  have HB := Aside0.mk (Below.refl w.heap.size w)
  have H : (if a0_0 = 1 then (emit_may.l0 k l0_5 (l0_5.length : Int) 0 a0_0 a0_1 a0_2 a0_3 a0_4 l0_5 a0_6 a0_7 a0_8 a0_9) else (if a0_0 = 2 then (emit_may.j1 k a0_0 (a0_0 == 2) a0_0 a0_1 a0_2 a0_3 a0_4 l0_5 a0_6 a0_7 a0_8 a0_9) else (emit_may.j1 k a0_0 (a0_0 == 3) a0_0 a0_1 a0_2 a0_3 a0_4 l0_5 a0_6 a0_7 a0_8 a0_9))) = some r := h
  clear h
  by_cases c2 : a0_0 = 1
  · rw [if_pos c2] at H
    have c2b0 : (a0_0 == 1) = true := beq_iff_eq.mpr c2
    have c2b1 : (a0_0 != 1) = false := bne_eq_false_iff_eq.mpr c2
    clear c2
    have H' := Aside0.mk H
    clear H
    go_enter Tryd.func39, Tryd.ntmps39
    go_wp2_with (first | ((with_reducible refine gate_dst (N := 1) rfl ?_); refine box_event ?hg (N := 1) ?hd (cs := #[.int .i64 a0_0, .int .i64 a0_1, .int .i64 a0_2, .int .i64 a0_3, .int .i64 a0_4, .slice A0_5 l0_5.length c0_5, .int .i64 a0_6, .int .i64 a0_7, .int .i64 a0_8, .int .i64 a0_9]) (t := 50) ?hr ?_; (case hd => rfl); (case hg => rfl); (case hr => first | (go_simp; done) | (go_simp; rfl)); intro gb112 hg w3 hbox hb; have n0_ := Aside0.mk (below_step (by repeat (first | (with_reducible first | exact HB.out | apply below_alloc | apply pw_below_drewN | apply below_drew1) | exact HB.out)) hb); have n1_ := Aside0.mk (hbox); have n2_ := Aside0.mk ((by rw [hg]; exact (below_size (by repeat (first | (with_reducible first | exact HB.out | apply below_alloc | apply pw_below_drewN | apply below_drew1) | exact HB.out))) : w.heap.size ≤ gb112)); have n3_ := Aside0.mk ((by rw [hg]; exact (below_size (by repeat (first | (with_reducible first | exact HB.out | apply below_alloc | apply pw_below_drewN | apply below_drew1) | exact HB.out))) : w.heap.size ≤ gb112)); clear HB; have HB := n0_; have BK112 := n1_; have GW112 := n2_; have GE112 := n3_; clear n0_ n1_ n2_ n3_; clear hb hbox hg; have hcz4_0 : w3.cell? ⟨gb112, 0, none⟩ = some (.int .i64 a0_0) := (blk_cell BK112.out 0).trans rfl; have hcz4_1 : w3.cell? ⟨gb112, 1, none⟩ = some (.int .i64 a0_1) := (blk_cell BK112.out 1).trans rfl; have hcz4_2 : w3.cell? ⟨gb112, 2, none⟩ = some (.int .i64 a0_2) := (blk_cell BK112.out 2).trans rfl; have hcz4_3 : w3.cell? ⟨gb112, 3, none⟩ = some (.int .i64 a0_3) := (blk_cell BK112.out 3).trans rfl; have hcz4_4 : w3.cell? ⟨gb112, 4, none⟩ = some (.int .i64 a0_4) := (blk_cell BK112.out 4).trans rfl; have hcz4_5 : w3.cell? ⟨gb112, 5, none⟩ = some (.slice A0_5 l0_5.length c0_5) := (blk_cell BK112.out 5).trans rfl; have hcz4_6 : w3.cell? ⟨gb112, 6, none⟩ = some (.int .i64 a0_6) := (blk_cell BK112.out 6).trans rfl; have hcz4_7 : w3.cell? ⟨gb112, 7, none⟩ = some (.int .i64 a0_7) := (blk_cell BK112.out 7).trans rfl; have hcz4_8 : w3.cell? ⟨gb112, 8, none⟩ = some (.int .i64 a0_8) := (blk_cell BK112.out 8).trans rfl; have hcz4_9 : w3.cell? ⟨gb112, 9, none⟩ = some (.int .i64 a0_9) := (blk_cell BK112.out 9).trans rfl; have hfz4_0 := blk_frozen BK112.out 0; have hfz4_1 := blk_frozen BK112.out 1; have hfz4_2 := blk_frozen BK112.out 2; have hfz4_3 := blk_frozen BK112.out 3; have hfz4_4 := blk_frozen BK112.out 4; have hfz4_5 := blk_frozen BK112.out 5; have hfz4_6 := blk_frozen BK112.out 6; have hfz4_7 := blk_frozen BK112.out 7; have hfz4_8 := blk_frozen BK112.out 8; have hfz4_9 := blk_frozen BK112.out 9))
    go_loopg [12] k (fun kq v12 w' => ∃ (x12_1 : Int), v12 = .int .i64 x12_1 ∧ Aside0 (emit_may.l0 kq l0_5 (l0_5.length : Int) x12_1 a0_0 a0_1 a0_2 a0_3 a0_4 l0_5 a0_6 a0_7 a0_8 a0_9 = some r) ∧ Aside0 (kq ≤ k) ∧ Aside0 (w'.heap[gb112]? = some (.cells #[.int .i64 a0_0, .int .i64 a0_1, .int .i64 a0_2, .int .i64 a0_3, .int .i64 a0_4, (.slice A0_5 l0_5.length c0_5), .int .i64 a0_6, .int .i64 a0_7, .int .i64 a0_8, .int .i64 a0_9] 50 (0, 0))) ∧ Aside0 (Below w.heap.size w w'))
    case atStart => exact ⟨(0), (by first | rfl | (simp; done) | (simp [*]; done) | (simp [ne_nil_]; done)), H', ⟨Nat.le_refl _⟩, ⟨by (with_reducible repeat (first | refine blk_drewN ?_ _ | refine blk_drew ?_ | refine blk_alloc ?_ _)); exact BK112.out⟩, ⟨by repeat (first | (with_reducible first | exact HB.out | apply below_alloc | apply pw_below_drewN | apply below_drew1 | refine below_set ?_ GE112.out) | exact HB.out)⟩⟩
    case round =>
      clear H'
      try clear c2
      try clear c2b0
      try clear c2b1
      try clear p2
      try clear c3
      try clear hcz4_0
      try clear hcz4_1
      try clear hcz4_2
      try clear hcz4_3
      try clear hcz4_4
      try clear hcz4_5
      try clear hcz4_6
      try clear hcz4_7
      try clear hcz4_8
      try clear hcz4_9
      try clear hfz4_0
      try clear hfz4_1
      try clear hfz4_2
      try clear hfz4_3
      try clear hfz4_4
      try clear hfz4_5
      try clear hfz4_6
      try clear hfz4_7
      try clear hfz4_8
      try clear hfz4_9
      obtain ⟨x12_1, rfl, HA, HK1, BK112, HB⟩ := hrel
      cases gk with
      | zero => exact absurd HA.out (by simp [emit_may.l0])
      | succ k1 =>
        have H := HA.out
        clear HA
        simp only [emit_may.l0] at H
        by_cases c5 : x12_1 < (l0_5.length : Int)
        · rw [if_pos c5] at H
          have c5b0 : decide (x12_1 < (l0_5.length : Int)) = true := decide_eq_true c5
          clear c5
          by_cases c6 : 0 ≤ x12_1
          · rw [if_pos c6] at H
            have c6b0 : decide (0 ≤ x12_1) = true := decide_eq_true c6
            clear c6
            by_cases c7 : x12_1 < (l0_5.length : Int)
            · rw [if_pos c7] at H
              have c7b0 : decide (x12_1 < (l0_5.length : Int)) = true := decide_eq_true c7
              clear c7
              by_cases c8 : (rd l0_5 x12_1) < 0
              · rw [if_pos c8] at H
                have c8b0 : decide ((rd l0_5 x12_1) < 0) = true := decide_eq_true c8
                clear c8
                obtain rfl := Option.some.inj H
                have p113 : 0 ≤ (x12_1 : Int) := of_decide_eq_true (by first | (with_reducible assumption) | assumption)
                have q113 : x12_1 < (l0_5.length : Int) := of_decide_eq_true (by first | (with_reducible assumption) | assumption)
                obtain ⟨ad113, e113, hx113_0⟩ := Kd.at_int HR0_5.out x12_1 p113 q113
                cases e113
                replace hx113_0 := (HB.out.cell (World.block_lt_of_cell? w _ hx113_0)).trans hx113_0
                replace p113 := eq_true p113
                replace q113 := eq_true q113
                go_wp2
                go_ret
                exact ⟨by first | rfl | (simp [errW_none, errW_some] <;> rfl) | (simp [*, errW_none, errW_some] <;> rfl), by repeat (first | (with_reducible first | exact HB.out | apply below_alloc | apply pw_below_drewN | apply below_drew1 | refine below_set ?_ GE112.out) | exact HB.out)⟩
              · rw [if_neg c8] at H
                have c8b0 : decide ((rd l0_5 x12_1) < 0) = false := decide_eq_false c8
                clear c8
                by_cases c9 : (rd l0_5 x12_1) > 65535
                · rw [if_pos c9] at H
                  have c9b0 : decide (65535 < (rd l0_5 x12_1)) = true := decide_eq_true c9
                  clear c9
                  obtain rfl := Option.some.inj H
                  have p113 : 0 ≤ (x12_1 : Int) := of_decide_eq_true (by first | (with_reducible assumption) | assumption)
                  have q113 : x12_1 < (l0_5.length : Int) := of_decide_eq_true (by first | (with_reducible assumption) | assumption)
                  obtain ⟨ad113, e113, hx113_0⟩ := Kd.at_int HR0_5.out x12_1 p113 q113
                  cases e113
                  replace hx113_0 := (HB.out.cell (World.block_lt_of_cell? w _ hx113_0)).trans hx113_0
                  replace p113 := eq_true p113
                  replace q113 := eq_true q113
                  go_wp2
                  go_ret
                  exact ⟨by first | rfl | (simp [errW_none, errW_some] <;> rfl) | (simp [*, errW_none, errW_some] <;> rfl), by repeat (first | (with_reducible first | exact HB.out | apply below_alloc | apply pw_below_drewN | apply below_drew1 | refine below_set ?_ GE112.out) | exact HB.out)⟩
                · rw [if_neg c9] at H
                  have c9b0 : decide (65535 < (rd l0_5 x12_1)) = false := decide_eq_false c9
                  clear c9
                  have H' := Aside0.mk H
                  clear H
                  have p113 : 0 ≤ (x12_1 : Int) := of_decide_eq_true (by first | (with_reducible assumption) | assumption)
                  have q113 : x12_1 < (l0_5.length : Int) := of_decide_eq_true (by first | (with_reducible assumption) | assumption)
                  obtain ⟨ad113, e113, hx113_0⟩ := Kd.at_int HR0_5.out x12_1 p113 q113
                  cases e113
                  replace hx113_0 := (HB.out.cell (World.block_lt_of_cell? w _ hx113_0)).trans hx113_0
                  replace p113 := eq_true p113
                  replace q113 := eq_true q113
                  go_wp2
                  go_roundg k1
                  case measure => have := HK1.out; omega
                  case rel => exact ⟨(wrap64 (x12_1 + 1)), (by first | rfl | (simp; done) | (simp [*]; done) | (simp [ne_nil_]; done)), H', ⟨by have := HK1.out; omega⟩, ⟨by (with_reducible repeat (first | refine blk_drewN ?_ _ | refine blk_drew ?_ | refine blk_alloc ?_ _)); exact BK112.out⟩, ⟨by repeat (first | (with_reducible first | exact HB.out | apply below_alloc | apply pw_below_drewN | apply below_drew1 | refine below_set ?_ GE112.out) | exact HB.out)⟩⟩
            · rw [if_neg c7] at H
              exact absurd H (by simp)
          · rw [if_neg c6] at H
            exact absurd H (by simp)
        · rw [if_neg c5] at H
          have c5b0 : decide (x12_1 < (l0_5.length : Int)) = false := decide_eq_false c5
          clear c5
          by_cases c10 : (l0_5.length : Int) > 0
          · rw [if_pos c10] at H
            have c10b0 : decide (0 < (l0_5.length : Int)) = true := decide_eq_true c10
            have c10b1 : decide (0 < l0_5.length) = true := decide_eq_true (by omega)
            clear c10
            by_cases c11 : 0 ≤ a0_1
            · rw [if_pos c11] at H
              have c11b0 : decide (0 ≤ a0_1) = true := decide_eq_true c11
              clear c11
              by_cases c12 : a0_1 ≤ 99
              · rw [if_pos c12] at H
                have c12b0 : decide (a0_1 ≤ 99) = true := decide_eq_true c12
                clear c12
                by_cases c13 : 1 ≤ a0_2
                · rw [if_pos c13] at H
                  have c13b0 : decide (1 ≤ a0_2) = true := decide_eq_true c13
                  clear c13
                  replace H := Option.bind_eq_some_iff.mp H
                  obtain ⟨t114, A140, H⟩ := H
                  replace H : (if t114 = true then ((fixed_In.f a0_3).bind fun t115 => (if t115 = true then ((fixed_In.f a0_4).bind fun t116 => (if t116 = true then (some (a0_6 == 0 && (a0_7 == 0 && (a0_8 == 0 && (a0_9 == 0))))) else (some false))) else (some false))) else (some false)) = some r := H
                  have A14 := Aside0.mk A140
                  clear A140
                  by_cases c15 : t114 = true
                  · subst c15
                    have H1 : ((fixed_In.f a0_3).bind fun t115 => (if t115 = true then ((fixed_In.f a0_4).bind fun t116 => (if t116 = true then (some (a0_6 == 0 && (a0_7 == 0 && (a0_8 == 0 && (a0_9 == 0))))) else (some false))) else (some false))) = some r := by rw [if_pos rfl] at H; exact H
                    clear H
                    have H := H1
                    clear H1
                    replace H := Option.bind_eq_some_iff.mp H
                    obtain ⟨t115, A160, H⟩ := H
                    replace H : (if t115 = true then ((fixed_In.f a0_4).bind fun t116 => (if t116 = true then (some (a0_6 == 0 && (a0_7 == 0 && (a0_8 == 0 && (a0_9 == 0))))) else (some false))) else (some false)) = some r := H
                    have A16 := Aside0.mk A160
                    clear A160
                    by_cases c17 : t115 = true
                    · subst c17
                      have H1 : ((fixed_In.f a0_4).bind fun t116 => (if t116 = true then (some (a0_6 == 0 && (a0_7 == 0 && (a0_8 == 0 && (a0_9 == 0))))) else (some false))) = some r := by rw [if_pos rfl] at H; exact H
                      clear H
                      have H := H1
                      clear H1
                      replace H := Option.bind_eq_some_iff.mp H
                      obtain ⟨t116, A180, H⟩ := H
                      replace H : (if t116 = true then (some (a0_6 == 0 && (a0_7 == 0 && (a0_8 == 0 && (a0_9 == 0))))) else (some false)) = some r := H
                      have A18 := Aside0.mk A180
                      clear A180
                      by_cases c19 : t116 = true
                      · subst c19
                        have H1 : (some (a0_6 == 0 && (a0_7 == 0 && (a0_8 == 0 && (a0_9 == 0))))) = some r := by rw [if_pos rfl] at H; exact H
                        clear H
                        have H := H1
                        clear H1
                        obtain rfl := Option.some.inj H
                        have hcz20_0 : wr.cell? ⟨gb112, 0, none⟩ = some (.int .i64 a0_0) := (blk_cell BK112.out 0).trans rfl
                        have hcz20_1 : wr.cell? ⟨gb112, 1, none⟩ = some (.int .i64 a0_1) := (blk_cell BK112.out 1).trans rfl
                        have hcz20_2 : wr.cell? ⟨gb112, 2, none⟩ = some (.int .i64 a0_2) := (blk_cell BK112.out 2).trans rfl
                        have hcz20_3 : wr.cell? ⟨gb112, 3, none⟩ = some (.int .i64 a0_3) := (blk_cell BK112.out 3).trans rfl
                        have hcz20_4 : wr.cell? ⟨gb112, 4, none⟩ = some (.int .i64 a0_4) := (blk_cell BK112.out 4).trans rfl
                        have hcz20_5 : wr.cell? ⟨gb112, 5, none⟩ = some (.slice A0_5 l0_5.length c0_5) := (blk_cell BK112.out 5).trans rfl
                        have hcz20_6 : wr.cell? ⟨gb112, 6, none⟩ = some (.int .i64 a0_6) := (blk_cell BK112.out 6).trans rfl
                        have hcz20_7 : wr.cell? ⟨gb112, 7, none⟩ = some (.int .i64 a0_7) := (blk_cell BK112.out 7).trans rfl
                        have hcz20_8 : wr.cell? ⟨gb112, 8, none⟩ = some (.int .i64 a0_8) := (blk_cell BK112.out 8).trans rfl
                        have hcz20_9 : wr.cell? ⟨gb112, 9, none⟩ = some (.int .i64 a0_9) := (blk_cell BK112.out 9).trans rfl
                        have hfz20_0 := blk_frozen BK112.out 0
                        have hfz20_1 := blk_frozen BK112.out 1
                        have hfz20_2 := blk_frozen BK112.out 2
                        have hfz20_3 := blk_frozen BK112.out 3
                        have hfz20_4 := blk_frozen BK112.out 4
                        have hfz20_5 := blk_frozen BK112.out 5
                        have hfz20_6 := blk_frozen BK112.out 6
                        have hfz20_7 := blk_frozen BK112.out 7
                        have hfz20_8 := blk_frozen BK112.out 8
                        have hfz20_9 := blk_frozen BK112.out 9
                        go_wp2_with (first | (go_at_call 43; (with_reducible refine (fixed_In.calls a0_2 true _ A14.out).mono ?_); rintro e w' ⟨rfl, ⟨nd, rfl⟩⟩) | (go_at_call 43; (with_reducible refine (fixed_In.calls a0_3 true _ A16.out).mono ?_); rintro e w' ⟨rfl, ⟨nd, rfl⟩⟩) | (go_at_call 43; (with_reducible refine (fixed_In.calls a0_4 true _ A18.out).mono ?_); rintro e w' ⟨rfl, ⟨nd, rfl⟩⟩))
                        go_ret
                        exact ⟨by first | rfl | (simp [errW_none, errW_some] <;> rfl) | (simp [*, errW_none, errW_some] <;> rfl), by repeat (first | (with_reducible first | exact HB.out | apply below_alloc | apply pw_below_drewN | apply below_drew1 | refine below_set ?_ GE112.out) | exact HB.out)⟩
                      · replace c19 := Bool.eq_false_iff.mpr c19
                        subst c19
                        have H1 : (some false) = some r := by rw [if_neg (show ¬ (false = true) by decide)] at H; exact H
                        clear H
                        have H := H1
                        clear H1
                        obtain rfl := Option.some.inj H
                        have hcz21_0 : wr.cell? ⟨gb112, 0, none⟩ = some (.int .i64 a0_0) := (blk_cell BK112.out 0).trans rfl
                        have hcz21_1 : wr.cell? ⟨gb112, 1, none⟩ = some (.int .i64 a0_1) := (blk_cell BK112.out 1).trans rfl
                        have hcz21_2 : wr.cell? ⟨gb112, 2, none⟩ = some (.int .i64 a0_2) := (blk_cell BK112.out 2).trans rfl
                        have hcz21_3 : wr.cell? ⟨gb112, 3, none⟩ = some (.int .i64 a0_3) := (blk_cell BK112.out 3).trans rfl
                        have hcz21_4 : wr.cell? ⟨gb112, 4, none⟩ = some (.int .i64 a0_4) := (blk_cell BK112.out 4).trans rfl
                        have hcz21_5 : wr.cell? ⟨gb112, 5, none⟩ = some (.slice A0_5 l0_5.length c0_5) := (blk_cell BK112.out 5).trans rfl
                        have hcz21_6 : wr.cell? ⟨gb112, 6, none⟩ = some (.int .i64 a0_6) := (blk_cell BK112.out 6).trans rfl
                        have hcz21_7 : wr.cell? ⟨gb112, 7, none⟩ = some (.int .i64 a0_7) := (blk_cell BK112.out 7).trans rfl
                        have hcz21_8 : wr.cell? ⟨gb112, 8, none⟩ = some (.int .i64 a0_8) := (blk_cell BK112.out 8).trans rfl
                        have hcz21_9 : wr.cell? ⟨gb112, 9, none⟩ = some (.int .i64 a0_9) := (blk_cell BK112.out 9).trans rfl
                        have hfz21_0 := blk_frozen BK112.out 0
                        have hfz21_1 := blk_frozen BK112.out 1
                        have hfz21_2 := blk_frozen BK112.out 2
                        have hfz21_3 := blk_frozen BK112.out 3
                        have hfz21_4 := blk_frozen BK112.out 4
                        have hfz21_5 := blk_frozen BK112.out 5
                        have hfz21_6 := blk_frozen BK112.out 6
                        have hfz21_7 := blk_frozen BK112.out 7
                        have hfz21_8 := blk_frozen BK112.out 8
                        have hfz21_9 := blk_frozen BK112.out 9
                        go_wp2_with (first | (go_at_call 43; (with_reducible refine (fixed_In.calls a0_2 true _ A14.out).mono ?_); rintro e w' ⟨rfl, ⟨nd, rfl⟩⟩) | (go_at_call 43; (with_reducible refine (fixed_In.calls a0_3 true _ A16.out).mono ?_); rintro e w' ⟨rfl, ⟨nd, rfl⟩⟩) | (go_at_call 43; (with_reducible refine (fixed_In.calls a0_4 false _ A18.out).mono ?_); rintro e w' ⟨rfl, ⟨nd, rfl⟩⟩))
                        go_ret
                        exact ⟨by first | rfl | (simp [errW_none, errW_some] <;> rfl) | (simp [*, errW_none, errW_some] <;> rfl), by repeat (first | (with_reducible first | exact HB.out | apply below_alloc | apply pw_below_drewN | apply below_drew1 | refine below_set ?_ GE112.out) | exact HB.out)⟩
                    · replace c17 := Bool.eq_false_iff.mpr c17
                      subst c17
                      have H1 : (some false) = some r := by rw [if_neg (show ¬ (false = true) by decide)] at H; exact H
                      clear H
                      have H := H1
                      clear H1
                      obtain rfl := Option.some.inj H
                      have hcz22_0 : wr.cell? ⟨gb112, 0, none⟩ = some (.int .i64 a0_0) := (blk_cell BK112.out 0).trans rfl
                      have hcz22_1 : wr.cell? ⟨gb112, 1, none⟩ = some (.int .i64 a0_1) := (blk_cell BK112.out 1).trans rfl
                      have hcz22_2 : wr.cell? ⟨gb112, 2, none⟩ = some (.int .i64 a0_2) := (blk_cell BK112.out 2).trans rfl
                      have hcz22_3 : wr.cell? ⟨gb112, 3, none⟩ = some (.int .i64 a0_3) := (blk_cell BK112.out 3).trans rfl
                      have hcz22_4 : wr.cell? ⟨gb112, 4, none⟩ = some (.int .i64 a0_4) := (blk_cell BK112.out 4).trans rfl
                      have hcz22_5 : wr.cell? ⟨gb112, 5, none⟩ = some (.slice A0_5 l0_5.length c0_5) := (blk_cell BK112.out 5).trans rfl
                      have hcz22_6 : wr.cell? ⟨gb112, 6, none⟩ = some (.int .i64 a0_6) := (blk_cell BK112.out 6).trans rfl
                      have hcz22_7 : wr.cell? ⟨gb112, 7, none⟩ = some (.int .i64 a0_7) := (blk_cell BK112.out 7).trans rfl
                      have hcz22_8 : wr.cell? ⟨gb112, 8, none⟩ = some (.int .i64 a0_8) := (blk_cell BK112.out 8).trans rfl
                      have hcz22_9 : wr.cell? ⟨gb112, 9, none⟩ = some (.int .i64 a0_9) := (blk_cell BK112.out 9).trans rfl
                      have hfz22_0 := blk_frozen BK112.out 0
                      have hfz22_1 := blk_frozen BK112.out 1
                      have hfz22_2 := blk_frozen BK112.out 2
                      have hfz22_3 := blk_frozen BK112.out 3
                      have hfz22_4 := blk_frozen BK112.out 4
                      have hfz22_5 := blk_frozen BK112.out 5
                      have hfz22_6 := blk_frozen BK112.out 6
                      have hfz22_7 := blk_frozen BK112.out 7
                      have hfz22_8 := blk_frozen BK112.out 8
                      have hfz22_9 := blk_frozen BK112.out 9
                      go_wp2_with (first | (go_at_call 43; (with_reducible refine (fixed_In.calls a0_2 true _ A14.out).mono ?_); rintro e w' ⟨rfl, ⟨nd, rfl⟩⟩) | (go_at_call 43; (with_reducible refine (fixed_In.calls a0_3 false _ A16.out).mono ?_); rintro e w' ⟨rfl, ⟨nd, rfl⟩⟩))
                      go_ret
                      exact ⟨by first | rfl | (simp [errW_none, errW_some] <;> rfl) | (simp [*, errW_none, errW_some] <;> rfl), by repeat (first | (with_reducible first | exact HB.out | apply below_alloc | apply pw_below_drewN | apply below_drew1 | refine below_set ?_ GE112.out) | exact HB.out)⟩
                  · replace c15 := Bool.eq_false_iff.mpr c15
                    subst c15
                    have H1 : (some false) = some r := by rw [if_neg (show ¬ (false = true) by decide)] at H; exact H
                    clear H
                    have H := H1
                    clear H1
                    obtain rfl := Option.some.inj H
                    have hcz23_0 : wr.cell? ⟨gb112, 0, none⟩ = some (.int .i64 a0_0) := (blk_cell BK112.out 0).trans rfl
                    have hcz23_1 : wr.cell? ⟨gb112, 1, none⟩ = some (.int .i64 a0_1) := (blk_cell BK112.out 1).trans rfl
                    have hcz23_2 : wr.cell? ⟨gb112, 2, none⟩ = some (.int .i64 a0_2) := (blk_cell BK112.out 2).trans rfl
                    have hcz23_3 : wr.cell? ⟨gb112, 3, none⟩ = some (.int .i64 a0_3) := (blk_cell BK112.out 3).trans rfl
                    have hcz23_4 : wr.cell? ⟨gb112, 4, none⟩ = some (.int .i64 a0_4) := (blk_cell BK112.out 4).trans rfl
                    have hcz23_5 : wr.cell? ⟨gb112, 5, none⟩ = some (.slice A0_5 l0_5.length c0_5) := (blk_cell BK112.out 5).trans rfl
                    have hcz23_6 : wr.cell? ⟨gb112, 6, none⟩ = some (.int .i64 a0_6) := (blk_cell BK112.out 6).trans rfl
                    have hcz23_7 : wr.cell? ⟨gb112, 7, none⟩ = some (.int .i64 a0_7) := (blk_cell BK112.out 7).trans rfl
                    have hcz23_8 : wr.cell? ⟨gb112, 8, none⟩ = some (.int .i64 a0_8) := (blk_cell BK112.out 8).trans rfl
                    have hcz23_9 : wr.cell? ⟨gb112, 9, none⟩ = some (.int .i64 a0_9) := (blk_cell BK112.out 9).trans rfl
                    have hfz23_0 := blk_frozen BK112.out 0
                    have hfz23_1 := blk_frozen BK112.out 1
                    have hfz23_2 := blk_frozen BK112.out 2
                    have hfz23_3 := blk_frozen BK112.out 3
                    have hfz23_4 := blk_frozen BK112.out 4
                    have hfz23_5 := blk_frozen BK112.out 5
                    have hfz23_6 := blk_frozen BK112.out 6
                    have hfz23_7 := blk_frozen BK112.out 7
                    have hfz23_8 := blk_frozen BK112.out 8
                    have hfz23_9 := blk_frozen BK112.out 9
                    go_wp2_with (first | (go_at_call 43; (with_reducible refine (fixed_In.calls a0_2 false _ A14.out).mono ?_); rintro e w' ⟨rfl, ⟨nd, rfl⟩⟩))
                    go_ret
                    exact ⟨by first | rfl | (simp [errW_none, errW_some] <;> rfl) | (simp [*, errW_none, errW_some] <;> rfl), by repeat (first | (with_reducible first | exact HB.out | apply below_alloc | apply pw_below_drewN | apply below_drew1 | refine below_set ?_ GE112.out) | exact HB.out)⟩
                · rw [if_neg c13] at H
                  have c13b0 : decide (1 ≤ a0_2) = false := decide_eq_false c13
                  clear c13
                  obtain rfl := Option.some.inj H
                  have hcz24_0 : wr.cell? ⟨gb112, 0, none⟩ = some (.int .i64 a0_0) := (blk_cell BK112.out 0).trans rfl
                  have hcz24_1 : wr.cell? ⟨gb112, 1, none⟩ = some (.int .i64 a0_1) := (blk_cell BK112.out 1).trans rfl
                  have hcz24_2 : wr.cell? ⟨gb112, 2, none⟩ = some (.int .i64 a0_2) := (blk_cell BK112.out 2).trans rfl
                  have hcz24_3 : wr.cell? ⟨gb112, 3, none⟩ = some (.int .i64 a0_3) := (blk_cell BK112.out 3).trans rfl
                  have hcz24_4 : wr.cell? ⟨gb112, 4, none⟩ = some (.int .i64 a0_4) := (blk_cell BK112.out 4).trans rfl
                  have hcz24_5 : wr.cell? ⟨gb112, 5, none⟩ = some (.slice A0_5 l0_5.length c0_5) := (blk_cell BK112.out 5).trans rfl
                  have hcz24_6 : wr.cell? ⟨gb112, 6, none⟩ = some (.int .i64 a0_6) := (blk_cell BK112.out 6).trans rfl
                  have hcz24_7 : wr.cell? ⟨gb112, 7, none⟩ = some (.int .i64 a0_7) := (blk_cell BK112.out 7).trans rfl
                  have hcz24_8 : wr.cell? ⟨gb112, 8, none⟩ = some (.int .i64 a0_8) := (blk_cell BK112.out 8).trans rfl
                  have hcz24_9 : wr.cell? ⟨gb112, 9, none⟩ = some (.int .i64 a0_9) := (blk_cell BK112.out 9).trans rfl
                  have hfz24_0 := blk_frozen BK112.out 0
                  have hfz24_1 := blk_frozen BK112.out 1
                  have hfz24_2 := blk_frozen BK112.out 2
                  have hfz24_3 := blk_frozen BK112.out 3
                  have hfz24_4 := blk_frozen BK112.out 4
                  have hfz24_5 := blk_frozen BK112.out 5
                  have hfz24_6 := blk_frozen BK112.out 6
                  have hfz24_7 := blk_frozen BK112.out 7
                  have hfz24_8 := blk_frozen BK112.out 8
                  have hfz24_9 := blk_frozen BK112.out 9
                  go_wp2
                  go_ret
                  exact ⟨by first | rfl | (simp [errW_none, errW_some] <;> rfl) | (simp [*, errW_none, errW_some] <;> rfl), by repeat (first | (with_reducible first | exact HB.out | apply below_alloc | apply pw_below_drewN | apply below_drew1 | refine below_set ?_ GE112.out) | exact HB.out)⟩
              · rw [if_neg c12] at H
                have c12b0 : decide (a0_1 ≤ 99) = false := decide_eq_false c12
                clear c12
                obtain rfl := Option.some.inj H
                have hcz25_0 : wr.cell? ⟨gb112, 0, none⟩ = some (.int .i64 a0_0) := (blk_cell BK112.out 0).trans rfl
                have hcz25_1 : wr.cell? ⟨gb112, 1, none⟩ = some (.int .i64 a0_1) := (blk_cell BK112.out 1).trans rfl
                have hcz25_2 : wr.cell? ⟨gb112, 2, none⟩ = some (.int .i64 a0_2) := (blk_cell BK112.out 2).trans rfl
                have hcz25_3 : wr.cell? ⟨gb112, 3, none⟩ = some (.int .i64 a0_3) := (blk_cell BK112.out 3).trans rfl
                have hcz25_4 : wr.cell? ⟨gb112, 4, none⟩ = some (.int .i64 a0_4) := (blk_cell BK112.out 4).trans rfl
                have hcz25_5 : wr.cell? ⟨gb112, 5, none⟩ = some (.slice A0_5 l0_5.length c0_5) := (blk_cell BK112.out 5).trans rfl
                have hcz25_6 : wr.cell? ⟨gb112, 6, none⟩ = some (.int .i64 a0_6) := (blk_cell BK112.out 6).trans rfl
                have hcz25_7 : wr.cell? ⟨gb112, 7, none⟩ = some (.int .i64 a0_7) := (blk_cell BK112.out 7).trans rfl
                have hcz25_8 : wr.cell? ⟨gb112, 8, none⟩ = some (.int .i64 a0_8) := (blk_cell BK112.out 8).trans rfl
                have hcz25_9 : wr.cell? ⟨gb112, 9, none⟩ = some (.int .i64 a0_9) := (blk_cell BK112.out 9).trans rfl
                have hfz25_0 := blk_frozen BK112.out 0
                have hfz25_1 := blk_frozen BK112.out 1
                have hfz25_2 := blk_frozen BK112.out 2
                have hfz25_3 := blk_frozen BK112.out 3
                have hfz25_4 := blk_frozen BK112.out 4
                have hfz25_5 := blk_frozen BK112.out 5
                have hfz25_6 := blk_frozen BK112.out 6
                have hfz25_7 := blk_frozen BK112.out 7
                have hfz25_8 := blk_frozen BK112.out 8
                have hfz25_9 := blk_frozen BK112.out 9
                go_wp2
                go_ret
                exact ⟨by first | rfl | (simp [errW_none, errW_some] <;> rfl) | (simp [*, errW_none, errW_some] <;> rfl), by repeat (first | (with_reducible first | exact HB.out | apply below_alloc | apply pw_below_drewN | apply below_drew1 | refine below_set ?_ GE112.out) | exact HB.out)⟩
            · rw [if_neg c11] at H
              have c11b0 : decide (0 ≤ a0_1) = false := decide_eq_false c11
              clear c11
              obtain rfl := Option.some.inj H
              have hcz26_0 : wr.cell? ⟨gb112, 0, none⟩ = some (.int .i64 a0_0) := (blk_cell BK112.out 0).trans rfl
              have hcz26_1 : wr.cell? ⟨gb112, 1, none⟩ = some (.int .i64 a0_1) := (blk_cell BK112.out 1).trans rfl
              have hcz26_2 : wr.cell? ⟨gb112, 2, none⟩ = some (.int .i64 a0_2) := (blk_cell BK112.out 2).trans rfl
              have hcz26_3 : wr.cell? ⟨gb112, 3, none⟩ = some (.int .i64 a0_3) := (blk_cell BK112.out 3).trans rfl
              have hcz26_4 : wr.cell? ⟨gb112, 4, none⟩ = some (.int .i64 a0_4) := (blk_cell BK112.out 4).trans rfl
              have hcz26_5 : wr.cell? ⟨gb112, 5, none⟩ = some (.slice A0_5 l0_5.length c0_5) := (blk_cell BK112.out 5).trans rfl
              have hcz26_6 : wr.cell? ⟨gb112, 6, none⟩ = some (.int .i64 a0_6) := (blk_cell BK112.out 6).trans rfl
              have hcz26_7 : wr.cell? ⟨gb112, 7, none⟩ = some (.int .i64 a0_7) := (blk_cell BK112.out 7).trans rfl
              have hcz26_8 : wr.cell? ⟨gb112, 8, none⟩ = some (.int .i64 a0_8) := (blk_cell BK112.out 8).trans rfl
              have hcz26_9 : wr.cell? ⟨gb112, 9, none⟩ = some (.int .i64 a0_9) := (blk_cell BK112.out 9).trans rfl
              have hfz26_0 := blk_frozen BK112.out 0
              have hfz26_1 := blk_frozen BK112.out 1
              have hfz26_2 := blk_frozen BK112.out 2
              have hfz26_3 := blk_frozen BK112.out 3
              have hfz26_4 := blk_frozen BK112.out 4
              have hfz26_5 := blk_frozen BK112.out 5
              have hfz26_6 := blk_frozen BK112.out 6
              have hfz26_7 := blk_frozen BK112.out 7
              have hfz26_8 := blk_frozen BK112.out 8
              have hfz26_9 := blk_frozen BK112.out 9
              go_wp2
              go_ret
              exact ⟨by first | rfl | (simp [errW_none, errW_some] <;> rfl) | (simp [*, errW_none, errW_some] <;> rfl), by repeat (first | (with_reducible first | exact HB.out | apply below_alloc | apply pw_below_drewN | apply below_drew1 | refine below_set ?_ GE112.out) | exact HB.out)⟩
          · rw [if_neg c10] at H
            have c10b0 : decide (0 < (l0_5.length : Int)) = false := decide_eq_false c10
            have c10b1 : decide (0 < l0_5.length) = false := decide_eq_false (by omega)
            clear c10
            obtain rfl := Option.some.inj H
            have hcz27_0 : wr.cell? ⟨gb112, 0, none⟩ = some (.int .i64 a0_0) := (blk_cell BK112.out 0).trans rfl
            have hcz27_1 : wr.cell? ⟨gb112, 1, none⟩ = some (.int .i64 a0_1) := (blk_cell BK112.out 1).trans rfl
            have hcz27_2 : wr.cell? ⟨gb112, 2, none⟩ = some (.int .i64 a0_2) := (blk_cell BK112.out 2).trans rfl
            have hcz27_3 : wr.cell? ⟨gb112, 3, none⟩ = some (.int .i64 a0_3) := (blk_cell BK112.out 3).trans rfl
            have hcz27_4 : wr.cell? ⟨gb112, 4, none⟩ = some (.int .i64 a0_4) := (blk_cell BK112.out 4).trans rfl
            have hcz27_5 : wr.cell? ⟨gb112, 5, none⟩ = some (.slice A0_5 l0_5.length c0_5) := (blk_cell BK112.out 5).trans rfl
            have hcz27_6 : wr.cell? ⟨gb112, 6, none⟩ = some (.int .i64 a0_6) := (blk_cell BK112.out 6).trans rfl
            have hcz27_7 : wr.cell? ⟨gb112, 7, none⟩ = some (.int .i64 a0_7) := (blk_cell BK112.out 7).trans rfl
            have hcz27_8 : wr.cell? ⟨gb112, 8, none⟩ = some (.int .i64 a0_8) := (blk_cell BK112.out 8).trans rfl
            have hcz27_9 : wr.cell? ⟨gb112, 9, none⟩ = some (.int .i64 a0_9) := (blk_cell BK112.out 9).trans rfl
            have hfz27_0 := blk_frozen BK112.out 0
            have hfz27_1 := blk_frozen BK112.out 1
            have hfz27_2 := blk_frozen BK112.out 2
            have hfz27_3 := blk_frozen BK112.out 3
            have hfz27_4 := blk_frozen BK112.out 4
            have hfz27_5 := blk_frozen BK112.out 5
            have hfz27_6 := blk_frozen BK112.out 6
            have hfz27_7 := blk_frozen BK112.out 7
            have hfz27_8 := blk_frozen BK112.out 8
            have hfz27_9 := blk_frozen BK112.out 9
            go_wp2
            go_ret
            exact ⟨by first | rfl | (simp [errW_none, errW_some] <;> rfl) | (simp [*, errW_none, errW_some] <;> rfl), by repeat (first | (with_reducible first | exact HB.out | apply below_alloc | apply pw_below_drewN | apply below_drew1 | refine below_set ?_ GE112.out) | exact HB.out)⟩
  · rw [if_neg c2] at H
    have c2b0 : (a0_0 == 1) = false := beq_eq_false_iff_ne.mpr c2
    have c2b1 : (a0_0 != 1) = true := bne_iff_ne.mpr c2
    have HC28 := Aside0.mk H
    clear H
    go_enter Tryd.func39, Tryd.ntmps39
    go_upto_if 63 with (first | ((with_reducible refine gate_dst (N := 1) rfl ?_); refine box_event ?hg (N := 1) ?hd (cs := #[.int .i64 a0_0, .int .i64 a0_1, .int .i64 a0_2, .int .i64 a0_3, .int .i64 a0_4, .slice A0_5 l0_5.length c0_5, .int .i64 a0_6, .int .i64 a0_7, .int .i64 a0_8, .int .i64 a0_9]) (t := 50) ?hr ?_; (case hd => rfl); (case hg => rfl); (case hr => first | (go_simp; done) | (go_simp; rfl)); intro gb112 hg w29 hbox hb; have n0_ := Aside0.mk (below_step (by repeat (first | (with_reducible first | exact HB.out | apply below_alloc | apply pw_below_drewN | apply below_drew1) | exact HB.out)) hb); have n1_ := Aside0.mk (hbox); have n2_ := Aside0.mk ((by rw [hg]; exact (below_size (by repeat (first | (with_reducible first | exact HB.out | apply below_alloc | apply pw_below_drewN | apply below_drew1) | exact HB.out))) : w.heap.size ≤ gb112)); have n3_ := Aside0.mk ((by rw [hg]; exact (below_size (by repeat (first | (with_reducible first | exact HB.out | apply below_alloc | apply pw_below_drewN | apply below_drew1) | exact HB.out))) : w.heap.size ≤ gb112)); clear HB; have HB := n0_; have BK112 := n1_; have GW112 := n2_; have GE112 := n3_; clear n0_ n1_ n2_ n3_; clear hb hbox hg; have hcz30_0 : w29.cell? ⟨gb112, 0, none⟩ = some (.int .i64 a0_0) := (blk_cell BK112.out 0).trans rfl; have hcz30_1 : w29.cell? ⟨gb112, 1, none⟩ = some (.int .i64 a0_1) := (blk_cell BK112.out 1).trans rfl; have hcz30_2 : w29.cell? ⟨gb112, 2, none⟩ = some (.int .i64 a0_2) := (blk_cell BK112.out 2).trans rfl; have hcz30_3 : w29.cell? ⟨gb112, 3, none⟩ = some (.int .i64 a0_3) := (blk_cell BK112.out 3).trans rfl; have hcz30_4 : w29.cell? ⟨gb112, 4, none⟩ = some (.int .i64 a0_4) := (blk_cell BK112.out 4).trans rfl; have hcz30_5 : w29.cell? ⟨gb112, 5, none⟩ = some (.slice A0_5 l0_5.length c0_5) := (blk_cell BK112.out 5).trans rfl; have hcz30_6 : w29.cell? ⟨gb112, 6, none⟩ = some (.int .i64 a0_6) := (blk_cell BK112.out 6).trans rfl; have hcz30_7 : w29.cell? ⟨gb112, 7, none⟩ = some (.int .i64 a0_7) := (blk_cell BK112.out 7).trans rfl; have hcz30_8 : w29.cell? ⟨gb112, 8, none⟩ = some (.int .i64 a0_8) := (blk_cell BK112.out 8).trans rfl; have hcz30_9 : w29.cell? ⟨gb112, 9, none⟩ = some (.int .i64 a0_9) := (blk_cell BK112.out 9).trans rfl; have hfz30_0 := blk_frozen BK112.out 0; have hfz30_1 := blk_frozen BK112.out 1; have hfz30_2 := blk_frozen BK112.out 2; have hfz30_3 := blk_frozen BK112.out 3; have hfz30_4 := blk_frozen BK112.out 4; have hfz30_5 := blk_frozen BK112.out 5; have hfz30_6 := blk_frozen BK112.out 6; have hfz30_7 := blk_frozen BK112.out 7; have hfz30_8 := blk_frozen BK112.out 8; have hfz30_9 := blk_frozen BK112.out 9))
    (try simp only [Act.put, List.setIfInBounds_toArray, List.set_cons_zero, List.set_cons_succ])
    go_cut [63] (fun v63 wc => ∃ (kq : Nat) (x63_27 : Bool), v63 = .bool x63_27 ∧ Aside0 (emit_may.j1 kq a0_0 x63_27 a0_0 a0_1 a0_2 a0_3 a0_4 l0_5 a0_6 a0_7 a0_8 a0_9 = some r) ∧ Aside0 (kq ≤ k) ∧ Aside0 (wc.heap[gb112]? = some (.cells #[.int .i64 a0_0, .int .i64 a0_1, .int .i64 a0_2, .int .i64 a0_3, .int .i64 a0_4, (.slice A0_5 l0_5.length c0_5), .int .i64 a0_6, .int .i64 a0_7, .int .i64 a0_8, .int .i64 a0_9] 50 (0, 0))) ∧ Aside0 (Below w.heap.size w wc))
    case first =>
      have H := HC28.out
      clear HC28
      by_cases c31 : a0_0 = 2
      · rw [if_pos c31] at H
        have c31b0 : (a0_0 == 2) = true := beq_iff_eq.mpr c31
        have c31b1 : (a0_0 != 2) = false := bne_eq_false_iff_eq.mpr c31
        clear c31
        (first | rw [c31b0] | (simp only [i64_w, i32_w]; rw [c31b0]) | skip)
        have H' := Aside0.mk H
        clear H
        go_wp2
        go_meet
        case rel => exact ⟨_, ((a0_0 == 2)), (by first | rfl | (simp; done) | (simp [*]; done) | (simp [ne_nil_]; done)), H', ⟨by first | omega | exact Nat.le_refl _⟩, ⟨by (with_reducible repeat (first | refine blk_drewN ?_ _ | refine blk_drew ?_ | refine blk_alloc ?_ _)); exact BK112.out⟩, ⟨by repeat (first | (with_reducible first | exact HB.out | apply below_alloc | apply pw_below_drewN | apply below_drew1 | refine below_set ?_ GE112.out) | exact HB.out)⟩⟩
      · rw [if_neg c31] at H
        have c31b0 : (a0_0 == 2) = false := beq_eq_false_iff_ne.mpr c31
        have c31b1 : (a0_0 != 2) = true := bne_iff_ne.mpr c31
        (first | rw [c31b0] | (simp only [i64_w, i32_w]; rw [c31b0]) | skip)
        have H' := Aside0.mk H
        clear H
        go_wp2
        go_meet
        case rel => exact ⟨_, ((a0_0 == 3)), (by first | rfl | (simp; done) | (simp [*]; done) | (simp [ne_nil_]; done)), H', ⟨by first | omega | exact Nat.le_refl _⟩, ⟨by (with_reducible repeat (first | refine blk_drewN ?_ _ | refine blk_drew ?_ | refine blk_alloc ?_ _)); exact BK112.out⟩, ⟨by repeat (first | (with_reducible first | exact HB.out | apply below_alloc | apply pw_below_drewN | apply below_drew1 | refine below_set ?_ GE112.out) | exact HB.out)⟩⟩
    case rest =>
      clear HC28
      try clear c1
      try clear p1
      try clear q1
      try clear hx1
      try clear c2
      try clear c2b0
      try clear c2b1
      try clear p2
      try clear c3
      try clear c5
      try clear c5b0
      try clear c6
      try clear c6b0
      try clear p6
      try clear c7
      try clear c7b0
      try clear c8
      try clear c8b0
      try clear c9
      try clear c9b0
      try clear c10
      try clear c10b0
      try clear c10b1
      try clear c11
      try clear c11b0
      try clear p11
      try clear q11
      try clear hx11
      try clear c12
      try clear c12b0
      try clear c13
      try clear c13b0
      try clear c15
      try clear c17
      try clear c19
      try clear c31
      try clear c31b0
      try clear c31b1
      try clear hcz20_0
      try clear hcz20_1
      try clear hcz20_2
      try clear hcz20_3
      try clear hcz20_4
      try clear hcz20_5
      try clear hcz20_6
      try clear hcz20_7
      try clear hcz20_8
      try clear hcz20_9
      try clear hcz21_0
      try clear hcz21_1
      try clear hcz21_2
      try clear hcz21_3
      try clear hcz21_4
      try clear hcz21_5
      try clear hcz21_6
      try clear hcz21_7
      try clear hcz21_8
      try clear hcz21_9
      try clear hcz22_0
      try clear hcz22_1
      try clear hcz22_2
      try clear hcz22_3
      try clear hcz22_4
      try clear hcz22_5
      try clear hcz22_6
      try clear hcz22_7
      try clear hcz22_8
      try clear hcz22_9
      try clear hcz23_0
      try clear hcz23_1
      try clear hcz23_2
      try clear hcz23_3
      try clear hcz23_4
      try clear hcz23_5
      try clear hcz23_6
      try clear hcz23_7
      try clear hcz23_8
      try clear hcz23_9
      try clear hcz24_0
      try clear hcz24_1
      try clear hcz24_2
      try clear hcz24_3
      try clear hcz24_4
      try clear hcz24_5
      try clear hcz24_6
      try clear hcz24_7
      try clear hcz24_8
      try clear hcz24_9
      try clear hcz25_0
      try clear hcz25_1
      try clear hcz25_2
      try clear hcz25_3
      try clear hcz25_4
      try clear hcz25_5
      try clear hcz25_6
      try clear hcz25_7
      try clear hcz25_8
      try clear hcz25_9
      try clear hcz26_0
      try clear hcz26_1
      try clear hcz26_2
      try clear hcz26_3
      try clear hcz26_4
      try clear hcz26_5
      try clear hcz26_6
      try clear hcz26_7
      try clear hcz26_8
      try clear hcz26_9
      try clear hcz27_0
      try clear hcz27_1
      try clear hcz27_2
      try clear hcz27_3
      try clear hcz27_4
      try clear hcz27_5
      try clear hcz27_6
      try clear hcz27_7
      try clear hcz27_8
      try clear hcz27_9
      try clear hcz30_0
      try clear hcz30_1
      try clear hcz30_2
      try clear hcz30_3
      try clear hcz30_4
      try clear hcz30_5
      try clear hcz30_6
      try clear hcz30_7
      try clear hcz30_8
      try clear hcz30_9
      try clear hcz4_0
      try clear hcz4_1
      try clear hcz4_2
      try clear hcz4_3
      try clear hcz4_4
      try clear hcz4_5
      try clear hcz4_6
      try clear hcz4_7
      try clear hcz4_8
      try clear hcz4_9
      try clear hfz20_0
      try clear hfz20_1
      try clear hfz20_2
      try clear hfz20_3
      try clear hfz20_4
      try clear hfz20_5
      try clear hfz20_6
      try clear hfz20_7
      try clear hfz20_8
      try clear hfz20_9
      try clear hfz21_0
      try clear hfz21_1
      try clear hfz21_2
      try clear hfz21_3
      try clear hfz21_4
      try clear hfz21_5
      try clear hfz21_6
      try clear hfz21_7
      try clear hfz21_8
      try clear hfz21_9
      try clear hfz22_0
      try clear hfz22_1
      try clear hfz22_2
      try clear hfz22_3
      try clear hfz22_4
      try clear hfz22_5
      try clear hfz22_6
      try clear hfz22_7
      try clear hfz22_8
      try clear hfz22_9
      try clear hfz23_0
      try clear hfz23_1
      try clear hfz23_2
      try clear hfz23_3
      try clear hfz23_4
      try clear hfz23_5
      try clear hfz23_6
      try clear hfz23_7
      try clear hfz23_8
      try clear hfz23_9
      try clear hfz24_0
      try clear hfz24_1
      try clear hfz24_2
      try clear hfz24_3
      try clear hfz24_4
      try clear hfz24_5
      try clear hfz24_6
      try clear hfz24_7
      try clear hfz24_8
      try clear hfz24_9
      try clear hfz25_0
      try clear hfz25_1
      try clear hfz25_2
      try clear hfz25_3
      try clear hfz25_4
      try clear hfz25_5
      try clear hfz25_6
      try clear hfz25_7
      try clear hfz25_8
      try clear hfz25_9
      try clear hfz26_0
      try clear hfz26_1
      try clear hfz26_2
      try clear hfz26_3
      try clear hfz26_4
      try clear hfz26_5
      try clear hfz26_6
      try clear hfz26_7
      try clear hfz26_8
      try clear hfz26_9
      try clear hfz27_0
      try clear hfz27_1
      try clear hfz27_2
      try clear hfz27_3
      try clear hfz27_4
      try clear hfz27_5
      try clear hfz27_6
      try clear hfz27_7
      try clear hfz27_8
      try clear hfz27_9
      try clear hfz30_0
      try clear hfz30_1
      try clear hfz30_2
      try clear hfz30_3
      try clear hfz30_4
      try clear hfz30_5
      try clear hfz30_6
      try clear hfz30_7
      try clear hfz30_8
      try clear hfz30_9
      try clear hfz4_0
      try clear hfz4_1
      try clear hfz4_2
      try clear hfz4_3
      try clear hfz4_4
      try clear hfz4_5
      try clear hfz4_6
      try clear hfz4_7
      try clear hfz4_8
      try clear hfz4_9
      try clear hx113_0
      try clear p113
      try clear p2
      try clear q113
      obtain ⟨kq, x63_27, rfl, HA, HJ27, BK112, HB⟩ := hcut
      cases kq with
      | zero => exact absurd HA.out (by simp [emit_may.j1])
      | succ kj27 =>
        have H := HA.out
        clear HA
        simp only [emit_may.j1] at H
        by_cases c32 : x63_27 = true
        · subst c32
          have H1 : ((emit_same.f kj27 a0_0 a0_1 a0_2 a0_3 a0_4 l0_5 a0_6 a0_7 a0_8 a0_9 a0_0 0 0 0 0 ([] : List Int) a0_6 a0_7 a0_8 a0_9).bind fun t117 => (if t117 = true then ((rect_May.f a0_6 a0_7 a0_8 a0_9).bind fun t118 => (if t118 = true then ((fixed_In.f (wrap64 (a0_8 - a0_6))).bind fun t119 => (if t119 = true then ((fixed_In.f (wrap64 (a0_9 - a0_7))).bind fun t120 => (some t120)) else (some false))) else (some false))) else (some false))) = some r := by rw [if_pos rfl] at H; exact H
          clear H
          have H := H1
          clear H1
          replace H := Option.bind_eq_some_iff.mp H
          obtain ⟨t117, A330, H⟩ := H
          replace H : (if t117 = true then ((rect_May.f a0_6 a0_7 a0_8 a0_9).bind fun t118 => (if t118 = true then ((fixed_In.f (wrap64 (a0_8 - a0_6))).bind fun t119 => (if t119 = true then ((fixed_In.f (wrap64 (a0_9 - a0_7))).bind fun t120 => (some t120)) else (some false))) else (some false))) else (some false)) = some r := H
          have A33 := Aside0.mk A330
          clear A330
          by_cases c34 : t117 = true
          · subst c34
            have H1 : ((rect_May.f a0_6 a0_7 a0_8 a0_9).bind fun t118 => (if t118 = true then ((fixed_In.f (wrap64 (a0_8 - a0_6))).bind fun t119 => (if t119 = true then ((fixed_In.f (wrap64 (a0_9 - a0_7))).bind fun t120 => (some t120)) else (some false))) else (some false))) = some r := by rw [if_pos rfl] at H; exact H
            clear H
            have H := H1
            clear H1
            replace H := Option.bind_eq_some_iff.mp H
            obtain ⟨t118, A350, H⟩ := H
            replace H : (if t118 = true then ((fixed_In.f (wrap64 (a0_8 - a0_6))).bind fun t119 => (if t119 = true then ((fixed_In.f (wrap64 (a0_9 - a0_7))).bind fun t120 => (some t120)) else (some false))) else (some false)) = some r := H
            have A35 := Aside0.mk A350
            clear A350
            by_cases c36 : t118 = true
            · subst c36
              have H1 : ((fixed_In.f (wrap64 (a0_8 - a0_6))).bind fun t119 => (if t119 = true then ((fixed_In.f (wrap64 (a0_9 - a0_7))).bind fun t120 => (some t120)) else (some false))) = some r := by rw [if_pos rfl] at H; exact H
              clear H
              have H := H1
              clear H1
              replace H := Option.bind_eq_some_iff.mp H
              obtain ⟨t119, A370, H⟩ := H
              replace H : (if t119 = true then ((fixed_In.f (wrap64 (a0_9 - a0_7))).bind fun t120 => (some t120)) else (some false)) = some r := H
              have A37 := Aside0.mk A370
              clear A370
              by_cases c38 : t119 = true
              · subst c38
                have H1 : ((fixed_In.f (wrap64 (a0_9 - a0_7))).bind fun t120 => (some t120)) = some r := by rw [if_pos rfl] at H; exact H
                clear H
                have H := H1
                clear H1
                replace H := Option.bind_eq_some_iff.mp H
                obtain ⟨t120, A390, H⟩ := H
                replace H : (some t120) = some r := H
                have A39 := Aside0.mk A390
                clear A390
                obtain rfl := Option.some.inj H
                have hcz40_0 : wc.cell? ⟨gb112, 0, none⟩ = some (.int .i64 a0_0) := (blk_cell BK112.out 0).trans rfl
                have hcz40_1 : wc.cell? ⟨gb112, 1, none⟩ = some (.int .i64 a0_1) := (blk_cell BK112.out 1).trans rfl
                have hcz40_2 : wc.cell? ⟨gb112, 2, none⟩ = some (.int .i64 a0_2) := (blk_cell BK112.out 2).trans rfl
                have hcz40_3 : wc.cell? ⟨gb112, 3, none⟩ = some (.int .i64 a0_3) := (blk_cell BK112.out 3).trans rfl
                have hcz40_4 : wc.cell? ⟨gb112, 4, none⟩ = some (.int .i64 a0_4) := (blk_cell BK112.out 4).trans rfl
                have hcz40_5 : wc.cell? ⟨gb112, 5, none⟩ = some (.slice A0_5 l0_5.length c0_5) := (blk_cell BK112.out 5).trans rfl
                have hcz40_6 : wc.cell? ⟨gb112, 6, none⟩ = some (.int .i64 a0_6) := (blk_cell BK112.out 6).trans rfl
                have hcz40_7 : wc.cell? ⟨gb112, 7, none⟩ = some (.int .i64 a0_7) := (blk_cell BK112.out 7).trans rfl
                have hcz40_8 : wc.cell? ⟨gb112, 8, none⟩ = some (.int .i64 a0_8) := (blk_cell BK112.out 8).trans rfl
                have hcz40_9 : wc.cell? ⟨gb112, 9, none⟩ = some (.int .i64 a0_9) := (blk_cell BK112.out 9).trans rfl
                have hfz40_0 := blk_frozen BK112.out 0
                have hfz40_1 := blk_frozen BK112.out 1
                have hfz40_2 := blk_frozen BK112.out 2
                have hfz40_3 := blk_frozen BK112.out 3
                have hfz40_4 := blk_frozen BK112.out 4
                have hfz40_5 := blk_frozen BK112.out 5
                have hfz40_6 := blk_frozen BK112.out 6
                have hfz40_7 := blk_frozen BK112.out 7
                have hfz40_8 := blk_frozen BK112.out 8
                have hfz40_9 := blk_frozen BK112.out 9
                go_wp2_with (first | ((with_reducible refine gate_callee (f := 42) rfl ?_); refine goesL_ (some 72) rfl rfl Tryd.func42 (by kernel_rfl) rfl #[.agg #[.int .i64 a0_0, .int .i64 a0_1, .int .i64 a0_2, .int .i64 a0_3, .int .i64 a0_4, .slice A0_5 l0_5.length c0_5, .int .i64 a0_6, .int .i64 a0_7, .int .i64 a0_8, .int .i64 a0_9], .agg #[.int .i64 a0_0, .int .i64 0, .int .i64 0, .int .i64 0, .int .i64 0, .slice none 0 0, .int .i64 a0_6, .int .i64 a0_7, .int .i64 a0_8, .int .i64 a0_9]] rfl (by (try simp only [List.map_toArray, List.map_cons, List.map_nil]); first | done | rfl | (simp only [List.length_drop, List.length_take]; rfl) | (simp only [Array.mk.injEq, List.cons.injEq, Value.int.injEq, and_true, true_and]; (try unfold wrap64); omega)) ?_; (refine (emit_same.calls kj27 a0_0 a0_1 a0_2 a0_3 a0_4 _ _ l0_5 a0_6 a0_7 a0_8 a0_9 a0_0 0 0 0 0 _ _ ([] : List Int) a0_6 a0_7 a0_8 a0_9 true _ ?side1 ?side2 ?side3 ?side4 A33.out).mono ?_); (case side1 => repeat (first | exact (Kd.C_below HR0_5.out HB.out) | (with_reducible refine Kd.C_alloc ?_ _) | (with_reducible refine Kd.C_drewN ?_ _) | (with_reducible refine Kd.C_drew ?_))); (case side2 => exact HC0_5.out); (case side3 => exact Kd.C_nil _ _); (case side4 => exact Nat.le_refl _); rintro e w41 ⟨rfl, hb⟩; refine ⟨_, rfl, ?_⟩; have n0_ := Aside0.mk (blk_below (g := gb112) (o := .cells #[.int .i64 a0_0, .int .i64 a0_1, .int .i64 a0_2, .int .i64 a0_3, .int .i64 a0_4, .slice A0_5 l0_5.length c0_5, .int .i64 a0_6, .int .i64 a0_7, .int .i64 a0_8, .int .i64 a0_9] 50 (0, 0)) (by (with_reducible repeat (first | refine blk_drewN ?_ _ | refine blk_drew ?_ | refine blk_alloc ?_ _)); exact BK112.out) hb); have n1_ := Aside0.mk (below_step (by repeat (first | (with_reducible first | exact HB.out | apply below_alloc | apply pw_below_drewN | apply below_drew1 | refine below_set ?_ GE112.out) | exact HB.out)) hb); clear BK112; clear HB; have BK112 := n0_; have HB := n1_; clear n0_ n1_; (try clear hb); (try clear hb2); (try clear hk); (try clear hi); have hcz42_0 : w41.cell? ⟨gb112, 0, none⟩ = some (.int .i64 a0_0) := (blk_cell BK112.out 0).trans rfl; have hcz42_1 : w41.cell? ⟨gb112, 1, none⟩ = some (.int .i64 a0_1) := (blk_cell BK112.out 1).trans rfl; have hcz42_2 : w41.cell? ⟨gb112, 2, none⟩ = some (.int .i64 a0_2) := (blk_cell BK112.out 2).trans rfl; have hcz42_3 : w41.cell? ⟨gb112, 3, none⟩ = some (.int .i64 a0_3) := (blk_cell BK112.out 3).trans rfl; have hcz42_4 : w41.cell? ⟨gb112, 4, none⟩ = some (.int .i64 a0_4) := (blk_cell BK112.out 4).trans rfl; have hcz42_5 : w41.cell? ⟨gb112, 5, none⟩ = some (.slice A0_5 l0_5.length c0_5) := (blk_cell BK112.out 5).trans rfl; have hcz42_6 : w41.cell? ⟨gb112, 6, none⟩ = some (.int .i64 a0_6) := (blk_cell BK112.out 6).trans rfl; have hcz42_7 : w41.cell? ⟨gb112, 7, none⟩ = some (.int .i64 a0_7) := (blk_cell BK112.out 7).trans rfl; have hcz42_8 : w41.cell? ⟨gb112, 8, none⟩ = some (.int .i64 a0_8) := (blk_cell BK112.out 8).trans rfl; have hcz42_9 : w41.cell? ⟨gb112, 9, none⟩ = some (.int .i64 a0_9) := (blk_cell BK112.out 9).trans rfl; have hfz42_0 := blk_frozen BK112.out 0; have hfz42_1 := blk_frozen BK112.out 1; have hfz42_2 := blk_frozen BK112.out 2; have hfz42_3 := blk_frozen BK112.out 3; have hfz42_4 := blk_frozen BK112.out 4; have hfz42_5 := blk_frozen BK112.out 5; have hfz42_6 := blk_frozen BK112.out 6; have hfz42_7 := blk_frozen BK112.out 7; have hfz42_8 := blk_frozen BK112.out 8; have hfz42_9 := blk_frozen BK112.out 9) | (go_at_call 61; (with_reducible refine (rect_May.calls a0_6 a0_7 a0_8 a0_9 true _ A35.out).mono ?_); rintro e w43 ⟨rfl, hb⟩; have n0_ := Aside0.mk (blk_below (g := gb112) (o := .cells #[.int .i64 a0_0, .int .i64 a0_1, .int .i64 a0_2, .int .i64 a0_3, .int .i64 a0_4, .slice A0_5 l0_5.length c0_5, .int .i64 a0_6, .int .i64 a0_7, .int .i64 a0_8, .int .i64 a0_9] 50 (0, 0)) (by (with_reducible repeat (first | refine blk_drewN ?_ _ | refine blk_drew ?_ | refine blk_alloc ?_ _)); exact BK112.out) hb); have n1_ := Aside0.mk (below_step (by repeat (first | (with_reducible first | exact HB.out | apply below_alloc | apply pw_below_drewN | apply below_drew1 | refine below_set ?_ GE112.out) | exact HB.out)) hb); clear BK112; clear HB; have BK112 := n0_; have HB := n1_; clear n0_ n1_; (try clear hb); (try clear hb2); (try clear hk); (try clear hi); have hcz44_0 : w43.cell? ⟨gb112, 0, none⟩ = some (.int .i64 a0_0) := (blk_cell BK112.out 0).trans rfl; have hcz44_1 : w43.cell? ⟨gb112, 1, none⟩ = some (.int .i64 a0_1) := (blk_cell BK112.out 1).trans rfl; have hcz44_2 : w43.cell? ⟨gb112, 2, none⟩ = some (.int .i64 a0_2) := (blk_cell BK112.out 2).trans rfl; have hcz44_3 : w43.cell? ⟨gb112, 3, none⟩ = some (.int .i64 a0_3) := (blk_cell BK112.out 3).trans rfl; have hcz44_4 : w43.cell? ⟨gb112, 4, none⟩ = some (.int .i64 a0_4) := (blk_cell BK112.out 4).trans rfl; have hcz44_5 : w43.cell? ⟨gb112, 5, none⟩ = some (.slice A0_5 l0_5.length c0_5) := (blk_cell BK112.out 5).trans rfl; have hcz44_6 : w43.cell? ⟨gb112, 6, none⟩ = some (.int .i64 a0_6) := (blk_cell BK112.out 6).trans rfl; have hcz44_7 : w43.cell? ⟨gb112, 7, none⟩ = some (.int .i64 a0_7) := (blk_cell BK112.out 7).trans rfl; have hcz44_8 : w43.cell? ⟨gb112, 8, none⟩ = some (.int .i64 a0_8) := (blk_cell BK112.out 8).trans rfl; have hcz44_9 : w43.cell? ⟨gb112, 9, none⟩ = some (.int .i64 a0_9) := (blk_cell BK112.out 9).trans rfl; have hfz44_0 := blk_frozen BK112.out 0; have hfz44_1 := blk_frozen BK112.out 1; have hfz44_2 := blk_frozen BK112.out 2; have hfz44_3 := blk_frozen BK112.out 3; have hfz44_4 := blk_frozen BK112.out 4; have hfz44_5 := blk_frozen BK112.out 5; have hfz44_6 := blk_frozen BK112.out 6; have hfz44_7 := blk_frozen BK112.out 7; have hfz44_8 := blk_frozen BK112.out 8; have hfz44_9 := blk_frozen BK112.out 9) | (go_at_call 43; (with_reducible refine (fixed_In.calls (wrap64 (a0_8 - a0_6)) true _ A37.out).mono ?_); rintro e w' ⟨rfl, ⟨nd, rfl⟩⟩) | (go_at_call 43; (with_reducible refine (fixed_In.calls (wrap64 (a0_9 - a0_7)) t120 _ A39.out).mono ?_); rintro e w' ⟨rfl, ⟨nd, rfl⟩⟩))
                go_ret
                exact ⟨by first | rfl | (simp [errW_none, errW_some] <;> rfl) | (simp [*, errW_none, errW_some] <;> rfl), by repeat (first | (with_reducible first | exact HB.out | apply below_alloc | apply pw_below_drewN | apply below_drew1 | refine below_set ?_ GE112.out) | exact HB.out)⟩
              · replace c38 := Bool.eq_false_iff.mpr c38
                subst c38
                have H1 : (some false) = some r := by rw [if_neg (show ¬ (false = true) by decide)] at H; exact H
                clear H
                have H := H1
                clear H1
                obtain rfl := Option.some.inj H
                have hcz45_0 : wc.cell? ⟨gb112, 0, none⟩ = some (.int .i64 a0_0) := (blk_cell BK112.out 0).trans rfl
                have hcz45_1 : wc.cell? ⟨gb112, 1, none⟩ = some (.int .i64 a0_1) := (blk_cell BK112.out 1).trans rfl
                have hcz45_2 : wc.cell? ⟨gb112, 2, none⟩ = some (.int .i64 a0_2) := (blk_cell BK112.out 2).trans rfl
                have hcz45_3 : wc.cell? ⟨gb112, 3, none⟩ = some (.int .i64 a0_3) := (blk_cell BK112.out 3).trans rfl
                have hcz45_4 : wc.cell? ⟨gb112, 4, none⟩ = some (.int .i64 a0_4) := (blk_cell BK112.out 4).trans rfl
                have hcz45_5 : wc.cell? ⟨gb112, 5, none⟩ = some (.slice A0_5 l0_5.length c0_5) := (blk_cell BK112.out 5).trans rfl
                have hcz45_6 : wc.cell? ⟨gb112, 6, none⟩ = some (.int .i64 a0_6) := (blk_cell BK112.out 6).trans rfl
                have hcz45_7 : wc.cell? ⟨gb112, 7, none⟩ = some (.int .i64 a0_7) := (blk_cell BK112.out 7).trans rfl
                have hcz45_8 : wc.cell? ⟨gb112, 8, none⟩ = some (.int .i64 a0_8) := (blk_cell BK112.out 8).trans rfl
                have hcz45_9 : wc.cell? ⟨gb112, 9, none⟩ = some (.int .i64 a0_9) := (blk_cell BK112.out 9).trans rfl
                have hfz45_0 := blk_frozen BK112.out 0
                have hfz45_1 := blk_frozen BK112.out 1
                have hfz45_2 := blk_frozen BK112.out 2
                have hfz45_3 := blk_frozen BK112.out 3
                have hfz45_4 := blk_frozen BK112.out 4
                have hfz45_5 := blk_frozen BK112.out 5
                have hfz45_6 := blk_frozen BK112.out 6
                have hfz45_7 := blk_frozen BK112.out 7
                have hfz45_8 := blk_frozen BK112.out 8
                have hfz45_9 := blk_frozen BK112.out 9
                go_wp2_with (first | ((with_reducible refine gate_callee (f := 42) rfl ?_); refine goesL_ (some 72) rfl rfl Tryd.func42 (by kernel_rfl) rfl #[.agg #[.int .i64 a0_0, .int .i64 a0_1, .int .i64 a0_2, .int .i64 a0_3, .int .i64 a0_4, .slice A0_5 l0_5.length c0_5, .int .i64 a0_6, .int .i64 a0_7, .int .i64 a0_8, .int .i64 a0_9], .agg #[.int .i64 a0_0, .int .i64 0, .int .i64 0, .int .i64 0, .int .i64 0, .slice none 0 0, .int .i64 a0_6, .int .i64 a0_7, .int .i64 a0_8, .int .i64 a0_9]] rfl (by (try simp only [List.map_toArray, List.map_cons, List.map_nil]); first | done | rfl | (simp only [List.length_drop, List.length_take]; rfl) | (simp only [Array.mk.injEq, List.cons.injEq, Value.int.injEq, and_true, true_and]; (try unfold wrap64); omega)) ?_; (refine (emit_same.calls kj27 a0_0 a0_1 a0_2 a0_3 a0_4 _ _ l0_5 a0_6 a0_7 a0_8 a0_9 a0_0 0 0 0 0 _ _ ([] : List Int) a0_6 a0_7 a0_8 a0_9 true _ ?side1 ?side2 ?side3 ?side4 A33.out).mono ?_); (case side1 => repeat (first | exact (Kd.C_below HR0_5.out HB.out) | (with_reducible refine Kd.C_alloc ?_ _) | (with_reducible refine Kd.C_drewN ?_ _) | (with_reducible refine Kd.C_drew ?_))); (case side2 => exact HC0_5.out); (case side3 => exact Kd.C_nil _ _); (case side4 => exact Nat.le_refl _); rintro e w46 ⟨rfl, hb⟩; refine ⟨_, rfl, ?_⟩; have n0_ := Aside0.mk (blk_below (g := gb112) (o := .cells #[.int .i64 a0_0, .int .i64 a0_1, .int .i64 a0_2, .int .i64 a0_3, .int .i64 a0_4, .slice A0_5 l0_5.length c0_5, .int .i64 a0_6, .int .i64 a0_7, .int .i64 a0_8, .int .i64 a0_9] 50 (0, 0)) (by (with_reducible repeat (first | refine blk_drewN ?_ _ | refine blk_drew ?_ | refine blk_alloc ?_ _)); exact BK112.out) hb); have n1_ := Aside0.mk (below_step (by repeat (first | (with_reducible first | exact HB.out | apply below_alloc | apply pw_below_drewN | apply below_drew1 | refine below_set ?_ GE112.out) | exact HB.out)) hb); clear BK112; clear HB; have BK112 := n0_; have HB := n1_; clear n0_ n1_; (try clear hb); (try clear hb2); (try clear hk); (try clear hi); have hcz47_0 : w46.cell? ⟨gb112, 0, none⟩ = some (.int .i64 a0_0) := (blk_cell BK112.out 0).trans rfl; have hcz47_1 : w46.cell? ⟨gb112, 1, none⟩ = some (.int .i64 a0_1) := (blk_cell BK112.out 1).trans rfl; have hcz47_2 : w46.cell? ⟨gb112, 2, none⟩ = some (.int .i64 a0_2) := (blk_cell BK112.out 2).trans rfl; have hcz47_3 : w46.cell? ⟨gb112, 3, none⟩ = some (.int .i64 a0_3) := (blk_cell BK112.out 3).trans rfl; have hcz47_4 : w46.cell? ⟨gb112, 4, none⟩ = some (.int .i64 a0_4) := (blk_cell BK112.out 4).trans rfl; have hcz47_5 : w46.cell? ⟨gb112, 5, none⟩ = some (.slice A0_5 l0_5.length c0_5) := (blk_cell BK112.out 5).trans rfl; have hcz47_6 : w46.cell? ⟨gb112, 6, none⟩ = some (.int .i64 a0_6) := (blk_cell BK112.out 6).trans rfl; have hcz47_7 : w46.cell? ⟨gb112, 7, none⟩ = some (.int .i64 a0_7) := (blk_cell BK112.out 7).trans rfl; have hcz47_8 : w46.cell? ⟨gb112, 8, none⟩ = some (.int .i64 a0_8) := (blk_cell BK112.out 8).trans rfl; have hcz47_9 : w46.cell? ⟨gb112, 9, none⟩ = some (.int .i64 a0_9) := (blk_cell BK112.out 9).trans rfl; have hfz47_0 := blk_frozen BK112.out 0; have hfz47_1 := blk_frozen BK112.out 1; have hfz47_2 := blk_frozen BK112.out 2; have hfz47_3 := blk_frozen BK112.out 3; have hfz47_4 := blk_frozen BK112.out 4; have hfz47_5 := blk_frozen BK112.out 5; have hfz47_6 := blk_frozen BK112.out 6; have hfz47_7 := blk_frozen BK112.out 7; have hfz47_8 := blk_frozen BK112.out 8; have hfz47_9 := blk_frozen BK112.out 9) | (go_at_call 61; (with_reducible refine (rect_May.calls a0_6 a0_7 a0_8 a0_9 true _ A35.out).mono ?_); rintro e w48 ⟨rfl, hb⟩; have n0_ := Aside0.mk (blk_below (g := gb112) (o := .cells #[.int .i64 a0_0, .int .i64 a0_1, .int .i64 a0_2, .int .i64 a0_3, .int .i64 a0_4, .slice A0_5 l0_5.length c0_5, .int .i64 a0_6, .int .i64 a0_7, .int .i64 a0_8, .int .i64 a0_9] 50 (0, 0)) (by (with_reducible repeat (first | refine blk_drewN ?_ _ | refine blk_drew ?_ | refine blk_alloc ?_ _)); exact BK112.out) hb); have n1_ := Aside0.mk (below_step (by repeat (first | (with_reducible first | exact HB.out | apply below_alloc | apply pw_below_drewN | apply below_drew1 | refine below_set ?_ GE112.out) | exact HB.out)) hb); clear BK112; clear HB; have BK112 := n0_; have HB := n1_; clear n0_ n1_; (try clear hb); (try clear hb2); (try clear hk); (try clear hi); have hcz49_0 : w48.cell? ⟨gb112, 0, none⟩ = some (.int .i64 a0_0) := (blk_cell BK112.out 0).trans rfl; have hcz49_1 : w48.cell? ⟨gb112, 1, none⟩ = some (.int .i64 a0_1) := (blk_cell BK112.out 1).trans rfl; have hcz49_2 : w48.cell? ⟨gb112, 2, none⟩ = some (.int .i64 a0_2) := (blk_cell BK112.out 2).trans rfl; have hcz49_3 : w48.cell? ⟨gb112, 3, none⟩ = some (.int .i64 a0_3) := (blk_cell BK112.out 3).trans rfl; have hcz49_4 : w48.cell? ⟨gb112, 4, none⟩ = some (.int .i64 a0_4) := (blk_cell BK112.out 4).trans rfl; have hcz49_5 : w48.cell? ⟨gb112, 5, none⟩ = some (.slice A0_5 l0_5.length c0_5) := (blk_cell BK112.out 5).trans rfl; have hcz49_6 : w48.cell? ⟨gb112, 6, none⟩ = some (.int .i64 a0_6) := (blk_cell BK112.out 6).trans rfl; have hcz49_7 : w48.cell? ⟨gb112, 7, none⟩ = some (.int .i64 a0_7) := (blk_cell BK112.out 7).trans rfl; have hcz49_8 : w48.cell? ⟨gb112, 8, none⟩ = some (.int .i64 a0_8) := (blk_cell BK112.out 8).trans rfl; have hcz49_9 : w48.cell? ⟨gb112, 9, none⟩ = some (.int .i64 a0_9) := (blk_cell BK112.out 9).trans rfl; have hfz49_0 := blk_frozen BK112.out 0; have hfz49_1 := blk_frozen BK112.out 1; have hfz49_2 := blk_frozen BK112.out 2; have hfz49_3 := blk_frozen BK112.out 3; have hfz49_4 := blk_frozen BK112.out 4; have hfz49_5 := blk_frozen BK112.out 5; have hfz49_6 := blk_frozen BK112.out 6; have hfz49_7 := blk_frozen BK112.out 7; have hfz49_8 := blk_frozen BK112.out 8; have hfz49_9 := blk_frozen BK112.out 9) | (go_at_call 43; (with_reducible refine (fixed_In.calls (wrap64 (a0_8 - a0_6)) false _ A37.out).mono ?_); rintro e w' ⟨rfl, ⟨nd, rfl⟩⟩))
                go_ret
                exact ⟨by first | rfl | (simp [errW_none, errW_some] <;> rfl) | (simp [*, errW_none, errW_some] <;> rfl), by repeat (first | (with_reducible first | exact HB.out | apply below_alloc | apply pw_below_drewN | apply below_drew1 | refine below_set ?_ GE112.out) | exact HB.out)⟩
            · replace c36 := Bool.eq_false_iff.mpr c36
              subst c36
              have H1 : (some false) = some r := by rw [if_neg (show ¬ (false = true) by decide)] at H; exact H
              clear H
              have H := H1
              clear H1
              obtain rfl := Option.some.inj H
              have hcz50_0 : wc.cell? ⟨gb112, 0, none⟩ = some (.int .i64 a0_0) := (blk_cell BK112.out 0).trans rfl
              have hcz50_1 : wc.cell? ⟨gb112, 1, none⟩ = some (.int .i64 a0_1) := (blk_cell BK112.out 1).trans rfl
              have hcz50_2 : wc.cell? ⟨gb112, 2, none⟩ = some (.int .i64 a0_2) := (blk_cell BK112.out 2).trans rfl
              have hcz50_3 : wc.cell? ⟨gb112, 3, none⟩ = some (.int .i64 a0_3) := (blk_cell BK112.out 3).trans rfl
              have hcz50_4 : wc.cell? ⟨gb112, 4, none⟩ = some (.int .i64 a0_4) := (blk_cell BK112.out 4).trans rfl
              have hcz50_5 : wc.cell? ⟨gb112, 5, none⟩ = some (.slice A0_5 l0_5.length c0_5) := (blk_cell BK112.out 5).trans rfl
              have hcz50_6 : wc.cell? ⟨gb112, 6, none⟩ = some (.int .i64 a0_6) := (blk_cell BK112.out 6).trans rfl
              have hcz50_7 : wc.cell? ⟨gb112, 7, none⟩ = some (.int .i64 a0_7) := (blk_cell BK112.out 7).trans rfl
              have hcz50_8 : wc.cell? ⟨gb112, 8, none⟩ = some (.int .i64 a0_8) := (blk_cell BK112.out 8).trans rfl
              have hcz50_9 : wc.cell? ⟨gb112, 9, none⟩ = some (.int .i64 a0_9) := (blk_cell BK112.out 9).trans rfl
              have hfz50_0 := blk_frozen BK112.out 0
              have hfz50_1 := blk_frozen BK112.out 1
              have hfz50_2 := blk_frozen BK112.out 2
              have hfz50_3 := blk_frozen BK112.out 3
              have hfz50_4 := blk_frozen BK112.out 4
              have hfz50_5 := blk_frozen BK112.out 5
              have hfz50_6 := blk_frozen BK112.out 6
              have hfz50_7 := blk_frozen BK112.out 7
              have hfz50_8 := blk_frozen BK112.out 8
              have hfz50_9 := blk_frozen BK112.out 9
              go_wp2_with (first | ((with_reducible refine gate_callee (f := 42) rfl ?_); refine goesL_ (some 72) rfl rfl Tryd.func42 (by kernel_rfl) rfl #[.agg #[.int .i64 a0_0, .int .i64 a0_1, .int .i64 a0_2, .int .i64 a0_3, .int .i64 a0_4, .slice A0_5 l0_5.length c0_5, .int .i64 a0_6, .int .i64 a0_7, .int .i64 a0_8, .int .i64 a0_9], .agg #[.int .i64 a0_0, .int .i64 0, .int .i64 0, .int .i64 0, .int .i64 0, .slice none 0 0, .int .i64 a0_6, .int .i64 a0_7, .int .i64 a0_8, .int .i64 a0_9]] rfl (by (try simp only [List.map_toArray, List.map_cons, List.map_nil]); first | done | rfl | (simp only [List.length_drop, List.length_take]; rfl) | (simp only [Array.mk.injEq, List.cons.injEq, Value.int.injEq, and_true, true_and]; (try unfold wrap64); omega)) ?_; (refine (emit_same.calls kj27 a0_0 a0_1 a0_2 a0_3 a0_4 _ _ l0_5 a0_6 a0_7 a0_8 a0_9 a0_0 0 0 0 0 _ _ ([] : List Int) a0_6 a0_7 a0_8 a0_9 true _ ?side1 ?side2 ?side3 ?side4 A33.out).mono ?_); (case side1 => repeat (first | exact (Kd.C_below HR0_5.out HB.out) | (with_reducible refine Kd.C_alloc ?_ _) | (with_reducible refine Kd.C_drewN ?_ _) | (with_reducible refine Kd.C_drew ?_))); (case side2 => exact HC0_5.out); (case side3 => exact Kd.C_nil _ _); (case side4 => exact Nat.le_refl _); rintro e w51 ⟨rfl, hb⟩; refine ⟨_, rfl, ?_⟩; have n0_ := Aside0.mk (blk_below (g := gb112) (o := .cells #[.int .i64 a0_0, .int .i64 a0_1, .int .i64 a0_2, .int .i64 a0_3, .int .i64 a0_4, .slice A0_5 l0_5.length c0_5, .int .i64 a0_6, .int .i64 a0_7, .int .i64 a0_8, .int .i64 a0_9] 50 (0, 0)) (by (with_reducible repeat (first | refine blk_drewN ?_ _ | refine blk_drew ?_ | refine blk_alloc ?_ _)); exact BK112.out) hb); have n1_ := Aside0.mk (below_step (by repeat (first | (with_reducible first | exact HB.out | apply below_alloc | apply pw_below_drewN | apply below_drew1 | refine below_set ?_ GE112.out) | exact HB.out)) hb); clear BK112; clear HB; have BK112 := n0_; have HB := n1_; clear n0_ n1_; (try clear hb); (try clear hb2); (try clear hk); (try clear hi); have hcz52_0 : w51.cell? ⟨gb112, 0, none⟩ = some (.int .i64 a0_0) := (blk_cell BK112.out 0).trans rfl; have hcz52_1 : w51.cell? ⟨gb112, 1, none⟩ = some (.int .i64 a0_1) := (blk_cell BK112.out 1).trans rfl; have hcz52_2 : w51.cell? ⟨gb112, 2, none⟩ = some (.int .i64 a0_2) := (blk_cell BK112.out 2).trans rfl; have hcz52_3 : w51.cell? ⟨gb112, 3, none⟩ = some (.int .i64 a0_3) := (blk_cell BK112.out 3).trans rfl; have hcz52_4 : w51.cell? ⟨gb112, 4, none⟩ = some (.int .i64 a0_4) := (blk_cell BK112.out 4).trans rfl; have hcz52_5 : w51.cell? ⟨gb112, 5, none⟩ = some (.slice A0_5 l0_5.length c0_5) := (blk_cell BK112.out 5).trans rfl; have hcz52_6 : w51.cell? ⟨gb112, 6, none⟩ = some (.int .i64 a0_6) := (blk_cell BK112.out 6).trans rfl; have hcz52_7 : w51.cell? ⟨gb112, 7, none⟩ = some (.int .i64 a0_7) := (blk_cell BK112.out 7).trans rfl; have hcz52_8 : w51.cell? ⟨gb112, 8, none⟩ = some (.int .i64 a0_8) := (blk_cell BK112.out 8).trans rfl; have hcz52_9 : w51.cell? ⟨gb112, 9, none⟩ = some (.int .i64 a0_9) := (blk_cell BK112.out 9).trans rfl; have hfz52_0 := blk_frozen BK112.out 0; have hfz52_1 := blk_frozen BK112.out 1; have hfz52_2 := blk_frozen BK112.out 2; have hfz52_3 := blk_frozen BK112.out 3; have hfz52_4 := blk_frozen BK112.out 4; have hfz52_5 := blk_frozen BK112.out 5; have hfz52_6 := blk_frozen BK112.out 6; have hfz52_7 := blk_frozen BK112.out 7; have hfz52_8 := blk_frozen BK112.out 8; have hfz52_9 := blk_frozen BK112.out 9) | (go_at_call 61; (with_reducible refine (rect_May.calls a0_6 a0_7 a0_8 a0_9 false _ A35.out).mono ?_); rintro e w53 ⟨rfl, hb⟩; have n0_ := Aside0.mk (blk_below (g := gb112) (o := .cells #[.int .i64 a0_0, .int .i64 a0_1, .int .i64 a0_2, .int .i64 a0_3, .int .i64 a0_4, .slice A0_5 l0_5.length c0_5, .int .i64 a0_6, .int .i64 a0_7, .int .i64 a0_8, .int .i64 a0_9] 50 (0, 0)) (by (with_reducible repeat (first | refine blk_drewN ?_ _ | refine blk_drew ?_ | refine blk_alloc ?_ _)); exact BK112.out) hb); have n1_ := Aside0.mk (below_step (by repeat (first | (with_reducible first | exact HB.out | apply below_alloc | apply pw_below_drewN | apply below_drew1 | refine below_set ?_ GE112.out) | exact HB.out)) hb); clear BK112; clear HB; have BK112 := n0_; have HB := n1_; clear n0_ n1_; (try clear hb); (try clear hb2); (try clear hk); (try clear hi)))
              go_ret
              exact ⟨by first | rfl | (simp [errW_none, errW_some] <;> rfl) | (simp [*, errW_none, errW_some] <;> rfl), by repeat (first | (with_reducible first | exact HB.out | apply below_alloc | apply pw_below_drewN | apply below_drew1 | refine below_set ?_ GE112.out) | exact HB.out)⟩
          · replace c34 := Bool.eq_false_iff.mpr c34
            subst c34
            have H1 : (some false) = some r := by rw [if_neg (show ¬ (false = true) by decide)] at H; exact H
            clear H
            have H := H1
            clear H1
            obtain rfl := Option.some.inj H
            have hcz54_0 : wc.cell? ⟨gb112, 0, none⟩ = some (.int .i64 a0_0) := (blk_cell BK112.out 0).trans rfl
            have hcz54_1 : wc.cell? ⟨gb112, 1, none⟩ = some (.int .i64 a0_1) := (blk_cell BK112.out 1).trans rfl
            have hcz54_2 : wc.cell? ⟨gb112, 2, none⟩ = some (.int .i64 a0_2) := (blk_cell BK112.out 2).trans rfl
            have hcz54_3 : wc.cell? ⟨gb112, 3, none⟩ = some (.int .i64 a0_3) := (blk_cell BK112.out 3).trans rfl
            have hcz54_4 : wc.cell? ⟨gb112, 4, none⟩ = some (.int .i64 a0_4) := (blk_cell BK112.out 4).trans rfl
            have hcz54_5 : wc.cell? ⟨gb112, 5, none⟩ = some (.slice A0_5 l0_5.length c0_5) := (blk_cell BK112.out 5).trans rfl
            have hcz54_6 : wc.cell? ⟨gb112, 6, none⟩ = some (.int .i64 a0_6) := (blk_cell BK112.out 6).trans rfl
            have hcz54_7 : wc.cell? ⟨gb112, 7, none⟩ = some (.int .i64 a0_7) := (blk_cell BK112.out 7).trans rfl
            have hcz54_8 : wc.cell? ⟨gb112, 8, none⟩ = some (.int .i64 a0_8) := (blk_cell BK112.out 8).trans rfl
            have hcz54_9 : wc.cell? ⟨gb112, 9, none⟩ = some (.int .i64 a0_9) := (blk_cell BK112.out 9).trans rfl
            have hfz54_0 := blk_frozen BK112.out 0
            have hfz54_1 := blk_frozen BK112.out 1
            have hfz54_2 := blk_frozen BK112.out 2
            have hfz54_3 := blk_frozen BK112.out 3
            have hfz54_4 := blk_frozen BK112.out 4
            have hfz54_5 := blk_frozen BK112.out 5
            have hfz54_6 := blk_frozen BK112.out 6
            have hfz54_7 := blk_frozen BK112.out 7
            have hfz54_8 := blk_frozen BK112.out 8
            have hfz54_9 := blk_frozen BK112.out 9
            go_wp2_with (first | ((with_reducible refine gate_callee (f := 42) rfl ?_); refine goesL_ (some 72) rfl rfl Tryd.func42 (by kernel_rfl) rfl #[.agg #[.int .i64 a0_0, .int .i64 a0_1, .int .i64 a0_2, .int .i64 a0_3, .int .i64 a0_4, .slice A0_5 l0_5.length c0_5, .int .i64 a0_6, .int .i64 a0_7, .int .i64 a0_8, .int .i64 a0_9], .agg #[.int .i64 a0_0, .int .i64 0, .int .i64 0, .int .i64 0, .int .i64 0, .slice none 0 0, .int .i64 a0_6, .int .i64 a0_7, .int .i64 a0_8, .int .i64 a0_9]] rfl (by (try simp only [List.map_toArray, List.map_cons, List.map_nil]); first | done | rfl | (simp only [List.length_drop, List.length_take]; rfl) | (simp only [Array.mk.injEq, List.cons.injEq, Value.int.injEq, and_true, true_and]; (try unfold wrap64); omega)) ?_; (refine (emit_same.calls kj27 a0_0 a0_1 a0_2 a0_3 a0_4 _ _ l0_5 a0_6 a0_7 a0_8 a0_9 a0_0 0 0 0 0 _ _ ([] : List Int) a0_6 a0_7 a0_8 a0_9 false _ ?side1 ?side2 ?side3 ?side4 A33.out).mono ?_); (case side1 => repeat (first | exact (Kd.C_below HR0_5.out HB.out) | (with_reducible refine Kd.C_alloc ?_ _) | (with_reducible refine Kd.C_drewN ?_ _) | (with_reducible refine Kd.C_drew ?_))); (case side2 => exact HC0_5.out); (case side3 => exact Kd.C_nil _ _); (case side4 => exact Nat.le_refl _); rintro e w55 ⟨rfl, hb⟩; refine ⟨_, rfl, ?_⟩; have n0_ := Aside0.mk (blk_below (g := gb112) (o := .cells #[.int .i64 a0_0, .int .i64 a0_1, .int .i64 a0_2, .int .i64 a0_3, .int .i64 a0_4, .slice A0_5 l0_5.length c0_5, .int .i64 a0_6, .int .i64 a0_7, .int .i64 a0_8, .int .i64 a0_9] 50 (0, 0)) (by (with_reducible repeat (first | refine blk_drewN ?_ _ | refine blk_drew ?_ | refine blk_alloc ?_ _)); exact BK112.out) hb); have n1_ := Aside0.mk (below_step (by repeat (first | (with_reducible first | exact HB.out | apply below_alloc | apply pw_below_drewN | apply below_drew1 | refine below_set ?_ GE112.out) | exact HB.out)) hb); clear BK112; clear HB; have BK112 := n0_; have HB := n1_; clear n0_ n1_; (try clear hb); (try clear hb2); (try clear hk); (try clear hi)))
            go_ret
            exact ⟨by first | rfl | (simp [errW_none, errW_some] <;> rfl) | (simp [*, errW_none, errW_some] <;> rfl), by repeat (first | (with_reducible first | exact HB.out | apply below_alloc | apply pw_below_drewN | apply below_drew1 | refine below_set ?_ GE112.out) | exact HB.out)⟩
        · replace c32 := Bool.eq_false_iff.mpr c32
          subst c32
          have H1 : (if a0_0 = 4 then ((emit_same.f kj27 a0_0 a0_1 a0_2 a0_3 a0_4 l0_5 a0_6 a0_7 a0_8 a0_9 a0_0 0 0 0 0 ([] : List Int) 0 0 0 0).bind fun t121 => (some t121)) else (some false)) = some r := by rw [if_neg (show ¬ (false = true) by decide)] at H; exact H
          clear H
          have H := H1
          clear H1
          by_cases c56 : a0_0 = 4
          · rw [if_pos c56] at H
            have c56b0 : (a0_0 == 4) = true := beq_iff_eq.mpr c56
            have c56b1 : (a0_0 != 4) = false := bne_eq_false_iff_eq.mpr c56
            clear c56
            replace H := Option.bind_eq_some_iff.mp H
            obtain ⟨t121, A570, H⟩ := H
            replace H : (some t121) = some r := H
            have A57 := Aside0.mk A570
            clear A570
            obtain rfl := Option.some.inj H
            have hcz58_0 : wc.cell? ⟨gb112, 0, none⟩ = some (.int .i64 a0_0) := (blk_cell BK112.out 0).trans rfl
            have hcz58_1 : wc.cell? ⟨gb112, 1, none⟩ = some (.int .i64 a0_1) := (blk_cell BK112.out 1).trans rfl
            have hcz58_2 : wc.cell? ⟨gb112, 2, none⟩ = some (.int .i64 a0_2) := (blk_cell BK112.out 2).trans rfl
            have hcz58_3 : wc.cell? ⟨gb112, 3, none⟩ = some (.int .i64 a0_3) := (blk_cell BK112.out 3).trans rfl
            have hcz58_4 : wc.cell? ⟨gb112, 4, none⟩ = some (.int .i64 a0_4) := (blk_cell BK112.out 4).trans rfl
            have hcz58_5 : wc.cell? ⟨gb112, 5, none⟩ = some (.slice A0_5 l0_5.length c0_5) := (blk_cell BK112.out 5).trans rfl
            have hcz58_6 : wc.cell? ⟨gb112, 6, none⟩ = some (.int .i64 a0_6) := (blk_cell BK112.out 6).trans rfl
            have hcz58_7 : wc.cell? ⟨gb112, 7, none⟩ = some (.int .i64 a0_7) := (blk_cell BK112.out 7).trans rfl
            have hcz58_8 : wc.cell? ⟨gb112, 8, none⟩ = some (.int .i64 a0_8) := (blk_cell BK112.out 8).trans rfl
            have hcz58_9 : wc.cell? ⟨gb112, 9, none⟩ = some (.int .i64 a0_9) := (blk_cell BK112.out 9).trans rfl
            have hfz58_0 := blk_frozen BK112.out 0
            have hfz58_1 := blk_frozen BK112.out 1
            have hfz58_2 := blk_frozen BK112.out 2
            have hfz58_3 := blk_frozen BK112.out 3
            have hfz58_4 := blk_frozen BK112.out 4
            have hfz58_5 := blk_frozen BK112.out 5
            have hfz58_6 := blk_frozen BK112.out 6
            have hfz58_7 := blk_frozen BK112.out 7
            have hfz58_8 := blk_frozen BK112.out 8
            have hfz58_9 := blk_frozen BK112.out 9
            go_wp2_with (first | ((with_reducible refine gate_callee (f := 42) rfl ?_); refine goesL_ (some 104) rfl rfl Tryd.func42 (by kernel_rfl) rfl #[.agg #[.int .i64 a0_0, .int .i64 a0_1, .int .i64 a0_2, .int .i64 a0_3, .int .i64 a0_4, .slice A0_5 l0_5.length c0_5, .int .i64 a0_6, .int .i64 a0_7, .int .i64 a0_8, .int .i64 a0_9], .agg #[.int .i64 a0_0, .int .i64 0, .int .i64 0, .int .i64 0, .int .i64 0, .slice none 0 0, .int .i64 0, .int .i64 0, .int .i64 0, .int .i64 0]] rfl (by (try simp only [List.map_toArray, List.map_cons, List.map_nil]); first | done | rfl | (simp only [List.length_drop, List.length_take]; rfl) | (simp only [Array.mk.injEq, List.cons.injEq, Value.int.injEq, and_true, true_and]; (try unfold wrap64); omega)) ?_; (refine (emit_same.calls kj27 a0_0 a0_1 a0_2 a0_3 a0_4 _ _ l0_5 a0_6 a0_7 a0_8 a0_9 a0_0 0 0 0 0 _ _ ([] : List Int) 0 0 0 0 t121 _ ?side1 ?side2 ?side3 ?side4 A57.out).mono ?_); (case side1 => repeat (first | exact (Kd.C_below HR0_5.out HB.out) | (with_reducible refine Kd.C_alloc ?_ _) | (with_reducible refine Kd.C_drewN ?_ _) | (with_reducible refine Kd.C_drew ?_))); (case side2 => exact HC0_5.out); (case side3 => exact Kd.C_nil _ _); (case side4 => exact Nat.le_refl _); rintro e w59 ⟨rfl, hb⟩; refine ⟨_, rfl, ?_⟩; have n0_ := Aside0.mk (blk_below (g := gb112) (o := .cells #[.int .i64 a0_0, .int .i64 a0_1, .int .i64 a0_2, .int .i64 a0_3, .int .i64 a0_4, .slice A0_5 l0_5.length c0_5, .int .i64 a0_6, .int .i64 a0_7, .int .i64 a0_8, .int .i64 a0_9] 50 (0, 0)) (by (with_reducible repeat (first | refine blk_drewN ?_ _ | refine blk_drew ?_ | refine blk_alloc ?_ _)); exact BK112.out) hb); have n1_ := Aside0.mk (below_step (by repeat (first | (with_reducible first | exact HB.out | apply below_alloc | apply pw_below_drewN | apply below_drew1 | refine below_set ?_ GE112.out) | exact HB.out)) hb); clear BK112; clear HB; have BK112 := n0_; have HB := n1_; clear n0_ n1_; (try clear hb); (try clear hb2); (try clear hk); (try clear hi)))
            go_ret
            exact ⟨by first | rfl | (simp [errW_none, errW_some] <;> rfl) | (simp [*, errW_none, errW_some] <;> rfl), by repeat (first | (with_reducible first | exact HB.out | apply below_alloc | apply pw_below_drewN | apply below_drew1 | refine below_set ?_ GE112.out) | exact HB.out)⟩
          · rw [if_neg c56] at H
            have c56b0 : (a0_0 == 4) = false := beq_eq_false_iff_ne.mpr c56
            have c56b1 : (a0_0 != 4) = true := bne_iff_ne.mpr c56
            obtain rfl := Option.some.inj H
            go_wp2
            go_ret
            exact ⟨by first | rfl | (simp [errW_none, errW_some] <;> rfl) | (simp [*, errW_none, errW_some] <;> rfl), by repeat (first | (with_reducible first | exact HB.out | apply below_alloc | apply pw_below_drewN | apply below_drew1 | refine below_set ?_ GE112.out) | exact HB.out)⟩
end Go.Proofs.YtekifiblehmafaaDoor.Y
end
