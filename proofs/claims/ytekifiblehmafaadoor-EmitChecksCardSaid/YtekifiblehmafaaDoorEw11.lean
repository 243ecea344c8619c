/- Part 11 of a proof: what it needs of the program's functions as plain Lean functions, with the proof that the machine's calls come to them, and of plain laws; put together out of smaller texts. No conditions besides those that each statement names. -/
import Derived.Test.YtekifiblehmafaaDoorEw10
import Derived.Test.YtekifiblehmafaaDoorEw2
import Derived.Test.YtekifiblehmafaaDoorEw4
section
namespace Go.Proofs.YtekifiblehmafaaDoor.X
end Go.Proofs.YtekifiblehmafaaDoor.X
namespace Go.Proofs.YtekifiblehmafaaDoor.Y
open Go.RowKit Go.Proofs.YtekifiblehmafaaDoor.X Go.Proofs.YtekifiblehmafaaDoorW.PrintWords Go.Proofs.YtekifiblehmafaaDoorW.PrintLast Go.Proofs.YtekifiblehmafaaDoorW.PrintMore
attribute [local go_sem] max2_int min2_int max_two min_two max_three min_three max_four min_four   -- for this text's walks alone
set_option linter.unusedVariables false
set_option linter.unusedSimpArgs false
attribute [local go_sem high] eqA48
mutual
def colophonref15_one.j0 : Nat → Bool → Int → Int → Int → Int → Int → List Int → Int → Int → Int → Int → Option (Bool)
  | 0, _, _, _, _, _, _, _, _, _, _, _ => none
  | k + 1, x50, x173000, x173001, x173002, x173003, x173004, x173005, x173006, x173007, x173008, x173009 => if x50 = true then (some false) else (colophonref15_one.l0 k 0 x173000 x173001 x173002 x173003 x173004 x173005 x173006 x173007 x173008 x173009)
def colophonref15_one.l0 : Nat → Int → Int → Int → Int → Int → Int → List Int → Int → Int → Int → Int → Option (Bool)
  | 0, _, _, _, _, _, _, _, _, _, _, _ => none
  | k + 1, x3, x173000, x173001, x173002, x173003, x173004, x173005, x173006, x173007, x173008, x173009 => if x3 < (x173005.length : Int) then (if 0 ≤ x3 then (if (rd x173005 x3) < 0 then (some false) else (if (rd x173005 x3) > 65535 then (some false) else (colophonref15_one.l0 k (wrap64 (x3 + 1)) x173000 x173001 x173002 x173003 x173004 x173005 x173006 x173007 x173008 x173009))) else (none)) else (some true)
def colophonref15_one.j2 : Nat → Bool → Int → Int → Int → Int → Int → List Int → Int → Int → Int → Int → Option (Bool)
  | 0, _, _, _, _, _, _, _, _, _, _, _ => none
  | k + 1, x72, x173000, x173001, x173002, x173003, x173004, x173005, x173006, x173007, x173008, x173009 => if x72 = true then ((colophonref15_Boxed.f x173006 x173007 x173008 x173009).bind fun t178 => (if t178 = true then ((colophonref15_One.f k x173000 x173001 x173002 x173003 x173004 x173005 x173006 x173007 x173008 x173009 x173000 0 0 0 0 ([] : List Int) x173006 x173007 x173008 x173009).bind fun t179 => (some t179)) else (some false))) else (if x173000 = 4 then ((colophonref15_One.f k x173000 x173001 x173002 x173003 x173004 x173005 x173006 x173007 x173008 x173009 4 0 0 0 0 ([] : List Int) 0 0 0 0).bind fun t180 => (some t180)) else (some false))
end
def colophonref15_one.f (k : Nat) (a0_0 : Int) (a0_1 : Int) (a0_2 : Int) (a0_3 : Int) (a0_4 : Int) (l0_5 : List Int) (a0_6 : Int) (a0_7 : Int) (a0_8 : Int) (a0_9 : Int) : Option (Bool) := if a0_0 = 1 then (if a0_1 < 0 then (colophonref15_one.j0 k true a0_0 a0_1 a0_2 a0_3 a0_4 l0_5 a0_6 a0_7 a0_8 a0_9) else (if a0_1 > 99 then (colophonref15_one.j0 k true a0_0 a0_1 a0_2 a0_3 a0_4 l0_5 a0_6 a0_7 a0_8 a0_9) else (if a0_2 < 1 then (colophonref15_one.j0 k true a0_0 a0_1 a0_2 a0_3 a0_4 l0_5 a0_6 a0_7 a0_8 a0_9) else ((colophonref01_In.f a0_2).bind fun t173 => (if t173 = true then ((colophonref01_In.f a0_3).bind fun t174 => (if t174 = true then ((colophonref01_In.f a0_4).bind fun t175 => (if t175 = true then (if (l0_5.length : Int) = 0 then (colophonref15_one.j0 k true a0_0 a0_1 a0_2 a0_3 a0_4 l0_5 a0_6 a0_7 a0_8 a0_9) else (colophonref15_one.j0 k (!(a0_6 == 0) || (!(a0_7 == 0) || (!(a0_8 == 0) || (!(a0_9 == 0))))) a0_0 a0_1 a0_2 a0_3 a0_4 l0_5 a0_6 a0_7 a0_8 a0_9)) else (colophonref15_one.j0 k true a0_0 a0_1 a0_2 a0_3 a0_4 l0_5 a0_6 a0_7 a0_8 a0_9))) else (colophonref15_one.j0 k true a0_0 a0_1 a0_2 a0_3 a0_4 l0_5 a0_6 a0_7 a0_8 a0_9))) else (colophonref15_one.j0 k true a0_0 a0_1 a0_2 a0_3 a0_4 l0_5 a0_6 a0_7 a0_8 a0_9)))))) else (if a0_0 = 2 then (colophonref15_one.j2 k (a0_0 == 2) a0_0 a0_1 a0_2 a0_3 a0_4 l0_5 a0_6 a0_7 a0_8 a0_9) else (colophonref15_one.j2 k (a0_0 == 3) a0_0 a0_1 a0_2 a0_3 a0_4 l0_5 a0_6 a0_7 a0_8 a0_9))
theorem colophonref15_one.mono_l : ∀ k, (∀ y0 y1 y2 y3 y4 y5 y6 y7 y8 y9 y10, LeO (colophonref15_one.j0 k y0 y1 y2 y3 y4 y5 y6 y7 y8 y9 y10) (colophonref15_one.j0 (k + 1) y0 y1 y2 y3 y4 y5 y6 y7 y8 y9 y10)) ∧ (∀ y0 y1 y2 y3 y4 y5 y6 y7 y8 y9 y10, LeO (colophonref15_one.l0 k y0 y1 y2 y3 y4 y5 y6 y7 y8 y9 y10) (colophonref15_one.l0 (k + 1) y0 y1 y2 y3 y4 y5 y6 y7 y8 y9 y10)) ∧ (∀ y0 y1 y2 y3 y4 y5 y6 y7 y8 y9 y10, LeO (colophonref15_one.j2 k y0 y1 y2 y3 y4 y5 y6 y7 y8 y9 y10) (colophonref15_one.j2 (k + 1) y0 y1 y2 y3 y4 y5 y6 y7 y8 y9 y10))
  | 0 => ⟨fun _ _ _ _ _ _ _ _ _ _ _ r h => by simp [colophonref15_one.j0] at h, fun _ _ _ _ _ _ _ _ _ _ _ r h => by simp [colophonref15_one.l0] at h, fun _ _ _ _ _ _ _ _ _ _ _ r h => by simp [colophonref15_one.j2] at h⟩
  | k + 1 => by
    obtain ⟨ih0, ih1, ih2⟩ := colophonref15_one.mono_l k
    refine ⟨?_, ?_, ?_⟩
    · intro y0 y1 y2 y3 y4 y5 y6 y7 y8 y9 y10
      unfold colophonref15_one.j0
      repeat' first
      | (with_reducible exact ih0 _ _ _ _ _ _ _ _ _ _ _)
      | (with_reducible exact ih1 _ _ _ _ _ _ _ _ _ _ _)
      | (with_reducible exact ih2 _ _ _ _ _ _ _ _ _ _ _)
      | (with_reducible exact colophonref15_One.mono _ _ _ _ _ _ _ _ _ _ _ _ _ _ _ _ _ _ _ _ _)
      | (with_reducible exact LeO.refl _)
      | (with_reducible exact LeO.none _)
      | (with_reducible refine LeO.ite ?_ ?_)
      | (with_reducible refine LeO.bind ?_ (fun _ => ?_))
      | exact ih0 _ _ _ _ _ _ _ _ _ _ _
      | exact ih1 _ _ _ _ _ _ _ _ _ _ _
      | exact ih2 _ _ _ _ _ _ _ _ _ _ _
      | exact colophonref15_One.mono _ _ _ _ _ _ _ _ _ _ _ _ _ _ _ _ _ _ _ _ _
      | exact LeO.none _
      | refine LeO.ite ?_ ?_
      | refine LeO.bind ?_ (fun _ => ?_)
    · intro y0 y1 y2 y3 y4 y5 y6 y7 y8 y9 y10
      unfold colophonref15_one.l0
      repeat' first
      | (with_reducible exact ih0 _ _ _ _ _ _ _ _ _ _ _)
      | (with_reducible exact ih1 _ _ _ _ _ _ _ _ _ _ _)
      | (with_reducible exact ih2 _ _ _ _ _ _ _ _ _ _ _)
      | (with_reducible exact colophonref15_One.mono _ _ _ _ _ _ _ _ _ _ _ _ _ _ _ _ _ _ _ _ _)
      | (with_reducible exact LeO.refl _)
      | (with_reducible exact LeO.none _)
      | (with_reducible refine LeO.ite ?_ ?_)
      | (with_reducible refine LeO.bind ?_ (fun _ => ?_))
      | exact ih0 _ _ _ _ _ _ _ _ _ _ _
      | exact ih1 _ _ _ _ _ _ _ _ _ _ _
      | exact ih2 _ _ _ _ _ _ _ _ _ _ _
      | exact colophonref15_One.mono _ _ _ _ _ _ _ _ _ _ _ _ _ _ _ _ _ _ _ _ _
      | exact LeO.none _
      | refine LeO.ite ?_ ?_
      | refine LeO.bind ?_ (fun _ => ?_)
    · intro y0 y1 y2 y3 y4 y5 y6 y7 y8 y9 y10
      unfold colophonref15_one.j2
      repeat' first
      | (with_reducible exact ih0 _ _ _ _ _ _ _ _ _ _ _)
      | (with_reducible exact ih1 _ _ _ _ _ _ _ _ _ _ _)
      | (with_reducible exact ih2 _ _ _ _ _ _ _ _ _ _ _)
      | (with_reducible exact colophonref15_One.mono _ _ _ _ _ _ _ _ _ _ _ _ _ _ _ _ _ _ _ _ _)
      | (with_reducible exact LeO.refl _)
      | (with_reducible exact LeO.none _)
      | (with_reducible refine LeO.ite ?_ ?_)
      | (with_reducible refine LeO.bind ?_ (fun _ => ?_))
      | exact ih0 _ _ _ _ _ _ _ _ _ _ _
      | exact ih1 _ _ _ _ _ _ _ _ _ _ _
      | exact ih2 _ _ _ _ _ _ _ _ _ _ _
      | exact colophonref15_One.mono _ _ _ _ _ _ _ _ _ _ _ _ _ _ _ _ _ _ _ _ _
      | exact LeO.none _
      | refine LeO.ite ?_ ?_
      | refine LeO.bind ?_ (fun _ => ?_)
theorem colophonref15_one.mono : ∀ a0 a1 a2 a3 a4 a5 a6 a7 a8 a9 k, LeO (colophonref15_one.f k a0 a1 a2 a3 a4 a5 a6 a7 a8 a9) (colophonref15_one.f (k + 1) a0 a1 a2 a3 a4 a5 a6 a7 a8 a9) := by
  intro a0 a1 a2 a3 a4 a5 a6 a7 a8 a9 k
  obtain ⟨ih0, ih1, ih2⟩ := colophonref15_one.mono_l k
  unfold colophonref15_one.f
  repeat' first
      | (with_reducible exact ih0 _ _ _ _ _ _ _ _ _ _ _)
      | (with_reducible exact ih1 _ _ _ _ _ _ _ _ _ _ _)
      | (with_reducible exact ih2 _ _ _ _ _ _ _ _ _ _ _)
      | (with_reducible exact colophonref15_One.mono _ _ _ _ _ _ _ _ _ _ _ _ _ _ _ _ _ _ _ _ _)
      | (with_reducible exact LeO.refl _)
      | (with_reducible exact LeO.none _)
      | (with_reducible refine LeO.ite ?_ ?_)
      | (with_reducible refine LeO.bind ?_ (fun _ => ?_))
      | exact ih0 _ _ _ _ _ _ _ _ _ _ _
      | exact ih1 _ _ _ _ _ _ _ _ _ _ _
      | exact ih2 _ _ _ _ _ _ _ _ _ _ _
      | exact colophonref15_One.mono _ _ _ _ _ _ _ _ _ _ _ _ _ _ _ _ _ _ _ _ _
      | exact LeO.none _
      | refine LeO.ite ?_ ?_
      | refine LeO.bind ?_ (fun _ => ?_)
set_option maxHeartbeats 8000000 in
set_option maxRecDepth 100000 in
theorem colophonref15_one.calls (k : Nat) (a0_0 : Int) (a0_1 : Int) (a0_2 : Int) (a0_3 : Int) (a0_4 : Int) (A0_5 : Option Addr) (c0_5 : Nat) (l0_5 : List Int) (a0_6 : Int) (a0_7 : Int) (a0_8 : Int) (a0_9 : Int) (r : Bool) (w : World) (hr0_5 : Kd.C (Kd.int .i64) w A0_5 l0_5.length l0_5) (hc0_5 : l0_5.length ≤ c0_5) (h : colophonref15_one.f k a0_0 a0_1 a0_2 a0_3 a0_4 l0_5 a0_6 a0_7 a0_8 a0_9 = some r) :
    Calls Tryd.prog 40 #[.agg #[.int .i64 a0_0, .int .i64 a0_1, .int .i64 a0_2, .int .i64 a0_3, .int .i64 a0_4, .slice A0_5 l0_5.length c0_5, .int .i64 a0_6, .int .i64 a0_7, .int .i64 a0_8, .int .i64 a0_9]] w fun e w' => e = .returned (.bool r) ∧ Below w.heap.size w w' := by
  have hu50 := Tryd.underlying50
  have hu48 := Tryd.underlying48
  have HR0_5 := Aside0.mk hr0_5
  have HC0_5 := Aside0.mk hc0_5
  clear hr0_5 hc0_5
  have HB := Aside0.mk (Below.refl w.heap.size w)
  have H : (if a0_0 = 1 then (if a0_1 < 0 then (colophonref15_one.j0 k true a0_0 a0_1 a0_2 a0_3 a0_4 l0_5 a0_6 a0_7 a0_8 a0_9) else (if a0_1 > 99 then (colophonref15_one.j0 k true a0_0 a0_1 a0_2 a0_3 a0_4 l0_5 a0_6 a0_7 a0_8 a0_9) else (if a0_2 < 1 then (colophonref15_one.j0 k true a0_0 a0_1 a0_2 a0_3 a0_4 l0_5 a0_6 a0_7 a0_8 a0_9) else ((colophonref01_In.f a0_2).bind fun t173 => (if t173 = true then ((colophonref01_In.f a0_3).bind fun t174 => (if t174 = true then ((colophonref01_In.f a0_4).bind fun t175 => (if t175 = true then (if (l0_5.length : Int) = 0 then (colophonref15_one.j0 k true a0_0 a0_1 a0_2 a0_3 a0_4 l0_5 a0_6 a0_7 a0_8 a0_9) else (colophonref15_one.j0 k (!(a0_6 == 0) || (!(a0_7 == 0) || (!(a0_8 == 0) || (!(a0_9 == 0))))) a0_0 a0_1 a0_2 a0_3 a0_4 l0_5 a0_6 a0_7 a0_8 a0_9)) else (colophonref15_one.j0 k true a0_0 a0_1 a0_2 a0_3 a0_4 l0_5 a0_6 a0_7 a0_8 a0_9))) else (colophonref15_one.j0 k true a0_0 a0_1 a0_2 a0_3 a0_4 l0_5 a0_6 a0_7 a0_8 a0_9))) else (colophonref15_one.j0 k true a0_0 a0_1 a0_2 a0_3 a0_4 l0_5 a0_6 a0_7 a0_8 a0_9)))))) else (if a0_0 = 2 then (colophonref15_one.j2 k (a0_0 == 2) a0_0 a0_1 a0_2 a0_3 a0_4 l0_5 a0_6 a0_7 a0_8 a0_9) else (colophonref15_one.j2 k (a0_0 == 3) a0_0 a0_1 a0_2 a0_3 a0_4 l0_5 a0_6 a0_7 a0_8 a0_9))) = some r := h
  clear h
  by_cases c2 : a0_0 = 1
  · rw [if_pos c2] at H
    have c2b0 : (a0_0 == 1) = true := beq_iff_eq.mpr c2
    have c2b1 : (a0_0 != 1) = false := bne_eq_false_iff_eq.mpr c2
    clear c2
    have HC3 := Aside0.mk H
    clear H
    go_enter Tryd.func40, Tryd.ntmps40
    go_upto_region 3 with (first | ((with_reducible refine gate_dst (N := 1) rfl ?_); (try (refine gate_guard (by rfl) ?_; dsimp only)); refine box_event ?hg (N := 1) ?hd (cs := #[.int .i64 a0_0, .int .i64 a0_1, .int .i64 a0_2, .int .i64 a0_3, .int .i64 a0_4, .slice A0_5 l0_5.length c0_5, .int .i64 a0_6, .int .i64 a0_7, .int .i64 a0_8, .int .i64 a0_9]) (t := 50) ?hr ?_; (case hd => rfl); (case hg => rfl); (case hr => first | (go_simp; done) | (go_simp; rfl)); intro gb172 hg w4 hbox hb; have n0_ := Aside0.mk (below_step (by repeat (first | (with_reducible first | exact HB.out | apply below_alloc | apply pw_below_drewN | apply below_drew1) | exact HB.out)) hb); have n1_ := Aside0.mk (hbox); have n2_ := Aside0.mk ((by rw [hg]; exact (below_size (by repeat (first | (with_reducible first | exact HB.out | apply below_alloc | apply pw_below_drewN | apply below_drew1) | exact HB.out))) : w.heap.size ≤ gb172)); have n3_ := Aside0.mk ((by rw [hg]; exact (below_size (by repeat (first | (with_reducible first | exact HB.out | apply below_alloc | apply pw_below_drewN | apply below_drew1) | exact HB.out))) : w.heap.size ≤ gb172)); clear HB; have HB := n0_; have BK172 := n1_; have GW172 := n2_; have GE172 := n3_; clear n0_ n1_ n2_ n3_; clear hb hbox hg; have hcz5_0 : w4.cell? ⟨gb172, 0, none⟩ = some (.int .i64 a0_0) := (blk_cell BK172.out 0).trans rfl; have hcz5_1 : w4.cell? ⟨gb172, 1, none⟩ = some (.int .i64 a0_1) := (blk_cell BK172.out 1).trans rfl; have hcz5_2 : w4.cell? ⟨gb172, 2, none⟩ = some (.int .i64 a0_2) := (blk_cell BK172.out 2).trans rfl; have hcz5_3 : w4.cell? ⟨gb172, 3, none⟩ = some (.int .i64 a0_3) := (blk_cell BK172.out 3).trans rfl; have hcz5_4 : w4.cell? ⟨gb172, 4, none⟩ = some (.int .i64 a0_4) := (blk_cell BK172.out 4).trans rfl; have hcz5_5 : w4.cell? ⟨gb172, 5, none⟩ = some (.slice A0_5 l0_5.length c0_5) := (blk_cell BK172.out 5).trans rfl; have hcz5_6 : w4.cell? ⟨gb172, 6, none⟩ = some (.int .i64 a0_6) := (blk_cell BK172.out 6).trans rfl; have hcz5_7 : w4.cell? ⟨gb172, 7, none⟩ = some (.int .i64 a0_7) := (blk_cell BK172.out 7).trans rfl; have hcz5_8 : w4.cell? ⟨gb172, 8, none⟩ = some (.int .i64 a0_8) := (blk_cell BK172.out 8).trans rfl; have hcz5_9 : w4.cell? ⟨gb172, 9, none⟩ = some (.int .i64 a0_9) := (blk_cell BK172.out 9).trans rfl; have hfz5_0 := blk_frozen BK172.out 0; have hfz5_1 := blk_frozen BK172.out 1; have hfz5_2 := blk_frozen BK172.out 2; have hfz5_3 := blk_frozen BK172.out 3; have hfz5_4 := blk_frozen BK172.out 4; have hfz5_5 := blk_frozen BK172.out 5; have hfz5_6 := blk_frozen BK172.out 6; have hfz5_7 := blk_frozen BK172.out 7; have hfz5_8 := blk_frozen BK172.out 8; have hfz5_9 := blk_frozen BK172.out 9))
    (try simp only [Act.put, List.setIfInBounds_toArray, List.set_cons_zero, List.set_cons_succ])
    go_cut [50] (fun v50 wc => ∃ (kq : Nat) (x50_2 : Bool), v50 = .bool x50_2 ∧ Aside0 (colophonref15_one.j0 kq x50_2 a0_0 a0_1 a0_2 a0_3 a0_4 l0_5 a0_6 a0_7 a0_8 a0_9 = some r) ∧ Aside0 (kq ≤ k) ∧ Aside0 (wc.heap[gb172]? = some (.cells #[.int .i64 a0_0, .int .i64 a0_1, .int .i64 a0_2, .int .i64 a0_3, .int .i64 a0_4, (.slice A0_5 l0_5.length c0_5), .int .i64 a0_6, .int .i64 a0_7, .int .i64 a0_8, .int .i64 a0_9] 50 (0, 0))) ∧ Aside0 (Below w.heap.size w wc))
    case first =>
      have H := HC3.out
      clear HC3
      by_cases c6 : a0_1 < 0
      · rw [if_pos c6] at H
        have c6b0 : decide (a0_1 < 0) = true := decide_eq_true c6
        clear c6
        (first | rw [c6b0] | (simp only [i64_w, i32_w]; rw [c6b0]) | skip)
        have H' := Aside0.mk H
        clear H
        have hcz7_0 : w4.cell? ⟨gb172, 0, none⟩ = some (.int .i64 a0_0) := (blk_cell BK172.out 0).trans rfl
        have hcz7_1 : w4.cell? ⟨gb172, 1, none⟩ = some (.int .i64 a0_1) := (blk_cell BK172.out 1).trans rfl
        have hcz7_2 : w4.cell? ⟨gb172, 2, none⟩ = some (.int .i64 a0_2) := (blk_cell BK172.out 2).trans rfl
        have hcz7_3 : w4.cell? ⟨gb172, 3, none⟩ = some (.int .i64 a0_3) := (blk_cell BK172.out 3).trans rfl
        have hcz7_4 : w4.cell? ⟨gb172, 4, none⟩ = some (.int .i64 a0_4) := (blk_cell BK172.out 4).trans rfl
        have hcz7_5 : w4.cell? ⟨gb172, 5, none⟩ = some (.slice A0_5 l0_5.length c0_5) := (blk_cell BK172.out 5).trans rfl
        have hcz7_6 : w4.cell? ⟨gb172, 6, none⟩ = some (.int .i64 a0_6) := (blk_cell BK172.out 6).trans rfl
        have hcz7_7 : w4.cell? ⟨gb172, 7, none⟩ = some (.int .i64 a0_7) := (blk_cell BK172.out 7).trans rfl
        have hcz7_8 : w4.cell? ⟨gb172, 8, none⟩ = some (.int .i64 a0_8) := (blk_cell BK172.out 8).trans rfl
        have hcz7_9 : w4.cell? ⟨gb172, 9, none⟩ = some (.int .i64 a0_9) := (blk_cell BK172.out 9).trans rfl
        have hfz7_0 := blk_frozen BK172.out 0
        have hfz7_1 := blk_frozen BK172.out 1
        have hfz7_2 := blk_frozen BK172.out 2
        have hfz7_3 := blk_frozen BK172.out 3
        have hfz7_4 := blk_frozen BK172.out 4
        have hfz7_5 := blk_frozen BK172.out 5
        have hfz7_6 := blk_frozen BK172.out 6
        have hfz7_7 := blk_frozen BK172.out 7
        have hfz7_8 := blk_frozen BK172.out 8
        have hfz7_9 := blk_frozen BK172.out 9
        go_wp2
        go_meet
        case rel => exact ⟨_, (true), (by first | rfl | (simp; done) | (simp [*]; done) | (simp [ne_nil_]; done)), H', ⟨by first | omega | exact Nat.le_refl _⟩, ⟨by (with_reducible repeat (first | refine blk_drewN ?_ _ | refine blk_drew ?_ | refine blk_alloc ?_ _)); exact BK172.out⟩, ⟨by repeat (first | (with_reducible first | exact HB.out | apply below_alloc | apply pw_below_drewN | apply below_drew1 | refine below_set ?_ GE172.out) | exact HB.out)⟩⟩
      · rw [if_neg c6] at H
        have c6b0 : decide (a0_1 < 0) = false := decide_eq_false c6
        clear c6
        (first | rw [c6b0] | (simp only [i64_w, i32_w]; rw [c6b0]) | skip)
        by_cases c8 : a0_1 > 99
        · rw [if_pos c8] at H
          have c8b0 : decide (99 < a0_1) = true := decide_eq_true c8
          clear c8
          have H' := Aside0.mk H
          clear H
          have hcz9_0 : w4.cell? ⟨gb172, 0, none⟩ = some (.int .i64 a0_0) := (blk_cell BK172.out 0).trans rfl
          have hcz9_1 : w4.cell? ⟨gb172, 1, none⟩ = some (.int .i64 a0_1) := (blk_cell BK172.out 1).trans rfl
          have hcz9_2 : w4.cell? ⟨gb172, 2, none⟩ = some (.int .i64 a0_2) := (blk_cell BK172.out 2).trans rfl
          have hcz9_3 : w4.cell? ⟨gb172, 3, none⟩ = some (.int .i64 a0_3) := (blk_cell BK172.out 3).trans rfl
          have hcz9_4 : w4.cell? ⟨gb172, 4, none⟩ = some (.int .i64 a0_4) := (blk_cell BK172.out 4).trans rfl
          have hcz9_5 : w4.cell? ⟨gb172, 5, none⟩ = some (.slice A0_5 l0_5.length c0_5) := (blk_cell BK172.out 5).trans rfl
          have hcz9_6 : w4.cell? ⟨gb172, 6, none⟩ = some (.int .i64 a0_6) := (blk_cell BK172.out 6).trans rfl
          have hcz9_7 : w4.cell? ⟨gb172, 7, none⟩ = some (.int .i64 a0_7) := (blk_cell BK172.out 7).trans rfl
          have hcz9_8 : w4.cell? ⟨gb172, 8, none⟩ = some (.int .i64 a0_8) := (blk_cell BK172.out 8).trans rfl
          have hcz9_9 : w4.cell? ⟨gb172, 9, none⟩ = some (.int .i64 a0_9) := (blk_cell BK172.out 9).trans rfl
          have hfz9_0 := blk_frozen BK172.out 0
          have hfz9_1 := blk_frozen BK172.out 1
          have hfz9_2 := blk_frozen BK172.out 2
          have hfz9_3 := blk_frozen BK172.out 3
          have hfz9_4 := blk_frozen BK172.out 4
          have hfz9_5 := blk_frozen BK172.out 5
          have hfz9_6 := blk_frozen BK172.out 6
          have hfz9_7 := blk_frozen BK172.out 7
          have hfz9_8 := blk_frozen BK172.out 8
          have hfz9_9 := blk_frozen BK172.out 9
          go_wp2
          go_meet
          case rel => exact ⟨_, (true), (by first | rfl | (simp; done) | (simp [*]; done) | (simp [ne_nil_]; done)), H', ⟨by first | omega | exact Nat.le_refl _⟩, ⟨by (with_reducible repeat (first | refine blk_drewN ?_ _ | refine blk_drew ?_ | refine blk_alloc ?_ _)); exact BK172.out⟩, ⟨by repeat (first | (with_reducible first | exact HB.out | apply below_alloc | apply pw_below_drewN | apply below_drew1 | refine below_set ?_ GE172.out) | exact HB.out)⟩⟩
        · rw [if_neg c8] at H
          have c8b0 : decide (99 < a0_1) = false := decide_eq_false c8
          clear c8
          by_cases c10 : a0_2 < 1
          · rw [if_pos c10] at H
            have c10b0 : decide (a0_2 < 1) = true := decide_eq_true c10
            clear c10
            have H' := Aside0.mk H
            clear H
            have hcz11_0 : w4.cell? ⟨gb172, 0, none⟩ = some (.int .i64 a0_0) := (blk_cell BK172.out 0).trans rfl
            have hcz11_1 : w4.cell? ⟨gb172, 1, none⟩ = some (.int .i64 a0_1) := (blk_cell BK172.out 1).trans rfl
            have hcz11_2 : w4.cell? ⟨gb172, 2, none⟩ = some (.int .i64 a0_2) := (blk_cell BK172.out 2).trans rfl
            have hcz11_3 : w4.cell? ⟨gb172, 3, none⟩ = some (.int .i64 a0_3) := (blk_cell BK172.out 3).trans rfl
            have hcz11_4 : w4.cell? ⟨gb172, 4, none⟩ = some (.int .i64 a0_4) := (blk_cell BK172.out 4).trans rfl
            have hcz11_5 : w4.cell? ⟨gb172, 5, none⟩ = some (.slice A0_5 l0_5.length c0_5) := (blk_cell BK172.out 5).trans rfl
            have hcz11_6 : w4.cell? ⟨gb172, 6, none⟩ = some (.int .i64 a0_6) := (blk_cell BK172.out 6).trans rfl
            have hcz11_7 : w4.cell? ⟨gb172, 7, none⟩ = some (.int .i64 a0_7) := (blk_cell BK172.out 7).trans rfl
            have hcz11_8 : w4.cell? ⟨gb172, 8, none⟩ = some (.int .i64 a0_8) := (blk_cell BK172.out 8).trans rfl
            have hcz11_9 : w4.cell? ⟨gb172, 9, none⟩ = some (.int .i64 a0_9) := (blk_cell BK172.out 9).trans rfl
            have hfz11_0 := blk_frozen BK172.out 0
            have hfz11_1 := blk_frozen BK172.out 1
            have hfz11_2 := blk_frozen BK172.out 2
            have hfz11_3 := blk_frozen BK172.out 3
            have hfz11_4 := blk_frozen BK172.out 4
            have hfz11_5 := blk_frozen BK172.out 5
            have hfz11_6 := blk_frozen BK172.out 6
            have hfz11_7 := blk_frozen BK172.out 7
            have hfz11_8 := blk_frozen BK172.out 8
            have hfz11_9 := blk_frozen BK172.out 9
            go_wp2
            go_meet
            case rel => exact ⟨_, (true), (by first | rfl | (simp; done) | (simp [*]; done) | (simp [ne_nil_]; done)), H', ⟨by first | omega | exact Nat.le_refl _⟩, ⟨by (with_reducible repeat (first | refine blk_drewN ?_ _ | refine blk_drew ?_ | refine blk_alloc ?_ _)); exact BK172.out⟩, ⟨by repeat (first | (with_reducible first | exact HB.out | apply below_alloc | apply pw_below_drewN | apply below_drew1 | refine below_set ?_ GE172.out) | exact HB.out)⟩⟩
          · rw [if_neg c10] at H
            have c10b0 : decide (a0_2 < 1) = false := decide_eq_false c10
            clear c10
            replace H := Option.bind_eq_some_iff.mp H
            obtain ⟨t173, A120, H⟩ := H
            replace H : (if t173 = true then ((colophonref01_In.f a0_3).bind fun t174 => (if t174 = true then ((colophonref01_In.f a0_4).bind fun t175 => (if t175 = true then (if (l0_5.length : Int) = 0 then (colophonref15_one.j0 k true a0_0 a0_1 a0_2 a0_3 a0_4 l0_5 a0_6 a0_7 a0_8 a0_9) else (colophonref15_one.j0 k (!(a0_6 == 0) || (!(a0_7 == 0) || (!(a0_8 == 0) || (!(a0_9 == 0))))) a0_0 a0_1 a0_2 a0_3 a0_4 l0_5 a0_6 a0_7 a0_8 a0_9)) else (colophonref15_one.j0 k true a0_0 a0_1 a0_2 a0_3 a0_4 l0_5 a0_6 a0_7 a0_8 a0_9))) else (colophonref15_one.j0 k true a0_0 a0_1 a0_2 a0_3 a0_4 l0_5 a0_6 a0_7 a0_8 a0_9))) else (colophonref15_one.j0 k true a0_0 a0_1 a0_2 a0_3 a0_4 l0_5 a0_6 a0_7 a0_8 a0_9)) = some r := H
            have A12 := Aside0.mk A120
            clear A120
            by_cases c13 : t173 = true
            · subst c13
              have H1 : ((colophonref01_In.f a0_3).bind fun t174 => (if t174 = true then ((colophonref01_In.f a0_4).bind fun t175 => (if t175 = true then (if (l0_5.length : Int) = 0 then (colophonref15_one.j0 k true a0_0 a0_1 a0_2 a0_3 a0_4 l0_5 a0_6 a0_7 a0_8 a0_9) else (colophonref15_one.j0 k (!(a0_6 == 0) || (!(a0_7 == 0) || (!(a0_8 == 0) || (!(a0_9 == 0))))) a0_0 a0_1 a0_2 a0_3 a0_4 l0_5 a0_6 a0_7 a0_8 a0_9)) else (colophonref15_one.j0 k true a0_0 a0_1 a0_2 a0_3 a0_4 l0_5 a0_6 a0_7 a0_8 a0_9))) else (colophonref15_one.j0 k true a0_0 a0_1 a0_2 a0_3 a0_4 l0_5 a0_6 a0_7 a0_8 a0_9))) = some r := by rw [if_pos rfl] at H; exact H
              clear H
              have H := H1
              clear H1
              replace H := Option.bind_eq_some_iff.mp H
              obtain ⟨t174, A140, H⟩ := H
              replace H : (if t174 = true then ((colophonref01_In.f a0_4).bind fun t175 => (if t175 = true then (if (l0_5.length : Int) = 0 then (colophonref15_one.j0 k true a0_0 a0_1 a0_2 a0_3 a0_4 l0_5 a0_6 a0_7 a0_8 a0_9) else (colophonref15_one.j0 k (!(a0_6 == 0) || (!(a0_7 == 0) || (!(a0_8 == 0) || (!(a0_9 == 0))))) a0_0 a0_1 a0_2 a0_3 a0_4 l0_5 a0_6 a0_7 a0_8 a0_9)) else (colophonref15_one.j0 k true a0_0 a0_1 a0_2 a0_3 a0_4 l0_5 a0_6 a0_7 a0_8 a0_9))) else (colophonref15_one.j0 k true a0_0 a0_1 a0_2 a0_3 a0_4 l0_5 a0_6 a0_7 a0_8 a0_9)) = some r := H
              have A14 := Aside0.mk A140
              clear A140
              by_cases c15 : t174 = true
              · subst c15
                have H1 : ((colophonref01_In.f a0_4).bind fun t175 => (if t175 = true then (if (l0_5.length : Int) = 0 then (colophonref15_one.j0 k true a0_0 a0_1 a0_2 a0_3 a0_4 l0_5 a0_6 a0_7 a0_8 a0_9) else (colophonref15_one.j0 k (!(a0_6 == 0) || (!(a0_7 == 0) || (!(a0_8 == 0) || (!(a0_9 == 0))))) a0_0 a0_1 a0_2 a0_3 a0_4 l0_5 a0_6 a0_7 a0_8 a0_9)) else (colophonref15_one.j0 k true a0_0 a0_1 a0_2 a0_3 a0_4 l0_5 a0_6 a0_7 a0_8 a0_9))) = some r := by rw [if_pos rfl] at H; exact H
                clear H
                have H := H1
                clear H1
                replace H := Option.bind_eq_some_iff.mp H
                obtain ⟨t175, A160, H⟩ := H
                replace H : (if t175 = true then (if (l0_5.length : Int) = 0 then (colophonref15_one.j0 k true a0_0 a0_1 a0_2 a0_3 a0_4 l0_5 a0_6 a0_7 a0_8 a0_9) else (colophonref15_one.j0 k (!(a0_6 == 0) || (!(a0_7 == 0) || (!(a0_8 == 0) || (!(a0_9 == 0))))) a0_0 a0_1 a0_2 a0_3 a0_4 l0_5 a0_6 a0_7 a0_8 a0_9)) else (colophonref15_one.j0 k true a0_0 a0_1 a0_2 a0_3 a0_4 l0_5 a0_6 a0_7 a0_8 a0_9)) = some r := H
                have A16 := Aside0.mk A160
                clear A160
                by_cases c17 : t175 = true
                · subst c17
                  have H1 : (if (l0_5.length : Int) = 0 then (colophonref15_one.j0 k true a0_0 a0_1 a0_2 a0_3 a0_4 l0_5 a0_6 a0_7 a0_8 a0_9) else (colophonref15_one.j0 k (!(a0_6 == 0) || (!(a0_7 == 0) || (!(a0_8 == 0) || (!(a0_9 == 0))))) a0_0 a0_1 a0_2 a0_3 a0_4 l0_5 a0_6 a0_7 a0_8 a0_9)) = some r := by rw [if_pos rfl] at H; exact H
                  clear H
                  have H := H1
                  clear H1
                  by_cases c18 : (l0_5.length : Int) = 0
                  · rw [if_pos c18] at H
                    have c18b0 : ((l0_5.length : Int) == 0) = true := beq_iff_eq.mpr c18
                    have c18b1 : ((l0_5.length : Int) != 0) = false := bne_eq_false_iff_eq.mpr c18
                    clear c18
                    have H' := Aside0.mk H
                    clear H
                    have hcz19_0 : w4.cell? ⟨gb172, 0, none⟩ = some (.int .i64 a0_0) := (blk_cell BK172.out 0).trans rfl
                    have hcz19_1 : w4.cell? ⟨gb172, 1, none⟩ = some (.int .i64 a0_1) := (blk_cell BK172.out 1).trans rfl
                    have hcz19_2 : w4.cell? ⟨gb172, 2, none⟩ = some (.int .i64 a0_2) := (blk_cell BK172.out 2).trans rfl
                    have hcz19_3 : w4.cell? ⟨gb172, 3, none⟩ = some (.int .i64 a0_3) := (blk_cell BK172.out 3).trans rfl
                    have hcz19_4 : w4.cell? ⟨gb172, 4, none⟩ = some (.int .i64 a0_4) := (blk_cell BK172.out 4).trans rfl
                    have hcz19_5 : w4.cell? ⟨gb172, 5, none⟩ = some (.slice A0_5 l0_5.length c0_5) := (blk_cell BK172.out 5).trans rfl
                    have hcz19_6 : w4.cell? ⟨gb172, 6, none⟩ = some (.int .i64 a0_6) := (blk_cell BK172.out 6).trans rfl
                    have hcz19_7 : w4.cell? ⟨gb172, 7, none⟩ = some (.int .i64 a0_7) := (blk_cell BK172.out 7).trans rfl
                    have hcz19_8 : w4.cell? ⟨gb172, 8, none⟩ = some (.int .i64 a0_8) := (blk_cell BK172.out 8).trans rfl
                    have hcz19_9 : w4.cell? ⟨gb172, 9, none⟩ = some (.int .i64 a0_9) := (blk_cell BK172.out 9).trans rfl
                    have hfz19_0 := blk_frozen BK172.out 0
                    have hfz19_1 := blk_frozen BK172.out 1
                    have hfz19_2 := blk_frozen BK172.out 2
                    have hfz19_3 := blk_frozen BK172.out 3
                    have hfz19_4 := blk_frozen BK172.out 4
                    have hfz19_5 := blk_frozen BK172.out 5
                    have hfz19_6 := blk_frozen BK172.out 6
                    have hfz19_7 := blk_frozen BK172.out 7
                    have hfz19_8 := blk_frozen BK172.out 8
                    have hfz19_9 := blk_frozen BK172.out 9
                    go_wp2_with (first | (go_at_call 47; (with_reducible refine (colophonref01_In.calls a0_2 true _ A12.out).mono ?_); rintro e w' ⟨rfl, ⟨nd, rfl⟩⟩) | (go_at_call 47; (with_reducible refine (colophonref01_In.calls a0_3 true _ A14.out).mono ?_); rintro e w' ⟨rfl, ⟨nd, rfl⟩⟩) | (go_at_call 47; (with_reducible refine (colophonref01_In.calls a0_4 true _ A16.out).mono ?_); rintro e w' ⟨rfl, ⟨nd, rfl⟩⟩))
                    go_meet
                    case rel => exact ⟨_, (true), (by first | rfl | (simp; done) | (simp [*]; done) | (simp [ne_nil_]; done)), H', ⟨by first | omega | exact Nat.le_refl _⟩, ⟨by (with_reducible repeat (first | refine blk_drewN ?_ _ | refine blk_drew ?_ | refine blk_alloc ?_ _)); exact BK172.out⟩, ⟨by repeat (first | (with_reducible first | exact HB.out | apply below_alloc | apply pw_below_drewN | apply below_drew1 | refine below_set ?_ GE172.out) | exact HB.out)⟩⟩
                  · rw [if_neg c18] at H
                    have c18b0 : ((l0_5.length : Int) == 0) = false := beq_eq_false_iff_ne.mpr c18
                    have c18b1 : ((l0_5.length : Int) != 0) = true := bne_iff_ne.mpr c18
                    have c18b2 : ¬ (l0_5 = []) := fun h_ => c18 (by rw [h_]; rfl)
                    have H' := Aside0.mk H
                    clear H
                    have hcz20_0 : w4.cell? ⟨gb172, 0, none⟩ = some (.int .i64 a0_0) := (blk_cell BK172.out 0).trans rfl
                    have hcz20_1 : w4.cell? ⟨gb172, 1, none⟩ = some (.int .i64 a0_1) := (blk_cell BK172.out 1).trans rfl
                    have hcz20_2 : w4.cell? ⟨gb172, 2, none⟩ = some (.int .i64 a0_2) := (blk_cell BK172.out 2).trans rfl
                    have hcz20_3 : w4.cell? ⟨gb172, 3, none⟩ = some (.int .i64 a0_3) := (blk_cell BK172.out 3).trans rfl
                    have hcz20_4 : w4.cell? ⟨gb172, 4, none⟩ = some (.int .i64 a0_4) := (blk_cell BK172.out 4).trans rfl
                    have hcz20_5 : w4.cell? ⟨gb172, 5, none⟩ = some (.slice A0_5 l0_5.length c0_5) := (blk_cell BK172.out 5).trans rfl
                    have hcz20_6 : w4.cell? ⟨gb172, 6, none⟩ = some (.int .i64 a0_6) := (blk_cell BK172.out 6).trans rfl
                    have hcz20_7 : w4.cell? ⟨gb172, 7, none⟩ = some (.int .i64 a0_7) := (blk_cell BK172.out 7).trans rfl
                    have hcz20_8 : w4.cell? ⟨gb172, 8, none⟩ = some (.int .i64 a0_8) := (blk_cell BK172.out 8).trans rfl
                    have hcz20_9 : w4.cell? ⟨gb172, 9, none⟩ = some (.int .i64 a0_9) := (blk_cell BK172.out 9).trans rfl
                    have hfz20_0 := blk_frozen BK172.out 0
                    have hfz20_1 := blk_frozen BK172.out 1
                    have hfz20_2 := blk_frozen BK172.out 2
                    have hfz20_3 := blk_frozen BK172.out 3
                    have hfz20_4 := blk_frozen BK172.out 4
                    have hfz20_5 := blk_frozen BK172.out 5
                    have hfz20_6 := blk_frozen BK172.out 6
                    have hfz20_7 := blk_frozen BK172.out 7
                    have hfz20_8 := blk_frozen BK172.out 8
                    have hfz20_9 := blk_frozen BK172.out 9
                    go_wp2_with (first | (go_at_call 47; (with_reducible refine (colophonref01_In.calls a0_2 true _ A12.out).mono ?_); rintro e w' ⟨rfl, ⟨nd, rfl⟩⟩) | (go_at_call 47; (with_reducible refine (colophonref01_In.calls a0_3 true _ A14.out).mono ?_); rintro e w' ⟨rfl, ⟨nd, rfl⟩⟩) | (go_at_call 47; (with_reducible refine (colophonref01_In.calls a0_4 true _ A16.out).mono ?_); rintro e w' ⟨rfl, ⟨nd, rfl⟩⟩))
                    go_meet
                    case rel => exact ⟨_, ((!(a0_6 == 0) || (!(a0_7 == 0) || (!(a0_8 == 0) || (!(a0_9 == 0)))))), (by first | rfl | (simp; done) | (simp [*]; done) | (simp [ne_nil_]; done)), H', ⟨by first | omega | exact Nat.le_refl _⟩, ⟨by (with_reducible repeat (first | refine blk_drewN ?_ _ | refine blk_drew ?_ | refine blk_alloc ?_ _)); exact BK172.out⟩, ⟨by repeat (first | (with_reducible first | exact HB.out | apply below_alloc | apply pw_below_drewN | apply below_drew1 | refine below_set ?_ GE172.out) | exact HB.out)⟩⟩
                · replace c17 := Bool.eq_false_iff.mpr c17
                  subst c17
                  have H1 : (colophonref15_one.j0 k true a0_0 a0_1 a0_2 a0_3 a0_4 l0_5 a0_6 a0_7 a0_8 a0_9) = some r := by rw [if_neg (show ¬ (false = true) by decide)] at H; exact H
                  clear H
                  have H := H1
                  clear H1
                  have H' := Aside0.mk H
                  clear H
                  have hcz21_0 : w4.cell? ⟨gb172, 0, none⟩ = some (.int .i64 a0_0) := (blk_cell BK172.out 0).trans rfl
                  have hcz21_1 : w4.cell? ⟨gb172, 1, none⟩ = some (.int .i64 a0_1) := (blk_cell BK172.out 1).trans rfl
                  have hcz21_2 : w4.cell? ⟨gb172, 2, none⟩ = some (.int .i64 a0_2) := (blk_cell BK172.out 2).trans rfl
                  have hcz21_3 : w4.cell? ⟨gb172, 3, none⟩ = some (.int .i64 a0_3) := (blk_cell BK172.out 3).trans rfl
                  have hcz21_4 : w4.cell? ⟨gb172, 4, none⟩ = some (.int .i64 a0_4) := (blk_cell BK172.out 4).trans rfl
                  have hcz21_5 : w4.cell? ⟨gb172, 5, none⟩ = some (.slice A0_5 l0_5.length c0_5) := (blk_cell BK172.out 5).trans rfl
                  have hcz21_6 : w4.cell? ⟨gb172, 6, none⟩ = some (.int .i64 a0_6) := (blk_cell BK172.out 6).trans rfl
                  have hcz21_7 : w4.cell? ⟨gb172, 7, none⟩ = some (.int .i64 a0_7) := (blk_cell BK172.out 7).trans rfl
                  have hcz21_8 : w4.cell? ⟨gb172, 8, none⟩ = some (.int .i64 a0_8) := (blk_cell BK172.out 8).trans rfl
                  have hcz21_9 : w4.cell? ⟨gb172, 9, none⟩ = some (.int .i64 a0_9) := (blk_cell BK172.out 9).trans rfl
                  have hfz21_0 := blk_frozen BK172.out 0
                  have hfz21_1 := blk_frozen BK172.out 1
                  have hfz21_2 := blk_frozen BK172.out 2
                  have hfz21_3 := blk_frozen BK172.out 3
                  have hfz21_4 := blk_frozen BK172.out 4
                  have hfz21_5 := blk_frozen BK172.out 5
                  have hfz21_6 := blk_frozen BK172.out 6
                  have hfz21_7 := blk_frozen BK172.out 7
                  have hfz21_8 := blk_frozen BK172.out 8
                  have hfz21_9 := blk_frozen BK172.out 9
                  go_wp2_with (first | (go_at_call 47; (with_reducible refine (colophonref01_In.calls a0_2 true _ A12.out).mono ?_); rintro e w' ⟨rfl, ⟨nd, rfl⟩⟩) | (go_at_call 47; (with_reducible refine (colophonref01_In.calls a0_3 true _ A14.out).mono ?_); rintro e w' ⟨rfl, ⟨nd, rfl⟩⟩) | (go_at_call 47; (with_reducible refine (colophonref01_In.calls a0_4 false _ A16.out).mono ?_); rintro e w' ⟨rfl, ⟨nd, rfl⟩⟩))
                  go_meet
                  case rel => exact ⟨_, (true), (by first | rfl | (simp; done) | (simp [*]; done) | (simp [ne_nil_]; done)), H', ⟨by first | omega | exact Nat.le_refl _⟩, ⟨by (with_reducible repeat (first | refine blk_drewN ?_ _ | refine blk_drew ?_ | refine blk_alloc ?_ _)); exact BK172.out⟩, ⟨by repeat (first | (with_reducible first | exact HB.out | apply below_alloc | apply pw_below_drewN | apply below_drew1 | refine below_set ?_ GE172.out) | exact HB.out)⟩⟩
              · replace c15 := Bool.eq_false_iff.mpr c15
                subst c15
                have H1 : (colophonref15_one.j0 k true a0_0 a0_1 a0_2 a0_3 a0_4 l0_5 a0_6 a0_7 a0_8 a0_9) = some r := by rw [if_neg (show ¬ (false = true) by decide)] at H; exact H
                clear H
                have H := H1
                clear H1
                have H' := Aside0.mk H
                clear H
                have hcz22_0 : w4.cell? ⟨gb172, 0, none⟩ = some (.int .i64 a0_0) := (blk_cell BK172.out 0).trans rfl
                have hcz22_1 : w4.cell? ⟨gb172, 1, none⟩ = some (.int .i64 a0_1) := (blk_cell BK172.out 1).trans rfl
                have hcz22_2 : w4.cell? ⟨gb172, 2, none⟩ = some (.int .i64 a0_2) := (blk_cell BK172.out 2).trans rfl
                have hcz22_3 : w4.cell? ⟨gb172, 3, none⟩ = some (.int .i64 a0_3) := (blk_cell BK172.out 3).trans rfl
                have hcz22_4 : w4.cell? ⟨gb172, 4, none⟩ = some (.int .i64 a0_4) := (blk_cell BK172.out 4).trans rfl
                have hcz22_5 : w4.cell? ⟨gb172, 5, none⟩ = some (.slice A0_5 l0_5.length c0_5) := (blk_cell BK172.out 5).trans rfl
                have hcz22_6 : w4.cell? ⟨gb172, 6, none⟩ = some (.int .i64 a0_6) := (blk_cell BK172.out 6).trans rfl
                have hcz22_7 : w4.cell? ⟨gb172, 7, none⟩ = some (.int .i64 a0_7) := (blk_cell BK172.out 7).trans rfl
                have hcz22_8 : w4.cell? ⟨gb172, 8, none⟩ = some (.int .i64 a0_8) := (blk_cell BK172.out 8).trans rfl
                have hcz22_9 : w4.cell? ⟨gb172, 9, none⟩ = some (.int .i64 a0_9) := (blk_cell BK172.out 9).trans rfl
                have hfz22_0 := blk_frozen BK172.out 0
                have hfz22_1 := blk_frozen BK172.out 1
                have hfz22_2 := blk_frozen BK172.out 2
                have hfz22_3 := blk_frozen BK172.out 3
                have hfz22_4 := blk_frozen BK172.out 4
                have hfz22_5 := blk_frozen BK172.out 5
                have hfz22_6 := blk_frozen BK172.out 6
                have hfz22_7 := blk_frozen BK172.out 7
                have hfz22_8 := blk_frozen BK172.out 8
                have hfz22_9 := blk_frozen BK172.out 9
                go_wp2_with (first | (go_at_call 47; (with_reducible refine (colophonref01_In.calls a0_2 true _ A12.out).mono ?_); rintro e w' ⟨rfl, ⟨nd, rfl⟩⟩) | (go_at_call 47; (with_reducible refine (colophonref01_In.calls a0_3 false _ A14.out).mono ?_); rintro e w' ⟨rfl, ⟨nd, rfl⟩⟩))
                go_meet
                case rel => exact ⟨_, (true), (by first | rfl | (simp; done) | (simp [*]; done) | (simp [ne_nil_]; done)), H', ⟨by first | omega | exact Nat.le_refl _⟩, ⟨by (with_reducible repeat (first | refine blk_drewN ?_ _ | refine blk_drew ?_ | refine blk_alloc ?_ _)); exact BK172.out⟩, ⟨by repeat (first | (with_reducible first | exact HB.out | apply below_alloc | apply pw_below_drewN | apply below_drew1 | refine below_set ?_ GE172.out) | exact HB.out)⟩⟩
            · replace c13 := Bool.eq_false_iff.mpr c13
              subst c13
              have H1 : (colophonref15_one.j0 k true a0_0 a0_1 a0_2 a0_3 a0_4 l0_5 a0_6 a0_7 a0_8 a0_9) = some r := by rw [if_neg (show ¬ (false = true) by decide)] at H; exact H
              clear H
              have H := H1
              clear H1
              have H' := Aside0.mk H
              clear H
              have hcz23_0 : w4.cell? ⟨gb172, 0, none⟩ = some (.int .i64 a0_0) := (blk_cell BK172.out 0).trans rfl
              have hcz23_1 : w4.cell? ⟨gb172, 1, none⟩ = some (.int .i64 a0_1) := (blk_cell BK172.out 1).trans rfl
              have hcz23_2 : w4.cell? ⟨gb172, 2, none⟩ = some (.int .i64 a0_2) := (blk_cell BK172.out 2).trans rfl
              have hcz23_3 : w4.cell? ⟨gb172, 3, none⟩ = some (.int .i64 a0_3) := (blk_cell BK172.out 3).trans rfl
              have hcz23_4 : w4.cell? ⟨gb172, 4, none⟩ = some (.int .i64 a0_4) := (blk_cell BK172.out 4).trans rfl
              have hcz23_5 : w4.cell? ⟨gb172, 5, none⟩ = some (.slice A0_5 l0_5.length c0_5) := (blk_cell BK172.out 5).trans rfl
              have hcz23_6 : w4.cell? ⟨gb172, 6, none⟩ = some (.int .i64 a0_6) := (blk_cell BK172.out 6).trans rfl
              have hcz23_7 : w4.cell? ⟨gb172, 7, none⟩ = some (.int .i64 a0_7) := (blk_cell BK172.out 7).trans rfl
              have hcz23_8 : w4.cell? ⟨gb172, 8, none⟩ = some (.int .i64 a0_8) := (blk_cell BK172.out 8).trans rfl
              have hcz23_9 : w4.cell? ⟨gb172, 9, none⟩ = some (.int .i64 a0_9) := (blk_cell BK172.out 9).trans rfl
              have hfz23_0 := blk_frozen BK172.out 0
              have hfz23_1 := blk_frozen BK172.out 1
              have hfz23_2 := blk_frozen BK172.out 2
              have hfz23_3 := blk_frozen BK172.out 3
              have hfz23_4 := blk_frozen BK172.out 4
              have hfz23_5 := blk_frozen BK172.out 5
              have hfz23_6 := blk_frozen BK172.out 6
              have hfz23_7 := blk_frozen BK172.out 7
              have hfz23_8 := blk_frozen BK172.out 8
              have hfz23_9 := blk_frozen BK172.out 9
              go_wp2_with (first | (go_at_call 47; (with_reducible refine (colophonref01_In.calls a0_2 false _ A12.out).mono ?_); rintro e w' ⟨rfl, ⟨nd, rfl⟩⟩))
              go_meet
              case rel => exact ⟨_, (true), (by first | rfl | (simp; done) | (simp [*]; done) | (simp [ne_nil_]; done)), H', ⟨by first | omega | exact Nat.le_refl _⟩, ⟨by (with_reducible repeat (first | refine blk_drewN ?_ _ | refine blk_drew ?_ | refine blk_alloc ?_ _)); exact BK172.out⟩, ⟨by repeat (first | (with_reducible first | exact HB.out | apply below_alloc | apply pw_below_drewN | apply below_drew1 | refine below_set ?_ GE172.out) | exact HB.out)⟩⟩
    case rest =>
      clear HC3
      try clear c1
      try clear c2
      try clear c2b0
      try clear c2b1
      try clear p2
      try clear c4
      try clear c6
      try clear c6b0
      try clear c8
      try clear c8b0
      try clear c10
      try clear c10b0
      try clear c13
      try clear c15
      try clear c17
      try clear c18
      try clear c18b0
      try clear c18b1
      try clear c18b2
      try clear hcz11_0
      try clear hcz11_1
      try clear hcz11_2
      try clear hcz11_3
      try clear hcz11_4
      try clear hcz11_5
      try clear hcz11_6
      try clear hcz11_7
      try clear hcz11_8
      try clear hcz11_9
      try clear hcz19_0
      try clear hcz19_1
      try clear hcz19_2
      try clear hcz19_3
      try clear hcz19_4
      try clear hcz19_5
      try clear hcz19_6
      try clear hcz19_7
      try clear hcz19_8
      try clear hcz19_9
      try clear hcz20_0
      try clear hcz20_1
      try clear hcz20_2
      try clear hcz20_3
      try clear hcz20_4
      try clear hcz20_5
      try clear hcz20_6
      try clear hcz20_7
      try clear hcz20_8
      try clear hcz20_9
      try clear hcz21_0
      try clear hcz21_1
      try clear hcz21_2
      try clear hcz21_3
      try clear hcz21_4
      try clear hcz21_5
      try clear hcz21_6
      try clear hcz21_7
      try clear hcz21_8
      try clear hcz21_9
      try clear hcz22_0
      try clear hcz22_1
      try clear hcz22_2
      try clear hcz22_3
      try clear hcz22_4
      try clear hcz22_5
      try clear hcz22_6
      try clear hcz22_7
      try clear hcz22_8
      try clear hcz22_9
      try clear hcz23_0
      try clear hcz23_1
      try clear hcz23_2
      try clear hcz23_3
      try clear hcz23_4
      try clear hcz23_5
      try clear hcz23_6
      try clear hcz23_7
      try clear hcz23_8
      try clear hcz23_9
      try clear hcz5_0
      try clear hcz5_1
      try clear hcz5_2
      try clear hcz5_3
      try clear hcz5_4
      try clear hcz5_5
      try clear hcz5_6
      try clear hcz5_7
      try clear hcz5_8
      try clear hcz5_9
      try clear hcz7_0
      try clear hcz7_1
      try clear hcz7_2
      try clear hcz7_3
      try clear hcz7_4
      try clear hcz7_5
      try clear hcz7_6
      try clear hcz7_7
      try clear hcz7_8
      try clear hcz7_9
      try clear hcz9_0
      try clear hcz9_1
      try clear hcz9_2
      try clear hcz9_3
      try clear hcz9_4
      try clear hcz9_5
      try clear hcz9_6
      try clear hcz9_7
      try clear hcz9_8
      try clear hcz9_9
      try clear hfz11_0
      try clear hfz11_1
      try clear hfz11_2
      try clear hfz11_3
      try clear hfz11_4
      try clear hfz11_5
      try clear hfz11_6
      try clear hfz11_7
      try clear hfz11_8
      try clear hfz11_9
      try clear hfz19_0
      try clear hfz19_1
      try clear hfz19_2
      try clear hfz19_3
      try clear hfz19_4
      try clear hfz19_5
      try clear hfz19_6
      try clear hfz19_7
      try clear hfz19_8
      try clear hfz19_9
      try clear hfz20_0
      try clear hfz20_1
      try clear hfz20_2
      try clear hfz20_3
      try clear hfz20_4
      try clear hfz20_5
      try clear hfz20_6
      try clear hfz20_7
      try clear hfz20_8
      try clear hfz20_9
      try clear hfz21_0
      try clear hfz21_1
      try clear hfz21_2
      try clear hfz21_3
      try clear hfz21_4
      try clear hfz21_5
      try clear hfz21_6
      try clear hfz21_7
      try clear hfz21_8
      try clear hfz21_9
      try clear hfz22_0
      try clear hfz22_1
      try clear hfz22_2
      try clear hfz22_3
      try clear hfz22_4
      try clear hfz22_5
      try clear hfz22_6
      try clear hfz22_7
      try clear hfz22_8
      try clear hfz22_9
      try clear hfz23_0
      try clear hfz23_1
      try clear hfz23_2
      try clear hfz23_3
      try clear hfz23_4
      try clear hfz23_5
      try clear hfz23_6
      try clear hfz23_7
      try clear hfz23_8
      try clear hfz23_9
      try clear hfz5_0
      try clear hfz5_1
      try clear hfz5_2
      try clear hfz5_3
      try clear hfz5_4
      try clear hfz5_5
      try clear hfz5_6
      try clear hfz5_7
      try clear hfz5_8
      try clear hfz5_9
      try clear hfz7_0
      try clear hfz7_1
      try clear hfz7_2
      try clear hfz7_3
      try clear hfz7_4
      try clear hfz7_5
      try clear hfz7_6
      try clear hfz7_7
      try clear hfz7_8
      try clear hfz7_9
      try clear hfz9_0
      try clear hfz9_1
      try clear hfz9_2
      try clear hfz9_3
      try clear hfz9_4
      try clear hfz9_5
      try clear hfz9_6
      try clear hfz9_7
      try clear hfz9_8
      try clear hfz9_9
      obtain ⟨kq, x50_2, rfl, HA, HJ2, BK172, HB⟩ := hcut
      cases kq with
      | zero => exact absurd HA.out (by simp [colophonref15_one.j0])
      | succ kj2 =>
        have H := HA.out
        clear HA
        simp only [colophonref15_one.j0] at H
        by_cases c24 : x50_2 = true
        · subst c24
          have H1 : (some false) = some r := by rw [if_pos rfl] at H; exact H
          clear H
          have H := H1
          clear H1
          obtain rfl := Option.some.inj H
          go_wp2
          go_ret
          exact ⟨by first | rfl | (simp [errW_none, errW_some] <;> rfl) | (simp [*, errW_none, errW_some] <;> rfl), by repeat (first | (with_reducible first | exact HB.out | apply below_alloc | apply pw_below_drewN | apply below_drew1 | refine below_set ?_ GE172.out) | exact HB.out)⟩
        · replace c24 := Bool.eq_false_iff.mpr c24
          subst c24
          have H1 : (colophonref15_one.l0 kj2 0 a0_0 a0_1 a0_2 a0_3 a0_4 l0_5 a0_6 a0_7 a0_8 a0_9) = some r := by rw [if_neg (show ¬ (false = true) by decide)] at H; exact H
          clear H
          have H := H1
          clear H1
          have H' := Aside0.mk H
          clear H
          go_wp2
          go_loopg [3] kj2 (fun kq v3 w' => ∃ (x3_2 : Int), v3 = .int .i64 x3_2 ∧ Aside0 (colophonref15_one.l0 kq x3_2 a0_0 a0_1 a0_2 a0_3 a0_4 l0_5 a0_6 a0_7 a0_8 a0_9 = some r) ∧ Aside0 (kq ≤ kj2) ∧ Aside0 (w'.heap[gb172]? = some (.cells #[.int .i64 a0_0, .int .i64 a0_1, .int .i64 a0_2, .int .i64 a0_3, .int .i64 a0_4, (.slice A0_5 l0_5.length c0_5), .int .i64 a0_6, .int .i64 a0_7, .int .i64 a0_8, .int .i64 a0_9] 50 (0, 0))) ∧ Aside0 (Below w.heap.size w w'))
          case atStart => exact ⟨(0), (by first | rfl | (simp; done) | (simp [*]; done) | (simp [ne_nil_]; done)), H', ⟨Nat.le_refl _⟩, ⟨by (with_reducible repeat (first | refine blk_drewN ?_ _ | refine blk_drew ?_ | refine blk_alloc ?_ _)); exact BK172.out⟩, ⟨by repeat (first | (with_reducible first | exact HB.out | apply below_alloc | apply pw_below_drewN | apply below_drew1 | refine below_set ?_ GE172.out) | exact HB.out)⟩⟩
          case round =>
            clear H'
            try clear c1
            try clear c2
            try clear c2b0
            try clear c2b1
            try clear p2
            try clear c4
            try clear c6
            try clear c6b0
            try clear c8
            try clear c8b0
            try clear c10
            try clear c10b0
            try clear c13
            try clear c15
            try clear c17
            try clear c18
            try clear c18b0
            try clear c18b1
            try clear c18b2
            try clear c24
            try clear hcz11_0
            try clear hcz11_1
            try clear hcz11_2
            try clear hcz11_3
            try clear hcz11_4
            try clear hcz11_5
            try clear hcz11_6
            try clear hcz11_7
            try clear hcz11_8
            try clear hcz11_9
            try clear hcz19_0
            try clear hcz19_1
            try clear hcz19_2
            try clear hcz19_3
            try clear hcz19_4
            try clear hcz19_5
            try clear hcz19_6
            try clear hcz19_7
            try clear hcz19_8
            try clear hcz19_9
            try clear hcz20_0
            try clear hcz20_1
            try clear hcz20_2
            try clear hcz20_3
            try clear hcz20_4
            try clear hcz20_5
            try clear hcz20_6
            try clear hcz20_7
            try clear hcz20_8
            try clear hcz20_9
            try clear hcz21_0
            try clear hcz21_1
            try clear hcz21_2
            try clear hcz21_3
            try clear hcz21_4
            try clear hcz21_5
            try clear hcz21_6
            try clear hcz21_7
            try clear hcz21_8
            try clear hcz21_9
            try clear hcz22_0
            try clear hcz22_1
            try clear hcz22_2
            try clear hcz22_3
            try clear hcz22_4
            try clear hcz22_5
            try clear hcz22_6
            try clear hcz22_7
            try clear hcz22_8
            try clear hcz22_9
            try clear hcz23_0
            try clear hcz23_1
            try clear hcz23_2
            try clear hcz23_3
            try clear hcz23_4
            try clear hcz23_5
            try clear hcz23_6
            try clear hcz23_7
            try clear hcz23_8
            try clear hcz23_9
            try clear hcz5_0
            try clear hcz5_1
            try clear hcz5_2
            try clear hcz5_3
            try clear hcz5_4
            try clear hcz5_5
            try clear hcz5_6
            try clear hcz5_7
            try clear hcz5_8
            try clear hcz5_9
            try clear hcz7_0
            try clear hcz7_1
            try clear hcz7_2
            try clear hcz7_3
            try clear hcz7_4
            try clear hcz7_5
            try clear hcz7_6
            try clear hcz7_7
            try clear hcz7_8
            try clear hcz7_9
            try clear hcz9_0
            try clear hcz9_1
            try clear hcz9_2
            try clear hcz9_3
            try clear hcz9_4
            try clear hcz9_5
            try clear hcz9_6
            try clear hcz9_7
            try clear hcz9_8
            try clear hcz9_9
            try clear hfz11_0
            try clear hfz11_1
            try clear hfz11_2
            try clear hfz11_3
            try clear hfz11_4
            try clear hfz11_5
            try clear hfz11_6
            try clear hfz11_7
            try clear hfz11_8
            try clear hfz11_9
            try clear hfz19_0
            try clear hfz19_1
            try clear hfz19_2
            try clear hfz19_3
            try clear hfz19_4
            try clear hfz19_5
            try clear hfz19_6
            try clear hfz19_7
            try clear hfz19_8
            try clear hfz19_9
            try clear hfz20_0
            try clear hfz20_1
            try clear hfz20_2
            try clear hfz20_3
            try clear hfz20_4
            try clear hfz20_5
            try clear hfz20_6
            try clear hfz20_7
            try clear hfz20_8
            try clear hfz20_9
            try clear hfz21_0
            try clear hfz21_1
            try clear hfz21_2
            try clear hfz21_3
            try clear hfz21_4
            try clear hfz21_5
            try clear hfz21_6
            try clear hfz21_7
            try clear hfz21_8
            try clear hfz21_9
            try clear hfz22_0
            try clear hfz22_1
            try clear hfz22_2
            try clear hfz22_3
            try clear hfz22_4
            try clear hfz22_5
            try clear hfz22_6
            try clear hfz22_7
            try clear hfz22_8
            try clear hfz22_9
            try clear hfz23_0
            try clear hfz23_1
            try clear hfz23_2
            try clear hfz23_3
            try clear hfz23_4
            try clear hfz23_5
            try clear hfz23_6
            try clear hfz23_7
            try clear hfz23_8
            try clear hfz23_9
            try clear hfz5_0
            try clear hfz5_1
            try clear hfz5_2
            try clear hfz5_3
            try clear hfz5_4
            try clear hfz5_5
            try clear hfz5_6
            try clear hfz5_7
            try clear hfz5_8
            try clear hfz5_9
            try clear hfz7_0
            try clear hfz7_1
            try clear hfz7_2
            try clear hfz7_3
            try clear hfz7_4
            try clear hfz7_5
            try clear hfz7_6
            try clear hfz7_7
            try clear hfz7_8
            try clear hfz7_9
            try clear hfz9_0
            try clear hfz9_1
            try clear hfz9_2
            try clear hfz9_3
            try clear hfz9_4
            try clear hfz9_5
            try clear hfz9_6
            try clear hfz9_7
            try clear hfz9_8
            try clear hfz9_9
            try clear p2
            obtain ⟨x3_2, rfl, HA, HK2, BK172, HB⟩ := hrel
            cases gk with
            | zero => exact absurd HA.out (by simp [colophonref15_one.l0])
            | succ k2 =>
              have H := HA.out
              clear HA
              simp only [colophonref15_one.l0] at H
              by_cases c25 : x3_2 < (l0_5.length : Int)
              · rw [if_pos c25] at H
                have c25b0 : decide (x3_2 < (l0_5.length : Int)) = true := decide_eq_true c25
                clear c25
                by_cases c26 : 0 ≤ x3_2
                · rw [if_pos c26] at H
                  have c26b0 : decide (0 ≤ x3_2) = true := decide_eq_true c26
                  clear c26
                  by_cases c27 : (rd l0_5 x3_2) < 0
                  · rw [if_pos c27] at H
                    have c27b0 : decide ((rd l0_5 x3_2) < 0) = true := decide_eq_true c27
                    clear c27
                    obtain rfl := Option.some.inj H
                    have hcz28_0 : wr.cell? ⟨gb172, 0, none⟩ = some (.int .i64 a0_0) := (blk_cell BK172.out 0).trans rfl
                    have hcz28_1 : wr.cell? ⟨gb172, 1, none⟩ = some (.int .i64 a0_1) := (blk_cell BK172.out 1).trans rfl
                    have hcz28_2 : wr.cell? ⟨gb172, 2, none⟩ = some (.int .i64 a0_2) := (blk_cell BK172.out 2).trans rfl
                    have hcz28_3 : wr.cell? ⟨gb172, 3, none⟩ = some (.int .i64 a0_3) := (blk_cell BK172.out 3).trans rfl
                    have hcz28_4 : wr.cell? ⟨gb172, 4, none⟩ = some (.int .i64 a0_4) := (blk_cell BK172.out 4).trans rfl
                    have hcz28_5 : wr.cell? ⟨gb172, 5, none⟩ = some (.slice A0_5 l0_5.length c0_5) := (blk_cell BK172.out 5).trans rfl
                    have hcz28_6 : wr.cell? ⟨gb172, 6, none⟩ = some (.int .i64 a0_6) := (blk_cell BK172.out 6).trans rfl
                    have hcz28_7 : wr.cell? ⟨gb172, 7, none⟩ = some (.int .i64 a0_7) := (blk_cell BK172.out 7).trans rfl
                    have hcz28_8 : wr.cell? ⟨gb172, 8, none⟩ = some (.int .i64 a0_8) := (blk_cell BK172.out 8).trans rfl
                    have hcz28_9 : wr.cell? ⟨gb172, 9, none⟩ = some (.int .i64 a0_9) := (blk_cell BK172.out 9).trans rfl
                    have hfz28_0 := blk_frozen BK172.out 0
                    have hfz28_1 := blk_frozen BK172.out 1
                    have hfz28_2 := blk_frozen BK172.out 2
                    have hfz28_3 := blk_frozen BK172.out 3
                    have hfz28_4 := blk_frozen BK172.out 4
                    have hfz28_5 := blk_frozen BK172.out 5
                    have hfz28_6 := blk_frozen BK172.out 6
                    have hfz28_7 := blk_frozen BK172.out 7
                    have hfz28_8 := blk_frozen BK172.out 8
                    have hfz28_9 := blk_frozen BK172.out 9
                    have p176 : 0 ≤ (x3_2 : Int) := of_decide_eq_true (by first | (with_reducible assumption) | assumption)
                    have q176 : x3_2 < (l0_5.length : Int) := of_decide_eq_true (by first | (with_reducible assumption) | assumption)
                    obtain ⟨ad176, e176, hx176_0⟩ := Kd.at_int HR0_5.out x3_2 p176 q176
                    cases e176
                    replace hx176_0 := (HB.out.cell (World.block_lt_of_cell? w _ hx176_0)).trans hx176_0
                    replace p176 := eq_true p176
                    replace q176 := eq_true q176
                    go_wp2
                    go_ret
                    exact ⟨by first | rfl | (simp [errW_none, errW_some] <;> rfl) | (simp [*, errW_none, errW_some] <;> rfl), by repeat (first | (with_reducible first | exact HB.out | apply below_alloc | apply pw_below_drewN | apply below_drew1 | refine below_set ?_ GE172.out) | exact HB.out)⟩
                  · rw [if_neg c27] at H
                    have c27b0 : decide ((rd l0_5 x3_2) < 0) = false := decide_eq_false c27
                    clear c27
                    by_cases c29 : (rd l0_5 x3_2) > 65535
                    · rw [if_pos c29] at H
                      have c29b0 : decide (65535 < (rd l0_5 x3_2)) = true := decide_eq_true c29
                      clear c29
                      obtain rfl := Option.some.inj H
                      have hcz30_0 : wr.cell? ⟨gb172, 0, none⟩ = some (.int .i64 a0_0) := (blk_cell BK172.out 0).trans rfl
                      have hcz30_1 : wr.cell? ⟨gb172, 1, none⟩ = some (.int .i64 a0_1) := (blk_cell BK172.out 1).trans rfl
                      have hcz30_2 : wr.cell? ⟨gb172, 2, none⟩ = some (.int .i64 a0_2) := (blk_cell BK172.out 2).trans rfl
                      have hcz30_3 : wr.cell? ⟨gb172, 3, none⟩ = some (.int .i64 a0_3) := (blk_cell BK172.out 3).trans rfl
                      have hcz30_4 : wr.cell? ⟨gb172, 4, none⟩ = some (.int .i64 a0_4) := (blk_cell BK172.out 4).trans rfl
                      have hcz30_5 : wr.cell? ⟨gb172, 5, none⟩ = some (.slice A0_5 l0_5.length c0_5) := (blk_cell BK172.out 5).trans rfl
                      have hcz30_6 : wr.cell? ⟨gb172, 6, none⟩ = some (.int .i64 a0_6) := (blk_cell BK172.out 6).trans rfl
                      have hcz30_7 : wr.cell? ⟨gb172, 7, none⟩ = some (.int .i64 a0_7) := (blk_cell BK172.out 7).trans rfl
                      have hcz30_8 : wr.cell? ⟨gb172, 8, none⟩ = some (.int .i64 a0_8) := (blk_cell BK172.out 8).trans rfl
                      have hcz30_9 : wr.cell? ⟨gb172, 9, none⟩ = some (.int .i64 a0_9) := (blk_cell BK172.out 9).trans rfl
                      have hfz30_0 := blk_frozen BK172.out 0
                      have hfz30_1 := blk_frozen BK172.out 1
                      have hfz30_2 := blk_frozen BK172.out 2
                      have hfz30_3 := blk_frozen BK172.out 3
                      have hfz30_4 := blk_frozen BK172.out 4
                      have hfz30_5 := blk_frozen BK172.out 5
                      have hfz30_6 := blk_frozen BK172.out 6
                      have hfz30_7 := blk_frozen BK172.out 7
                      have hfz30_8 := blk_frozen BK172.out 8
                      have hfz30_9 := blk_frozen BK172.out 9
                      have p176 : 0 ≤ (x3_2 : Int) := of_decide_eq_true (by first | (with_reducible assumption) | assumption)
                      have q176 : x3_2 < (l0_5.length : Int) := of_decide_eq_true (by first | (with_reducible assumption) | assumption)
                      obtain ⟨ad176, e176, hx176_0⟩ := Kd.at_int HR0_5.out x3_2 p176 q176
                      cases e176
                      replace hx176_0 := (HB.out.cell (World.block_lt_of_cell? w _ hx176_0)).trans hx176_0
                      replace p176 := eq_true p176
                      replace q176 := eq_true q176
                      have p177 : 0 ≤ (x3_2 : Int) := of_decide_eq_true (by first | (with_reducible assumption) | assumption)
                      have q177 : x3_2 < (l0_5.length : Int) := of_decide_eq_true (by first | (with_reducible assumption) | assumption)
                      obtain ⟨ad177, e177, hx177_0⟩ := Kd.at_int HR0_5.out x3_2 p177 q177
                      obtain rfl : ad176 = ad177 := (by injection e177)
                      replace hx177_0 := (HB.out.cell (World.block_lt_of_cell? w _ hx177_0)).trans hx177_0
                      replace p177 := eq_true p177
                      replace q177 := eq_true q177
                      go_wp2
                      go_ret
                      exact ⟨by first | rfl | (simp [errW_none, errW_some] <;> rfl) | (simp [*, errW_none, errW_some] <;> rfl), by repeat (first | (with_reducible first | exact HB.out | apply below_alloc | apply pw_below_drewN | apply below_drew1 | refine below_set ?_ GE172.out) | exact HB.out)⟩
                    · rw [if_neg c29] at H
                      have c29b0 : decide (65535 < (rd l0_5 x3_2)) = false := decide_eq_false c29
                      clear c29
                      have H' := Aside0.mk H
                      clear H
                      have hcz31_0 : wr.cell? ⟨gb172, 0, none⟩ = some (.int .i64 a0_0) := (blk_cell BK172.out 0).trans rfl
                      have hcz31_1 : wr.cell? ⟨gb172, 1, none⟩ = some (.int .i64 a0_1) := (blk_cell BK172.out 1).trans rfl
                      have hcz31_2 : wr.cell? ⟨gb172, 2, none⟩ = some (.int .i64 a0_2) := (blk_cell BK172.out 2).trans rfl
                      have hcz31_3 : wr.cell? ⟨gb172, 3, none⟩ = some (.int .i64 a0_3) := (blk_cell BK172.out 3).trans rfl
                      have hcz31_4 : wr.cell? ⟨gb172, 4, none⟩ = some (.int .i64 a0_4) := (blk_cell BK172.out 4).trans rfl
                      have hcz31_5 : wr.cell? ⟨gb172, 5, none⟩ = some (.slice A0_5 l0_5.length c0_5) := (blk_cell BK172.out 5).trans rfl
                      have hcz31_6 : wr.cell? ⟨gb172, 6, none⟩ = some (.int .i64 a0_6) := (blk_cell BK172.out 6).trans rfl
                      have hcz31_7 : wr.cell? ⟨gb172, 7, none⟩ = some (.int .i64 a0_7) := (blk_cell BK172.out 7).trans rfl
                      have hcz31_8 : wr.cell? ⟨gb172, 8, none⟩ = some (.int .i64 a0_8) := (blk_cell BK172.out 8).trans rfl
                      have hcz31_9 : wr.cell? ⟨gb172, 9, none⟩ = some (.int .i64 a0_9) := (blk_cell BK172.out 9).trans rfl
                      have hfz31_0 := blk_frozen BK172.out 0
                      have hfz31_1 := blk_frozen BK172.out 1
                      have hfz31_2 := blk_frozen BK172.out 2
                      have hfz31_3 := blk_frozen BK172.out 3
                      have hfz31_4 := blk_frozen BK172.out 4
                      have hfz31_5 := blk_frozen BK172.out 5
                      have hfz31_6 := blk_frozen BK172.out 6
                      have hfz31_7 := blk_frozen BK172.out 7
                      have hfz31_8 := blk_frozen BK172.out 8
                      have hfz31_9 := blk_frozen BK172.out 9
                      have p176 : 0 ≤ (x3_2 : Int) := of_decide_eq_true (by first | (with_reducible assumption) | assumption)
                      have q176 : x3_2 < (l0_5.length : Int) := of_decide_eq_true (by first | (with_reducible assumption) | assumption)
                      obtain ⟨ad176, e176, hx176_0⟩ := Kd.at_int HR0_5.out x3_2 p176 q176
                      cases e176
                      replace hx176_0 := (HB.out.cell (World.block_lt_of_cell? w _ hx176_0)).trans hx176_0
                      replace p176 := eq_true p176
                      replace q176 := eq_true q176
                      have p177 : 0 ≤ (x3_2 : Int) := of_decide_eq_true (by first | (with_reducible assumption) | assumption)
                      have q177 : x3_2 < (l0_5.length : Int) := of_decide_eq_true (by first | (with_reducible assumption) | assumption)
                      obtain ⟨ad177, e177, hx177_0⟩ := Kd.at_int HR0_5.out x3_2 p177 q177
                      obtain rfl : ad176 = ad177 := (by injection e177)
                      replace hx177_0 := (HB.out.cell (World.block_lt_of_cell? w _ hx177_0)).trans hx177_0
                      replace p177 := eq_true p177
                      replace q177 := eq_true q177
                      go_wp2
                      go_roundg k2
                      case measure => have := HJ2.out; have := HK2.out; omega
                      case rel => exact ⟨(wrap64 (x3_2 + 1)), (by first | rfl | (simp; done) | (simp [*]; done) | (simp [ne_nil_]; done)), H', ⟨by have := HJ2.out; have := HK2.out; omega⟩, ⟨by (with_reducible repeat (first | refine blk_drewN ?_ _ | refine blk_drew ?_ | refine blk_alloc ?_ _)); exact BK172.out⟩, ⟨by repeat (first | (with_reducible first | exact HB.out | apply below_alloc | apply pw_below_drewN | apply below_drew1 | refine below_set ?_ GE172.out) | exact HB.out)⟩⟩
                · rw [if_neg c26] at H
                  exact absurd H (by simp)
              · rw [if_neg c25] at H
                have c25b0 : decide (x3_2 < (l0_5.length : Int)) = false := decide_eq_false c25
                clear c25
                obtain rfl := Option.some.inj H
                have hcz32_0 : wr.cell? ⟨gb172, 0, none⟩ = some (.int .i64 a0_0) := (blk_cell BK172.out 0).trans rfl
                have hcz32_1 : wr.cell? ⟨gb172, 1, none⟩ = some (.int .i64 a0_1) := (blk_cell BK172.out 1).trans rfl
                have hcz32_2 : wr.cell? ⟨gb172, 2, none⟩ = some (.int .i64 a0_2) := (blk_cell BK172.out 2).trans rfl
                have hcz32_3 : wr.cell? ⟨gb172, 3, none⟩ = some (.int .i64 a0_3) := (blk_cell BK172.out 3).trans rfl
                have hcz32_4 : wr.cell? ⟨gb172, 4, none⟩ = some (.int .i64 a0_4) := (blk_cell BK172.out 4).trans rfl
                have hcz32_5 : wr.cell? ⟨gb172, 5, none⟩ = some (.slice A0_5 l0_5.length c0_5) := (blk_cell BK172.out 5).trans rfl
                have hcz32_6 : wr.cell? ⟨gb172, 6, none⟩ = some (.int .i64 a0_6) := (blk_cell BK172.out 6).trans rfl
                have hcz32_7 : wr.cell? ⟨gb172, 7, none⟩ = some (.int .i64 a0_7) := (blk_cell BK172.out 7).trans rfl
                have hcz32_8 : wr.cell? ⟨gb172, 8, none⟩ = some (.int .i64 a0_8) := (blk_cell BK172.out 8).trans rfl
                have hcz32_9 : wr.cell? ⟨gb172, 9, none⟩ = some (.int .i64 a0_9) := (blk_cell BK172.out 9).trans rfl
                have hfz32_0 := blk_frozen BK172.out 0
                have hfz32_1 := blk_frozen BK172.out 1
                have hfz32_2 := blk_frozen BK172.out 2
                have hfz32_3 := blk_frozen BK172.out 3
                have hfz32_4 := blk_frozen BK172.out 4
                have hfz32_5 := blk_frozen BK172.out 5
                have hfz32_6 := blk_frozen BK172.out 6
                have hfz32_7 := blk_frozen BK172.out 7
                have hfz32_8 := blk_frozen BK172.out 8
                have hfz32_9 := blk_frozen BK172.out 9
                go_wp2
                go_ret
                exact ⟨by first | rfl | (simp [errW_none, errW_some] <;> rfl) | (simp [*, errW_none, errW_some] <;> rfl), by repeat (first | (with_reducible first | exact HB.out | apply below_alloc | apply pw_below_drewN | apply below_drew1 | refine below_set ?_ GE172.out) | exact HB.out)⟩
  · rw [if_neg c2] at H
    have c2b0 : (a0_0 == 1) = false := beq_eq_false_iff_ne.mpr c2
    have c2b1 : (a0_0 != 1) = true := bne_iff_ne.mpr c2
    have HC33 := Aside0.mk H
    clear H
    go_enter Tryd.func40, Tryd.ntmps40
    go_upto_if 72 with (first | ((with_reducible refine gate_dst (N := 1) rfl ?_); (try (refine gate_guard (by rfl) ?_; dsimp only)); refine box_event ?hg (N := 1) ?hd (cs := #[.int .i64 a0_0, .int .i64 a0_1, .int .i64 a0_2, .int .i64 a0_3, .int .i64 a0_4, .slice A0_5 l0_5.length c0_5, .int .i64 a0_6, .int .i64 a0_7, .int .i64 a0_8, .int .i64 a0_9]) (t := 50) ?hr ?_; (case hd => rfl); (case hg => rfl); (case hr => first | (go_simp; done) | (go_simp; rfl)); intro gb172 hg w34 hbox hb; have n0_ := Aside0.mk (below_step (by repeat (first | (with_reducible first | exact HB.out | apply below_alloc | apply pw_below_drewN | apply below_drew1) | exact HB.out)) hb); have n1_ := Aside0.mk (hbox); have n2_ := Aside0.mk ((by rw [hg]; exact (below_size (by repeat (first | (with_reducible first | exact HB.out | apply below_alloc | apply pw_below_drewN | apply below_drew1) | exact HB.out))) : w.heap.size ≤ gb172)); have n3_ := Aside0.mk ((by rw [hg]; exact (below_size (by repeat (first | (with_reducible first | exact HB.out | apply below_alloc | apply pw_below_drewN | apply below_drew1) | exact HB.out))) : w.heap.size ≤ gb172)); clear HB; have HB := n0_; have BK172 := n1_; have GW172 := n2_; have GE172 := n3_; clear n0_ n1_ n2_ n3_; clear hb hbox hg; have hcz35_0 : w34.cell? ⟨gb172, 0, none⟩ = some (.int .i64 a0_0) := (blk_cell BK172.out 0).trans rfl; have hcz35_1 : w34.cell? ⟨gb172, 1, none⟩ = some (.int .i64 a0_1) := (blk_cell BK172.out 1).trans rfl; have hcz35_2 : w34.cell? ⟨gb172, 2, none⟩ = some (.int .i64 a0_2) := (blk_cell BK172.out 2).trans rfl; have hcz35_3 : w34.cell? ⟨gb172, 3, none⟩ = some (.int .i64 a0_3) := (blk_cell BK172.out 3).trans rfl; have hcz35_4 : w34.cell? ⟨gb172, 4, none⟩ = some (.int .i64 a0_4) := (blk_cell BK172.out 4).trans rfl; have hcz35_5 : w34.cell? ⟨gb172, 5, none⟩ = some (.slice A0_5 l0_5.length c0_5) := (blk_cell BK172.out 5).trans rfl; have hcz35_6 : w34.cell? ⟨gb172, 6, none⟩ = some (.int .i64 a0_6) := (blk_cell BK172.out 6).trans rfl; have hcz35_7 : w34.cell? ⟨gb172, 7, none⟩ = some (.int .i64 a0_7) := (blk_cell BK172.out 7).trans rfl; have hcz35_8 : w34.cell? ⟨gb172, 8, none⟩ = some (.int .i64 a0_8) := (blk_cell BK172.out 8).trans rfl; have hcz35_9 : w34.cell? ⟨gb172, 9, none⟩ = some (.int .i64 a0_9) := (blk_cell BK172.out 9).trans rfl; have hfz35_0 := blk_frozen BK172.out 0; have hfz35_1 := blk_frozen BK172.out 1; have hfz35_2 := blk_frozen BK172.out 2; have hfz35_3 := blk_frozen BK172.out 3; have hfz35_4 := blk_frozen BK172.out 4; have hfz35_5 := blk_frozen BK172.out 5; have hfz35_6 := blk_frozen BK172.out 6; have hfz35_7 := blk_frozen BK172.out 7; have hfz35_8 := blk_frozen BK172.out 8; have hfz35_9 := blk_frozen BK172.out 9))
    (try simp only [Act.put, List.setIfInBounds_toArray, List.set_cons_zero, List.set_cons_succ])
    go_cut [72] (fun v72 wc => ∃ (kq : Nat) (x72_32 : Bool), v72 = .bool x72_32 ∧ Aside0 (colophonref15_one.j2 kq x72_32 a0_0 a0_1 a0_2 a0_3 a0_4 l0_5 a0_6 a0_7 a0_8 a0_9 = some r) ∧ Aside0 (kq ≤ k) ∧ Aside0 (wc.heap[gb172]? = some (.cells #[.int .i64 a0_0, .int .i64 a0_1, .int .i64 a0_2, .int .i64 a0_3, .int .i64 a0_4, (.slice A0_5 l0_5.length c0_5), .int .i64 a0_6, .int .i64 a0_7, .int .i64 a0_8, .int .i64 a0_9] 50 (0, 0))) ∧ Aside0 (Below w.heap.size w wc))
    case first =>
      have H := HC33.out
      clear HC33
      by_cases c36 : a0_0 = 2
      · rw [if_pos c36] at H
        have c36b0 : (a0_0 == 2) = true := beq_iff_eq.mpr c36
        have c36b1 : (a0_0 != 2) = false := bne_eq_false_iff_eq.mpr c36
        clear c36
        (first | rw [c36b0] | (simp only [i64_w, i32_w]; rw [c36b0]) | skip)
        have H' := Aside0.mk H
        clear H
        go_wp2
        go_meet
        case rel => exact ⟨_, ((a0_0 == 2)), (by first | rfl | (simp; done) | (simp [*]; done) | (simp [ne_nil_]; done)), H', ⟨by first | omega | exact Nat.le_refl _⟩, ⟨by (with_reducible repeat (first | refine blk_drewN ?_ _ | refine blk_drew ?_ | refine blk_alloc ?_ _)); exact BK172.out⟩, ⟨by repeat (first | (with_reducible first | exact HB.out | apply below_alloc | apply pw_below_drewN | apply below_drew1 | refine below_set ?_ GE172.out) | exact HB.out)⟩⟩
      · rw [if_neg c36] at H
        have c36b0 : (a0_0 == 2) = false := beq_eq_false_iff_ne.mpr c36
        have c36b1 : (a0_0 != 2) = true := bne_iff_ne.mpr c36
        (first | rw [c36b0] | (simp only [i64_w, i32_w]; rw [c36b0]) | skip)
        have H' := Aside0.mk H
        clear H
        go_wp2
        go_meet
        case rel => exact ⟨_, ((a0_0 == 3)), (by first | rfl | (simp; done) | (simp [*]; done) | (simp [ne_nil_]; done)), H', ⟨by first | omega | exact Nat.le_refl _⟩, ⟨by (with_reducible repeat (first | refine blk_drewN ?_ _ | refine blk_drew ?_ | refine blk_alloc ?_ _)); exact BK172.out⟩, ⟨by repeat (first | (with_reducible first | exact HB.out | apply below_alloc | apply pw_below_drewN | apply below_drew1 | refine below_set ?_ GE172.out) | exact HB.out)⟩⟩
    case rest =>
      clear HC33
      try clear c1
      try clear p1
      try clear q1
      try clear hx1
      try clear c2
      try clear c2b0
      try clear c2b1
      try clear p2
      try clear c3
      try clear c4
      try clear c6
      try clear c6b0
      try clear p6
      try clear c8
      try clear c8b0
      try clear c10
      try clear c10b0
      try clear c13
      try clear c15
      try clear c17
      try clear p17
      try clear q17
      try clear hx17
      try clear c18
      try clear c18b0
      try clear c18b1
      try clear c18b2
      try clear c24
      try clear c25
      try clear c25b0
      try clear c26
      try clear c26b0
      try clear c27
      try clear c27b0
      try clear c29
      try clear c29b0
      try clear c36
      try clear c36b0
      try clear c36b1
      try clear hcz11_0
      try clear hcz11_1
      try clear hcz11_2
      try clear hcz11_3
      try clear hcz11_4
      try clear hcz11_5
      try clear hcz11_6
      try clear hcz11_7
      try clear hcz11_8
      try clear hcz11_9
      try clear hcz19_0
      try clear hcz19_1
      try clear hcz19_2
      try clear hcz19_3
      try clear hcz19_4
      try clear hcz19_5
      try clear hcz19_6
      try clear hcz19_7
      try clear hcz19_8
      try clear hcz19_9
      try clear hcz20_0
      try clear hcz20_1
      try clear hcz20_2
      try clear hcz20_3
      try clear hcz20_4
      try clear hcz20_5
      try clear hcz20_6
      try clear hcz20_7
      try clear hcz20_8
      try clear hcz20_9
      try clear hcz21_0
      try clear hcz21_1
      try clear hcz21_2
      try clear hcz21_3
      try clear hcz21_4
      try clear hcz21_5
      try clear hcz21_6
      try clear hcz21_7
      try clear hcz21_8
      try clear hcz21_9
      try clear hcz22_0
      try clear hcz22_1
      try clear hcz22_2
      try clear hcz22_3
      try clear hcz22_4
      try clear hcz22_5
      try clear hcz22_6
      try clear hcz22_7
      try clear hcz22_8
      try clear hcz22_9
      try clear hcz23_0
      try clear hcz23_1
      try clear hcz23_2
      try clear hcz23_3
      try clear hcz23_4
      try clear hcz23_5
      try clear hcz23_6
      try clear hcz23_7
      try clear hcz23_8
      try clear hcz23_9
      try clear hcz28_0
      try clear hcz28_1
      try clear hcz28_2
      try clear hcz28_3
      try clear hcz28_4
      try clear hcz28_5
      try clear hcz28_6
      try clear hcz28_7
      try clear hcz28_8
      try clear hcz28_9
      try clear hcz30_0
      try clear hcz30_1
      try clear hcz30_2
      try clear hcz30_3
      try clear hcz30_4
      try clear hcz30_5
      try clear hcz30_6
      try clear hcz30_7
      try clear hcz30_8
      try clear hcz30_9
      try clear hcz31_0
      try clear hcz31_1
      try clear hcz31_2
      try clear hcz31_3
      try clear hcz31_4
      try clear hcz31_5
      try clear hcz31_6
      try clear hcz31_7
      try clear hcz31_8
      try clear hcz31_9
      try clear hcz32_0
      try clear hcz32_1
      try clear hcz32_2
      try clear hcz32_3
      try clear hcz32_4
      try clear hcz32_5
      try clear hcz32_6
      try clear hcz32_7
      try clear hcz32_8
      try clear hcz32_9
      try clear hcz35_0
      try clear hcz35_1
      try clear hcz35_2
      try clear hcz35_3
      try clear hcz35_4
      try clear hcz35_5
      try clear hcz35_6
      try clear hcz35_7
      try clear hcz35_8
      try clear hcz35_9
      try clear hcz5_0
      try clear hcz5_1
      try clear hcz5_2
      try clear hcz5_3
      try clear hcz5_4
      try clear hcz5_5
      try clear hcz5_6
      try clear hcz5_7
      try clear hcz5_8
      try clear hcz5_9
      try clear hcz7_0
      try clear hcz7_1
      try clear hcz7_2
      try clear hcz7_3
      try clear hcz7_4
      try clear hcz7_5
      try clear hcz7_6
      try clear hcz7_7
      try clear hcz7_8
      try clear hcz7_9
      try clear hcz9_0
      try clear hcz9_1
      try clear hcz9_2
      try clear hcz9_3
      try clear hcz9_4
      try clear hcz9_5
      try clear hcz9_6
      try clear hcz9_7
      try clear hcz9_8
      try clear hcz9_9
      try clear hfz11_0
      try clear hfz11_1
      try clear hfz11_2
      try clear hfz11_3
      try clear hfz11_4
      try clear hfz11_5
      try clear hfz11_6
      try clear hfz11_7
      try clear hfz11_8
      try clear hfz11_9
      try clear hfz19_0
      try clear hfz19_1
      try clear hfz19_2
      try clear hfz19_3
      try clear hfz19_4
      try clear hfz19_5
      try clear hfz19_6
      try clear hfz19_7
      try clear hfz19_8
      try clear hfz19_9
      try clear hfz20_0
      try clear hfz20_1
      try clear hfz20_2
      try clear hfz20_3
      try clear hfz20_4
      try clear hfz20_5
      try clear hfz20_6
      try clear hfz20_7
      try clear hfz20_8
      try clear hfz20_9
      try clear hfz21_0
      try clear hfz21_1
      try clear hfz21_2
      try clear hfz21_3
      try clear hfz21_4
      try clear hfz21_5
      try clear hfz21_6
      try clear hfz21_7
      try clear hfz21_8
      try clear hfz21_9
      try clear hfz22_0
      try clear hfz22_1
      try clear hfz22_2
      try clear hfz22_3
      try clear hfz22_4
      try clear hfz22_5
      try clear hfz22_6
      try clear hfz22_7
      try clear hfz22_8
      try clear hfz22_9
      try clear hfz23_0
      try clear hfz23_1
      try clear hfz23_2
      try clear hfz23_3
      try clear hfz23_4
      try clear hfz23_5
      try clear hfz23_6
      try clear hfz23_7
      try clear hfz23_8
      try clear hfz23_9
      try clear hfz28_0
      try clear hfz28_1
      try clear hfz28_2
      try clear hfz28_3
      try clear hfz28_4
      try clear hfz28_5
      try clear hfz28_6
      try clear hfz28_7
      try clear hfz28_8
      try clear hfz28_9
      try clear hfz30_0
      try clear hfz30_1
      try clear hfz30_2
      try clear hfz30_3
      try clear hfz30_4
      try clear hfz30_5
      try clear hfz30_6
      try clear hfz30_7
      try clear hfz30_8
      try clear hfz30_9
      try clear hfz31_0
      try clear hfz31_1
      try clear hfz31_2
      try clear hfz31_3
      try clear hfz31_4
      try clear hfz31_5
      try clear hfz31_6
      try clear hfz31_7
      try clear hfz31_8
      try clear hfz31_9
      try clear hfz32_0
      try clear hfz32_1
      try clear hfz32_2
      try clear hfz32_3
      try clear hfz32_4
      try clear hfz32_5
      try clear hfz32_6
      try clear hfz32_7
      try clear hfz32_8
      try clear hfz32_9
      try clear hfz35_0
      try clear hfz35_1
      try clear hfz35_2
      try clear hfz35_3
      try clear hfz35_4
      try clear hfz35_5
      try clear hfz35_6
      try clear hfz35_7
      try clear hfz35_8
      try clear hfz35_9
      try clear hfz5_0
      try clear hfz5_1
      try clear hfz5_2
      try clear hfz5_3
      try clear hfz5_4
      try clear hfz5_5
      try clear hfz5_6
      try clear hfz5_7
      try clear hfz5_8
      try clear hfz5_9
      try clear hfz7_0
      try clear hfz7_1
      try clear hfz7_2
      try clear hfz7_3
      try clear hfz7_4
      try clear hfz7_5
      try clear hfz7_6
      try clear hfz7_7
      try clear hfz7_8
      try clear hfz7_9
      try clear hfz9_0
      try clear hfz9_1
      try clear hfz9_2
      try clear hfz9_3
      try clear hfz9_4
      try clear hfz9_5
      try clear hfz9_6
      try clear hfz9_7
      try clear hfz9_8
      try clear hfz9_9
      try clear hx176_0
      try clear hx177_0
      try clear p176
      try clear p177
      try clear p2
      try clear q176
      try clear q177
      obtain ⟨kq, x72_32, rfl, HA, HJ32, BK172, HB⟩ := hcut
      cases kq with
      | zero => exact absurd HA.out (by simp [colophonref15_one.j2])
      | succ kj32 =>
        have H := HA.out
        clear HA
        simp only [colophonref15_one.j2] at H
        by_cases c37 : x72_32 = true
        · subst c37
          have H1 : ((colophonref15_Boxed.f a0_6 a0_7 a0_8 a0_9).bind fun t178 => (if t178 = true then ((colophonref15_One.f kj32 a0_0 a0_1 a0_2 a0_3 a0_4 l0_5 a0_6 a0_7 a0_8 a0_9 a0_0 0 0 0 0 ([] : List Int) a0_6 a0_7 a0_8 a0_9).bind fun t179 => (some t179)) else (some false))) = some r := by rw [if_pos rfl] at H; exact H
          clear H
          have H := H1
          clear H1
          replace H := Option.bind_eq_some_iff.mp H
          obtain ⟨t178, A380, H⟩ := H
          replace H : (if t178 = true then ((colophonref15_One.f kj32 a0_0 a0_1 a0_2 a0_3 a0_4 l0_5 a0_6 a0_7 a0_8 a0_9 a0_0 0 0 0 0 ([] : List Int) a0_6 a0_7 a0_8 a0_9).bind fun t179 => (some t179)) else (some false)) = some r := H
          have A38 := Aside0.mk A380
          clear A380
          by_cases c39 : t178 = true
          · subst c39
            have H1 : ((colophonref15_One.f kj32 a0_0 a0_1 a0_2 a0_3 a0_4 l0_5 a0_6 a0_7 a0_8 a0_9 a0_0 0 0 0 0 ([] : List Int) a0_6 a0_7 a0_8 a0_9).bind fun t179 => (some t179)) = some r := by rw [if_pos rfl] at H; exact H
            clear H
            have H := H1
            clear H1
            replace H := Option.bind_eq_some_iff.mp H
            obtain ⟨t179, A400, H⟩ := H
            replace H : (some t179) = some r := H
            have A40 := Aside0.mk A400
            clear A400
            obtain rfl := Option.some.inj H
            have hcz41_0 : wc.cell? ⟨gb172, 0, none⟩ = some (.int .i64 a0_0) := (blk_cell BK172.out 0).trans rfl
            have hcz41_1 : wc.cell? ⟨gb172, 1, none⟩ = some (.int .i64 a0_1) := (blk_cell BK172.out 1).trans rfl
            have hcz41_2 : wc.cell? ⟨gb172, 2, none⟩ = some (.int .i64 a0_2) := (blk_cell BK172.out 2).trans rfl
            have hcz41_3 : wc.cell? ⟨gb172, 3, none⟩ = some (.int .i64 a0_3) := (blk_cell BK172.out 3).trans rfl
            have hcz41_4 : wc.cell? ⟨gb172, 4, none⟩ = some (.int .i64 a0_4) := (blk_cell BK172.out 4).trans rfl
            have hcz41_5 : wc.cell? ⟨gb172, 5, none⟩ = some (.slice A0_5 l0_5.length c0_5) := (blk_cell BK172.out 5).trans rfl
            have hcz41_6 : wc.cell? ⟨gb172, 6, none⟩ = some (.int .i64 a0_6) := (blk_cell BK172.out 6).trans rfl
            have hcz41_7 : wc.cell? ⟨gb172, 7, none⟩ = some (.int .i64 a0_7) := (blk_cell BK172.out 7).trans rfl
            have hcz41_8 : wc.cell? ⟨gb172, 8, none⟩ = some (.int .i64 a0_8) := (blk_cell BK172.out 8).trans rfl
            have hcz41_9 : wc.cell? ⟨gb172, 9, none⟩ = some (.int .i64 a0_9) := (blk_cell BK172.out 9).trans rfl
            have hfz41_0 := blk_frozen BK172.out 0
            have hfz41_1 := blk_frozen BK172.out 1
            have hfz41_2 := blk_frozen BK172.out 2
            have hfz41_3 := blk_frozen BK172.out 3
            have hfz41_4 := blk_frozen BK172.out 4
            have hfz41_5 := blk_frozen BK172.out 5
            have hfz41_6 := blk_frozen BK172.out 6
            have hfz41_7 := blk_frozen BK172.out 7
            have hfz41_8 := blk_frozen BK172.out 8
            have hfz41_9 := blk_frozen BK172.out 9
            go_wp2_with (first | ((with_reducible refine gate_callee (f := 62) rfl ?_); refine goesL_ (some 77) rfl rfl Tryd.func62 (by kernel_rfl) rfl #[.agg #[.int .i64 a0_6, .int .i64 a0_7, .int .i64 a0_8, .int .i64 a0_9]] rfl (by (try simp only [List.map_toArray, List.map_cons, List.map_nil]); first | done | rfl | (simp only [List.length_drop, List.length_take]; rfl) | (simp only [Array.mk.injEq, List.cons.injEq, Value.int.injEq, and_true, true_and]; (try unfold wrap64); omega)) ?_; (with_reducible refine (colophonref15_Boxed.calls a0_6 a0_7 a0_8 a0_9 true _ A38.out).mono ?_); rintro e w42 ⟨rfl, hb⟩; refine ⟨_, rfl, ?_⟩; have n0_ := Aside0.mk (blk_below (g := gb172) (o := .cells #[.int .i64 a0_0, .int .i64 a0_1, .int .i64 a0_2, .int .i64 a0_3, .int .i64 a0_4, .slice A0_5 l0_5.length c0_5, .int .i64 a0_6, .int .i64 a0_7, .int .i64 a0_8, .int .i64 a0_9] 50 (0, 0)) (by (with_reducible repeat (first | refine blk_drewN ?_ _ | refine blk_drew ?_ | refine blk_alloc ?_ _)); exact BK172.out) hb); have n1_ := Aside0.mk (below_step (by repeat (first | (with_reducible first | exact HB.out | apply below_alloc | apply pw_below_drewN | apply below_drew1 | refine below_set ?_ GE172.out) | exact HB.out)) hb); clear BK172; clear HB; have BK172 := n0_; have HB := n1_; clear n0_ n1_; (try clear hb); (try clear hb2); (try clear hk); (try clear hi); have hcz43_0 : w42.cell? ⟨gb172, 0, none⟩ = some (.int .i64 a0_0) := (blk_cell BK172.out 0).trans rfl; have hcz43_1 : w42.cell? ⟨gb172, 1, none⟩ = some (.int .i64 a0_1) := (blk_cell BK172.out 1).trans rfl; have hcz43_2 : w42.cell? ⟨gb172, 2, none⟩ = some (.int .i64 a0_2) := (blk_cell BK172.out 2).trans rfl; have hcz43_3 : w42.cell? ⟨gb172, 3, none⟩ = some (.int .i64 a0_3) := (blk_cell BK172.out 3).trans rfl; have hcz43_4 : w42.cell? ⟨gb172, 4, none⟩ = some (.int .i64 a0_4) := (blk_cell BK172.out 4).trans rfl; have hcz43_5 : w42.cell? ⟨gb172, 5, none⟩ = some (.slice A0_5 l0_5.length c0_5) := (blk_cell BK172.out 5).trans rfl; have hcz43_6 : w42.cell? ⟨gb172, 6, none⟩ = some (.int .i64 a0_6) := (blk_cell BK172.out 6).trans rfl; have hcz43_7 : w42.cell? ⟨gb172, 7, none⟩ = some (.int .i64 a0_7) := (blk_cell BK172.out 7).trans rfl; have hcz43_8 : w42.cell? ⟨gb172, 8, none⟩ = some (.int .i64 a0_8) := (blk_cell BK172.out 8).trans rfl; have hcz43_9 : w42.cell? ⟨gb172, 9, none⟩ = some (.int .i64 a0_9) := (blk_cell BK172.out 9).trans rfl; have hfz43_0 := blk_frozen BK172.out 0; have hfz43_1 := blk_frozen BK172.out 1; have hfz43_2 := blk_frozen BK172.out 2; have hfz43_3 := blk_frozen BK172.out 3; have hfz43_4 := blk_frozen BK172.out 4; have hfz43_5 := blk_frozen BK172.out 5; have hfz43_6 := blk_frozen BK172.out 6; have hfz43_7 := blk_frozen BK172.out 7; have hfz43_8 := blk_frozen BK172.out 8; have hfz43_9 := blk_frozen BK172.out 9) | (go_at_call 38; (refine (colophonref15_One.calls kj32 a0_0 a0_1 a0_2 a0_3 a0_4 _ _ l0_5 a0_6 a0_7 a0_8 a0_9 a0_0 0 0 0 0 _ _ ([] : List Int) a0_6 a0_7 a0_8 a0_9 t179 _ ?side1 ?side2 ?side3 ?side4 A40.out).mono ?_); (case side1 => repeat (first | exact (Kd.C_below HR0_5.out HB.out) | (with_reducible refine Kd.C_alloc ?_ _) | (with_reducible refine Kd.C_drewN ?_ _) | (with_reducible refine Kd.C_drew ?_))); (case side2 => exact HC0_5.out); (case side3 => exact Kd.C_nil _ _); (case side4 => exact Nat.le_refl _); rintro e w44 ⟨rfl, hb⟩; have n0_ := Aside0.mk (blk_below (g := gb172) (o := .cells #[.int .i64 a0_0, .int .i64 a0_1, .int .i64 a0_2, .int .i64 a0_3, .int .i64 a0_4, .slice A0_5 l0_5.length c0_5, .int .i64 a0_6, .int .i64 a0_7, .int .i64 a0_8, .int .i64 a0_9] 50 (0, 0)) (by (with_reducible repeat (first | refine blk_drewN ?_ _ | refine blk_drew ?_ | refine blk_alloc ?_ _)); exact BK172.out) hb); have n1_ := Aside0.mk (below_step (by repeat (first | (with_reducible first | exact HB.out | apply below_alloc | apply pw_below_drewN | apply below_drew1 | refine below_set ?_ GE172.out) | exact HB.out)) hb); clear BK172; clear HB; have BK172 := n0_; have HB := n1_; clear n0_ n1_; (try clear hb); (try clear hb2); (try clear hk); (try clear hi)))
            go_ret
            exact ⟨by first | rfl | (simp [errW_none, errW_some] <;> rfl) | (simp [*, errW_none, errW_some] <;> rfl), by repeat (first | (with_reducible first | exact HB.out | apply below_alloc | apply pw_below_drewN | apply below_drew1 | refine below_set ?_ GE172.out) | exact HB.out)⟩
          · replace c39 := Bool.eq_false_iff.mpr c39
            subst c39
            have H1 : (some false) = some r := by rw [if_neg (show ¬ (false = true) by decide)] at H; exact H
            clear H
            have H := H1
            clear H1
            obtain rfl := Option.some.inj H
            have hcz45_0 : wc.cell? ⟨gb172, 0, none⟩ = some (.int .i64 a0_0) := (blk_cell BK172.out 0).trans rfl
            have hcz45_1 : wc.cell? ⟨gb172, 1, none⟩ = some (.int .i64 a0_1) := (blk_cell BK172.out 1).trans rfl
            have hcz45_2 : wc.cell? ⟨gb172, 2, none⟩ = some (.int .i64 a0_2) := (blk_cell BK172.out 2).trans rfl
            have hcz45_3 : wc.cell? ⟨gb172, 3, none⟩ = some (.int .i64 a0_3) := (blk_cell BK172.out 3).trans rfl
            have hcz45_4 : wc.cell? ⟨gb172, 4, none⟩ = some (.int .i64 a0_4) := (blk_cell BK172.out 4).trans rfl
            have hcz45_5 : wc.cell? ⟨gb172, 5, none⟩ = some (.slice A0_5 l0_5.length c0_5) := (blk_cell BK172.out 5).trans rfl
            have hcz45_6 : wc.cell? ⟨gb172, 6, none⟩ = some (.int .i64 a0_6) := (blk_cell BK172.out 6).trans rfl
            have hcz45_7 : wc.cell? ⟨gb172, 7, none⟩ = some (.int .i64 a0_7) := (blk_cell BK172.out 7).trans rfl
            have hcz45_8 : wc.cell? ⟨gb172, 8, none⟩ = some (.int .i64 a0_8) := (blk_cell BK172.out 8).trans rfl
            have hcz45_9 : wc.cell? ⟨gb172, 9, none⟩ = some (.int .i64 a0_9) := (blk_cell BK172.out 9).trans rfl
            have hfz45_0 := blk_frozen BK172.out 0
            have hfz45_1 := blk_frozen BK172.out 1
            have hfz45_2 := blk_frozen BK172.out 2
            have hfz45_3 := blk_frozen BK172.out 3
            have hfz45_4 := blk_frozen BK172.out 4
            have hfz45_5 := blk_frozen BK172.out 5
            have hfz45_6 := blk_frozen BK172.out 6
            have hfz45_7 := blk_frozen BK172.out 7
            have hfz45_8 := blk_frozen BK172.out 8
            have hfz45_9 := blk_frozen BK172.out 9
            go_wp2_with (first | ((with_reducible refine gate_callee (f := 62) rfl ?_); refine goesL_ (some 77) rfl rfl Tryd.func62 (by kernel_rfl) rfl #[.agg #[.int .i64 a0_6, .int .i64 a0_7, .int .i64 a0_8, .int .i64 a0_9]] rfl (by (try simp only [List.map_toArray, List.map_cons, List.map_nil]); first | done | rfl | (simp only [List.length_drop, List.length_take]; rfl) | (simp only [Array.mk.injEq, List.cons.injEq, Value.int.injEq, and_true, true_and]; (try unfold wrap64); omega)) ?_; (with_reducible refine (colophonref15_Boxed.calls a0_6 a0_7 a0_8 a0_9 false _ A38.out).mono ?_); rintro e w46 ⟨rfl, hb⟩; refine ⟨_, rfl, ?_⟩; have n0_ := Aside0.mk (blk_below (g := gb172) (o := .cells #[.int .i64 a0_0, .int .i64 a0_1, .int .i64 a0_2, .int .i64 a0_3, .int .i64 a0_4, .slice A0_5 l0_5.length c0_5, .int .i64 a0_6, .int .i64 a0_7, .int .i64 a0_8, .int .i64 a0_9] 50 (0, 0)) (by (with_reducible repeat (first | refine blk_drewN ?_ _ | refine blk_drew ?_ | refine blk_alloc ?_ _)); exact BK172.out) hb); have n1_ := Aside0.mk (below_step (by repeat (first | (with_reducible first | exact HB.out | apply below_alloc | apply pw_below_drewN | apply below_drew1 | refine below_set ?_ GE172.out) | exact HB.out)) hb); clear BK172; clear HB; have BK172 := n0_; have HB := n1_; clear n0_ n1_; (try clear hb); (try clear hb2); (try clear hk); (try clear hi)))
            go_ret
            exact ⟨by first | rfl | (simp [errW_none, errW_some] <;> rfl) | (simp [*, errW_none, errW_some] <;> rfl), by repeat (first | (with_reducible first | exact HB.out | apply below_alloc | apply pw_below_drewN | apply below_drew1 | refine below_set ?_ GE172.out) | exact HB.out)⟩
        · replace c37 := Bool.eq_false_iff.mpr c37
          subst c37
          have H1 : (if a0_0 = 4 then ((colophonref15_One.f kj32 a0_0 a0_1 a0_2 a0_3 a0_4 l0_5 a0_6 a0_7 a0_8 a0_9 4 0 0 0 0 ([] : List Int) 0 0 0 0).bind fun t180 => (some t180)) else (some false)) = some r := by rw [if_neg (show ¬ (false = true) by decide)] at H; exact H
          clear H
          have H := H1
          clear H1
          by_cases c47 : a0_0 = 4
          · rw [if_pos c47] at H
            have c47b0 : (a0_0 == 4) = true := beq_iff_eq.mpr c47
            have c47b1 : (a0_0 != 4) = false := bne_eq_false_iff_eq.mpr c47
            clear c47
            replace H := Option.bind_eq_some_iff.mp H
            obtain ⟨t180, A480, H⟩ := H
            replace H : (some t180) = some r := H
            have A48 := Aside0.mk A480
            clear A480
            obtain rfl := Option.some.inj H
            have hcz49_0 : wc.cell? ⟨gb172, 0, none⟩ = some (.int .i64 a0_0) := (blk_cell BK172.out 0).trans rfl
            have hcz49_1 : wc.cell? ⟨gb172, 1, none⟩ = some (.int .i64 a0_1) := (blk_cell BK172.out 1).trans rfl
            have hcz49_2 : wc.cell? ⟨gb172, 2, none⟩ = some (.int .i64 a0_2) := (blk_cell BK172.out 2).trans rfl
            have hcz49_3 : wc.cell? ⟨gb172, 3, none⟩ = some (.int .i64 a0_3) := (blk_cell BK172.out 3).trans rfl
            have hcz49_4 : wc.cell? ⟨gb172, 4, none⟩ = some (.int .i64 a0_4) := (blk_cell BK172.out 4).trans rfl
            have hcz49_5 : wc.cell? ⟨gb172, 5, none⟩ = some (.slice A0_5 l0_5.length c0_5) := (blk_cell BK172.out 5).trans rfl
            have hcz49_6 : wc.cell? ⟨gb172, 6, none⟩ = some (.int .i64 a0_6) := (blk_cell BK172.out 6).trans rfl
            have hcz49_7 : wc.cell? ⟨gb172, 7, none⟩ = some (.int .i64 a0_7) := (blk_cell BK172.out 7).trans rfl
            have hcz49_8 : wc.cell? ⟨gb172, 8, none⟩ = some (.int .i64 a0_8) := (blk_cell BK172.out 8).trans rfl
            have hcz49_9 : wc.cell? ⟨gb172, 9, none⟩ = some (.int .i64 a0_9) := (blk_cell BK172.out 9).trans rfl
            have hfz49_0 := blk_frozen BK172.out 0
            have hfz49_1 := blk_frozen BK172.out 1
            have hfz49_2 := blk_frozen BK172.out 2
            have hfz49_3 := blk_frozen BK172.out 3
            have hfz49_4 := blk_frozen BK172.out 4
            have hfz49_5 := blk_frozen BK172.out 5
            have hfz49_6 := blk_frozen BK172.out 6
            have hfz49_7 := blk_frozen BK172.out 7
            have hfz49_8 := blk_frozen BK172.out 8
            have hfz49_9 := blk_frozen BK172.out 9
            go_wp2_with (first | (go_at_call 38; (refine (colophonref15_One.calls kj32 a0_0 a0_1 a0_2 a0_3 a0_4 _ _ l0_5 a0_6 a0_7 a0_8 a0_9 4 0 0 0 0 _ _ ([] : List Int) 0 0 0 0 t180 _ ?side1 ?side2 ?side3 ?side4 A48.out).mono ?_); (case side1 => repeat (first | exact (Kd.C_below HR0_5.out HB.out) | (with_reducible refine Kd.C_alloc ?_ _) | (with_reducible refine Kd.C_drewN ?_ _) | (with_reducible refine Kd.C_drew ?_))); (case side2 => exact HC0_5.out); (case side3 => exact Kd.C_nil _ _); (case side4 => exact Nat.le_refl _); rintro e w50 ⟨rfl, hb⟩; have n0_ := Aside0.mk (blk_below (g := gb172) (o := .cells #[.int .i64 a0_0, .int .i64 a0_1, .int .i64 a0_2, .int .i64 a0_3, .int .i64 a0_4, .slice A0_5 l0_5.length c0_5, .int .i64 a0_6, .int .i64 a0_7, .int .i64 a0_8, .int .i64 a0_9] 50 (0, 0)) (by (with_reducible repeat (first | refine blk_drewN ?_ _ | refine blk_drew ?_ | refine blk_alloc ?_ _)); exact BK172.out) hb); have n1_ := Aside0.mk (below_step (by repeat (first | (with_reducible first | exact HB.out | apply below_alloc | apply pw_below_drewN | apply below_drew1 | refine below_set ?_ GE172.out) | exact HB.out)) hb); clear BK172; clear HB; have BK172 := n0_; have HB := n1_; clear n0_ n1_; (try clear hb); (try clear hb2); (try clear hk); (try clear hi)))
            go_ret
            exact ⟨by first | rfl | (simp [errW_none, errW_some] <;> rfl) | (simp [*, errW_none, errW_some] <;> rfl), by repeat (first | (with_reducible first | exact HB.out | apply below_alloc | apply pw_below_drewN | apply below_drew1 | refine below_set ?_ GE172.out) | exact HB.out)⟩
          · rw [if_neg c47] at H
            have c47b0 : (a0_0 == 4) = false := beq_eq_false_iff_ne.mpr c47
            have c47b1 : (a0_0 != 4) = true := bne_iff_ne.mpr c47
            obtain rfl := Option.some.inj H
            have hcz51_0 : wc.cell? ⟨gb172, 0, none⟩ = some (.int .i64 a0_0) := (blk_cell BK172.out 0).trans rfl
            have hcz51_1 : wc.cell? ⟨gb172, 1, none⟩ = some (.int .i64 a0_1) := (blk_cell BK172.out 1).trans rfl
            have hcz51_2 : wc.cell? ⟨gb172, 2, none⟩ = some (.int .i64 a0_2) := (blk_cell BK172.out 2).trans rfl
            have hcz51_3 : wc.cell? ⟨gb172, 3, none⟩ = some (.int .i64 a0_3) := (blk_cell BK172.out 3).trans rfl
            have hcz51_4 : wc.cell? ⟨gb172, 4, none⟩ = some (.int .i64 a0_4) := (blk_cell BK172.out 4).trans rfl
            have hcz51_5 : wc.cell? ⟨gb172, 5, none⟩ = some (.slice A0_5 l0_5.length c0_5) := (blk_cell BK172.out 5).trans rfl
            have hcz51_6 : wc.cell? ⟨gb172, 6, none⟩ = some (.int .i64 a0_6) := (blk_cell BK172.out 6).trans rfl
            have hcz51_7 : wc.cell? ⟨gb172, 7, none⟩ = some (.int .i64 a0_7) := (blk_cell BK172.out 7).trans rfl
            have hcz51_8 : wc.cell? ⟨gb172, 8, none⟩ = some (.int .i64 a0_8) := (blk_cell BK172.out 8).trans rfl
            have hcz51_9 : wc.cell? ⟨gb172, 9, none⟩ = some (.int .i64 a0_9) := (blk_cell BK172.out 9).trans rfl
            have hfz51_0 := blk_frozen BK172.out 0
            have hfz51_1 := blk_frozen BK172.out 1
            have hfz51_2 := blk_frozen BK172.out 2
            have hfz51_3 := blk_frozen BK172.out 3
            have hfz51_4 := blk_frozen BK172.out 4
            have hfz51_5 := blk_frozen BK172.out 5
            have hfz51_6 := blk_frozen BK172.out 6
            have hfz51_7 := blk_frozen BK172.out 7
            have hfz51_8 := blk_frozen BK172.out 8
            have hfz51_9 := blk_frozen BK172.out 9
            go_wp2
            go_ret
            exact ⟨by first | rfl | (simp [errW_none, errW_some] <;> rfl) | (simp [*, errW_none, errW_some] <;> rfl), by repeat (first | (with_reducible first | exact HB.out | apply below_alloc | apply pw_below_drewN | apply below_drew1 | refine below_set ?_ GE172.out) | exact HB.out)⟩
end Go.Proofs.YtekifiblehmafaaDoor.Y
end
