/- Part 15 of a proof: what it needs of the program's functions as plain Lean functions, with the proof that the machine's calls come to them, and of plain laws; put together out of smaller texts. No conditions besides those that each statement names. -/
import Derived.Test.YtekifiblehmafaaDoorEw13
import Derived.Test.YtekifiblehmafaaDoorEw14
import Derived.Test.YtekifiblehmafaaDoorEw2
import Derived.Test.YtekifiblehmafaaDoorEw5
import Derived.Test.YtekifiblehmafaaDoorEw7
section
namespace Go.Proofs.YtekifiblehmafaaDoor.X
end Go.Proofs.YtekifiblehmafaaDoor.X
open Go.Proofs.YtekifiblehmafaaDoor.X (GW GW_below sz_mk_ ne_nil_)
namespace Go.Proofs.YtekifiblehmafaaDoor.Z
open Go.RowKit Go.Proofs.YtekifiblehmafaaDoor.Y Go.Proofs.YtekifiblehmafaaDoorW.PrintWords Go.Proofs.YtekifiblehmafaaDoorW.PrintLast Go.Proofs.YtekifiblehmafaaDoorW.PrintMore
attribute [local go_sem] max2_int min2_int max_two min_two max_three min_three max_four min_four   -- for this text's walks alone
set_option linter.unusedVariables false
set_option linter.unusedSimpArgs false
def colophonlaw15_EmitWrites.f (k : Nat) (l0 : List (S50)) : Option (Bool) := (colophonlaw15_Large.f k l0).bind fun t122 => (if t122 = true then ((colophonlaw15_wakes.f k).bind fun t123 => (some t123)) else ((colophonref15_Copy.f k l0).bind fun t124 => ((emit_Emit.f t124).bind fun bt127 => ((colophonref15_Emit.f l0).bind fun bt129 => (if bt127.1.toList = bt129.1.toList then (if bt127.2 = bt129.2 then ((colophonref15_Same.f k t124 l0).bind fun t131 => (if t131 = true then ((colophonlaw15_wakes.f k).bind fun t132 => (some t132)) else (some false))) else (some false)) else (some false))))))
theorem colophonlaw15_EmitWrites.mono : ∀ a0 k, LeO (colophonlaw15_EmitWrites.f k a0) (colophonlaw15_EmitWrites.f (k + 1) a0) := by
  intro a0 k
  unfold colophonlaw15_EmitWrites.f
  repeat' first
      | (with_reducible exact colophonlaw15_Large.mono _ _)
      | (with_reducible exact colophonlaw15_wakes.mono _)
      | (with_reducible exact colophonref15_Copy.mono _ _)
      | (with_reducible exact colophonref15_Same.mono _ _ _)
      | (with_reducible exact LeO.refl _)
      | (with_reducible exact LeO.none _)
      | (with_reducible refine LeO.ite ?_ ?_)
      | (with_reducible refine LeO.bind ?_ (fun _ => ?_))
      | exact colophonlaw15_Large.mono _ _
      | exact colophonlaw15_wakes.mono _
      | exact colophonref15_Copy.mono _ _
      | exact colophonref15_Same.mono _ _ _
      | exact LeO.none _
      | refine LeO.ite ?_ ?_
      | refine LeO.bind ?_ (fun _ => ?_)
set_option maxHeartbeats 8000000 in
set_option maxRecDepth 100000 in
theorem colophonlaw15_EmitWrites.calls (k : Nat) (A0 : Option Addr) (c0 : Nat) (l0 : List (S50)) (r : Bool) (w : World) (hG : Aside0 (GW w)) (hr0 : Kd.C k50 w A0 l0.length l0) (hc0 : l0.length ≤ c0) (h : colophonlaw15_EmitWrites.f k l0 = some r) :
    Calls Tryd.prog 3 #[.slice A0 l0.length c0] w fun e w' => e = .returned (.bool r) ∧ Below w.heap.size w w' := by
  have HR0 := Aside0.mk hr0
  have HC0 := Aside0.mk hc0
  clear hr0 hc0
  have HB := Aside0.mk (Below.refl w.heap.size w)
  have H : ((colophonlaw15_Large.f k l0).bind fun t122 => (if t122 = true then ((colophonlaw15_wakes.f k).bind fun t123 => (some t123)) else ((colophonref15_Copy.f k l0).bind fun t124 => ((emit_Emit.f t124).bind fun bt127 => ((colophonref15_Emit.f l0).bind fun bt129 => (if bt127.1.toList = bt129.1.toList then (if bt127.2 = bt129.2 then ((colophonref15_Same.f k t124 l0).bind fun t131 => (if t131 = true then ((colophonlaw15_wakes.f k).bind fun t132 => (some t132)) else (some false))) else (some false)) else (some false))))))) = some r := h
  clear h
  replace H := Option.bind_eq_some_iff.mp H
  obtain ⟨t122, A20, H⟩ := H
  replace H : (if t122 = true then ((colophonlaw15_wakes.f k).bind fun t123 => (some t123)) else ((colophonref15_Copy.f k l0).bind fun t124 => ((emit_Emit.f t124).bind fun bt127 => ((colophonref15_Emit.f l0).bind fun bt129 => (if bt127.1.toList = bt129.1.toList then (if bt127.2 = bt129.2 then ((colophonref15_Same.f k t124 l0).bind fun t131 => (if t131 = true then ((colophonlaw15_wakes.f k).bind fun t132 => (some t132)) else (some false))) else (some false)) else (some false)))))) = some r := H
  have A2 := Aside0.mk A20
  clear A20
  by_cases c3 : t122 = true
  · subst c3
    have H1 : ((colophonlaw15_wakes.f k).bind fun t123 => (some t123)) = some r := by rw [if_pos rfl] at H; exact H
    clear H
    have H := H1
    clear H1
    replace H := Option.bind_eq_some_iff.mp H
    obtain ⟨t123, A40, H⟩ := H
    replace H : (some t123) = some r := H
    have A4 := Aside0.mk A40
    clear A40
    obtain rfl := Option.some.inj H
    go_enter Tryd.func3, Tryd.ntmps3
    go_wp2_with (first | ((with_reducible refine gate_callee (f := 12) rfl ?_); refine goesL_ (some 9) rfl rfl Tryd.func12 (by kernel_rfl) rfl #[.slice A0 l0.length c0] rfl (by (try simp only [List.map_toArray, List.map_cons, List.map_nil]); first | done | rfl | (simp only [List.length_drop, List.length_take]; rfl) | (simp only [Array.mk.injEq, List.cons.injEq, Value.int.injEq, and_true, true_and]; (try unfold wrap64); omega)) ?_; (with_reducible refine (colophonlaw15_Large.calls k _ _ l0 true _ ?side1 ?side2 A2.out).mono ?_); (case side1 => repeat (first | exact HR0.out | (with_reducible refine Kd.C_alloc ?_ _) | (with_reducible refine Kd.C_drewN ?_ _) | (with_reducible refine Kd.C_drew ?_))); (case side2 => exact HC0.out); rintro e w' ⟨rfl, ⟨nd, rfl⟩⟩; refine ⟨_, rfl, ?_⟩) | ((with_reducible refine gate_callee (f := 13) rfl ?_); refine goesL_ (some 10) rfl rfl Tryd.func13 (by kernel_rfl) rfl #[] rfl (by (try simp only [List.map_toArray, List.map_cons, List.map_nil]); first | done | rfl | (simp only [List.length_drop, List.length_take]; rfl) | (simp only [Array.mk.injEq, List.cons.injEq, Value.int.injEq, and_true, true_and]; (try unfold wrap64); omega)) ?_; (with_reducible refine (colophonlaw15_wakes.calls k  t123 _ ?side1 A4.out).mono ?_); (case side1 => exact GW_below hG (by repeat (first | (with_reducible first | exact HB.out | apply below_alloc | apply pw_below_drewN | apply below_drew1) | exact HB.out))); rintro e w5 ⟨rfl, hb⟩; refine ⟨_, rfl, ?_⟩; have n0_ := Aside0.mk (below_step (by repeat (first | (with_reducible first | exact HB.out | apply below_alloc | apply pw_below_drewN | apply below_drew1) | exact HB.out)) hb); clear HB; have HB := n0_; clear n0_; (try clear hb); (try clear hb2); (try clear hk); (try clear hi)))
    go_ret
    exact ⟨by first | rfl | (simp [errW_none, errW_some] <;> rfl) | (simp [*, errW_none, errW_some] <;> rfl), by repeat (first | (with_reducible first | exact HB.out | apply below_alloc | apply pw_below_drewN | apply below_drew1) | exact HB.out)⟩
  · replace c3 := Bool.eq_false_iff.mpr c3
    subst c3
    have H1 : ((colophonref15_Copy.f k l0).bind fun t124 => ((emit_Emit.f t124).bind fun bt127 => ((colophonref15_Emit.f l0).bind fun bt129 => (if bt127.1.toList = bt129.1.toList then (if bt127.2 = bt129.2 then ((colophonref15_Same.f k t124 l0).bind fun t131 => (if t131 = true then ((colophonlaw15_wakes.f k).bind fun t132 => (some t132)) else (some false))) else (some false)) else (some false))))) = some r := by rw [if_neg (show ¬ (false = true) by decide)] at H; exact H
    clear H
    have H := H1
    clear H1
    replace H := Option.bind_eq_some_iff.mp H
    obtain ⟨t124, A60, H⟩ := H
    replace H : ((emit_Emit.f t124).bind fun bt127 => ((colophonref15_Emit.f l0).bind fun bt129 => (if bt127.1.toList = bt129.1.toList then (if bt127.2 = bt129.2 then ((colophonref15_Same.f k t124 l0).bind fun t131 => (if t131 = true then ((colophonlaw15_wakes.f k).bind fun t132 => (some t132)) else (some false))) else (some false)) else (some false)))) = some r := H
    have A6 := Aside0.mk A60
    clear A60
    replace H := Option.bind_eq_some_iff.mp H
    obtain ⟨⟨t127, t128⟩, A70, H⟩ := H
    replace H : ((colophonref15_Emit.f l0).bind fun bt129 => (if t127.toList = bt129.1.toList then (if t128 = bt129.2 then ((colophonref15_Same.f k t124 l0).bind fun t131 => (if t131 = true then ((colophonlaw15_wakes.f k).bind fun t132 => (some t132)) else (some false))) else (some false)) else (some false))) = some r := H
    have A7 := Aside0.mk A70
    clear A70
    replace H := Option.bind_eq_some_iff.mp H
    obtain ⟨⟨t129, t130⟩, A80, H⟩ := H
    replace H : (if t127.toList = t129.toList then (if t128 = t130 then ((colophonref15_Same.f k t124 l0).bind fun t131 => (if t131 = true then ((colophonlaw15_wakes.f k).bind fun t132 => (some t132)) else (some false))) else (some false)) else (some false)) = some r := H
    have A8 := Aside0.mk A80
    clear A80
    by_cases c9 : t127.toList = t129.toList
    · rw [if_pos c9] at H
      have c9b0 : (t127.toList == t129.toList) = true := beq_iff_eq.mpr c9
      have c9b1 : (t127.toList != t129.toList) = false := bne_eq_false_iff_eq.mpr c9
      clear c9
      by_cases c10 : t128 = t130
      · rw [if_pos c10] at H
        have c10b0 : (t128 == t130) = true := beq_iff_eq.mpr c10
        have c10b1 : (t128 != t130) = false := bne_eq_false_iff_eq.mpr c10
        clear c10
        replace H := Option.bind_eq_some_iff.mp H
        obtain ⟨t131, A110, H⟩ := H
        replace H : (if t131 = true then ((colophonlaw15_wakes.f k).bind fun t132 => (some t132)) else (some false)) = some r := H
        have A11 := Aside0.mk A110
        clear A110
        by_cases c12 : t131 = true
        · subst c12
          have H1 : ((colophonlaw15_wakes.f k).bind fun t132 => (some t132)) = some r := by rw [if_pos rfl] at H; exact H
          clear H
          have H := H1
          clear H1
          replace H := Option.bind_eq_some_iff.mp H
          obtain ⟨t132, A130, H⟩ := H
          replace H : (some t132) = some r := H
          have A13 := Aside0.mk A130
          clear A130
          obtain rfl := Option.some.inj H
          go_enter Tryd.func3, Tryd.ntmps3
          go_wp2_with (first | ((with_reducible refine gate_callee (f := 12) rfl ?_); refine goesL_ (some 9) rfl rfl Tryd.func12 (by kernel_rfl) rfl #[.slice A0 l0.length c0] rfl (by (try simp only [List.map_toArray, List.map_cons, List.map_nil]); first | done | rfl | (simp only [List.length_drop, List.length_take]; rfl) | (simp only [Array.mk.injEq, List.cons.injEq, Value.int.injEq, and_true, true_and]; (try unfold wrap64); omega)) ?_; (with_reducible refine (colophonlaw15_Large.calls k _ _ l0 false _ ?side1 ?side2 A2.out).mono ?_); (case side1 => repeat (first | exact HR0.out | (with_reducible refine Kd.C_alloc ?_ _) | (with_reducible refine Kd.C_drewN ?_ _) | (with_reducible refine Kd.C_drew ?_))); (case side2 => exact HC0.out); rintro e w' ⟨rfl, ⟨nd, rfl⟩⟩; refine ⟨_, rfl, ?_⟩) | ((with_reducible refine gate_callee (f := 14) rfl ?_); refine goesL_ (some 12) rfl rfl Tryd.func14 (by kernel_rfl) rfl #[.slice A0 l0.length c0] rfl (by (try simp only [List.map_toArray, List.map_cons, List.map_nil]); first | done | rfl | (simp only [List.length_drop, List.length_take]; rfl) | (simp only [Array.mk.injEq, List.cons.injEq, Value.int.injEq, and_true, true_and]; (try unfold wrap64); omega)) ?_; (with_reducible refine (colophonref15_Copy.calls k _ _ l0 t124 _ ?side1 ?side2 A6.out).mono ?_); (case side1 => repeat (first | exact HR0.out | (with_reducible refine Kd.C_alloc ?_ _) | (with_reducible refine Kd.C_drewN ?_ _) | (with_reducible refine Kd.C_drew ?_))); (case side2 => exact HC0.out); rintro e w14 ⟨v125, rfl, ho0, hb⟩; refine ⟨_, rfl, ?_⟩; have n0_ := Aside0.mk (Kd.S_lower ho0 (below_size (by repeat (first | (with_reducible first | exact HB.out | apply below_alloc | apply pw_below_drewN | apply below_drew1) | exact HB.out)))); have n1_ := Aside0.mk (below_step (by repeat (first | (with_reducible first | exact HB.out | apply below_alloc | apply pw_below_drewN | apply below_drew1) | exact HB.out)) hb); clear HB; have HO126 := n0_; have HB := n1_; clear n0_ n1_; (try clear hb); (try clear hb2); (try clear hk); (try clear hi); (try clear ho0); obtain ⟨Ao15, co15, eo15⟩ := Kd.S_slice HO126.out; subst eo15) | ((with_reducible refine gate_callee (f := 15) rfl ?_); refine goesL_ (some 15) rfl rfl Tryd.func15 (by kernel_rfl) rfl #[.slice Ao15 t124.length co15] rfl (by (try simp only [List.map_toArray, List.map_cons, List.map_nil]); first | done | rfl | (simp only [List.length_drop, List.length_take]; rfl) | (simp only [Array.mk.injEq, List.cons.injEq, Value.int.injEq, and_true, true_and]; (try unfold wrap64); omega)) ?_; (with_reducible refine (emit_Emit.calls _ _ t124 t127 t128 _ ?side1 ?side2 ?side3 A7.out).mono ?_); (case side1 => exact GW_below hG (by repeat (first | (with_reducible first | exact HB.out | apply below_alloc | apply pw_below_drewN | apply below_drew1) | exact HB.out))); (case side2 => repeat (first | exact (Kd.S_reads' HO126.out).2.2 | (with_reducible refine Kd.C_alloc ?_ _) | (with_reducible refine Kd.C_drewN ?_ _) | (with_reducible refine Kd.C_drew ?_))); (case side3 => exact (Kd.S_reads' HO126.out).2.1); rintro e w16 ⟨rfl, hb⟩; refine ⟨_, rfl, ?_⟩; have n0_ := Aside0.mk (Kd.S_below (by (with_reducible repeat (first | apply Kd.S_alloc | apply Kd.S_drewN | apply Kd.S_drew)); exact HO126.out) hb); have n1_ := Aside0.mk (below_step (by repeat (first | (with_reducible first | exact HB.out | apply below_alloc | apply pw_below_drewN | apply below_drew1) | exact HB.out)) hb); clear HO126; clear HB; have HO126 := n0_; have HB := n1_; clear n0_ n1_; (try clear hb); (try clear hb2); (try clear hk); (try clear hi)) | ((with_reducible refine gate_callee (f := 16) rfl ?_); refine goesL_ (some 20) rfl rfl Tryd.func16 (by kernel_rfl) rfl #[.slice A0 l0.length c0] rfl (by (try simp only [List.map_toArray, List.map_cons, List.map_nil]); first | done | rfl | (simp only [List.length_drop, List.length_take]; rfl) | (simp only [Array.mk.injEq, List.cons.injEq, Value.int.injEq, and_true, true_and]; (try unfold wrap64); omega)) ?_; (with_reducible refine (colophonref15_Emit.calls _ _ l0 t129 t130 _ ?side1 ?side2 A8.out).mono ?_); (case side1 => repeat (first | exact (Kd.C_below HR0.out HB.out) | (with_reducible refine Kd.C_alloc ?_ _) | (with_reducible refine Kd.C_drewN ?_ _) | (with_reducible refine Kd.C_drew ?_))); (case side2 => exact HC0.out); rintro e w17 ⟨rfl, hb⟩; refine ⟨_, rfl, ?_⟩; have n0_ := Aside0.mk (Kd.S_below (by (with_reducible repeat (first | apply Kd.S_alloc | apply Kd.S_drewN | apply Kd.S_drew)); exact HO126.out) hb); have n1_ := Aside0.mk (below_step (by repeat (first | (with_reducible first | exact HB.out | apply below_alloc | apply pw_below_drewN | apply below_drew1) | exact HB.out)) hb); clear HO126; clear HB; have HO126 := n0_; have HB := n1_; clear n0_ n1_; (try clear hb); (try clear hb2); (try clear hk); (try clear hi)) | (go_at_call 17; (with_reducible refine (colophonref15_Same.calls k _ _ t124 _ _ l0 true _ ?side1 ?side2 ?side3 ?side4 A11.out).mono ?_); (case side1 => repeat (first | exact (Kd.S_reads' HO126.out).2.2 | (with_reducible refine Kd.C_alloc ?_ _) | (with_reducible refine Kd.C_drewN ?_ _) | (with_reducible refine Kd.C_drew ?_))); (case side2 => exact (Kd.S_reads' HO126.out).2.1); (case side3 => repeat (first | exact (Kd.C_below HR0.out HB.out) | (with_reducible refine Kd.C_alloc ?_ _) | (with_reducible refine Kd.C_drewN ?_ _) | (with_reducible refine Kd.C_drew ?_))); (case side4 => exact HC0.out); rintro e w18 ⟨rfl, hb⟩; clear A11; have n0_ := Aside0.mk (Kd.S_below (by (with_reducible repeat (first | apply Kd.S_alloc | apply Kd.S_drewN | apply Kd.S_drew)); exact HO126.out) hb); have n1_ := Aside0.mk (below_step (by repeat (first | (with_reducible first | exact HB.out | apply below_alloc | apply pw_below_drewN | apply below_drew1) | exact HB.out)) hb); clear HO126; clear HB; have HO126 := n0_; have HB := n1_; clear n0_ n1_; (try clear hb); (try clear hb2); (try clear hk); (try clear hi)) | (go_at_call 13; (with_reducible refine (colophonlaw15_wakes.calls k  t132 _ ?side1 A13.out).mono ?_); (case side1 => exact GW_below hG (by repeat (first | (with_reducible first | exact HB.out | apply below_alloc | apply pw_below_drewN | apply below_drew1) | exact HB.out))); rintro e w19 ⟨rfl, hb⟩; clear A13; have n0_ := Aside0.mk (Kd.S_below (by (with_reducible repeat (first | apply Kd.S_alloc | apply Kd.S_drewN | apply Kd.S_drew)); exact HO126.out) hb); have n1_ := Aside0.mk (below_step (by repeat (first | (with_reducible first | exact HB.out | apply below_alloc | apply pw_below_drewN | apply below_drew1) | exact HB.out)) hb); clear HO126; clear HB; have HO126 := n0_; have HB := n1_; clear n0_ n1_; (try clear hb); (try clear hb2); (try clear hk); (try clear hi)))
          go_ret
          exact ⟨by first | rfl | (simp [errW_none, errW_some] <;> rfl) | (simp [*, errW_none, errW_some] <;> rfl), by repeat (first | (with_reducible first | exact HB.out | apply below_alloc | apply pw_below_drewN | apply below_drew1) | exact HB.out)⟩
        · replace c12 := Bool.eq_false_iff.mpr c12
          subst c12
          have H1 : (some false) = some r := by rw [if_neg (show ¬ (false = true) by decide)] at H; exact H
          clear H
          have H := H1
          clear H1
          obtain rfl := Option.some.inj H
          go_enter Tryd.func3, Tryd.ntmps3
          go_wp2_with (first | ((with_reducible refine gate_callee (f := 12) rfl ?_); refine goesL_ (some 9) rfl rfl Tryd.func12 (by kernel_rfl) rfl #[.slice A0 l0.length c0] rfl (by (try simp only [List.map_toArray, List.map_cons, List.map_nil]); first | done | rfl | (simp only [List.length_drop, List.length_take]; rfl) | (simp only [Array.mk.injEq, List.cons.injEq, Value.int.injEq, and_true, true_and]; (try unfold wrap64); omega)) ?_; (with_reducible refine (colophonlaw15_Large.calls k _ _ l0 false _ ?side1 ?side2 A2.out).mono ?_); (case side1 => repeat (first | exact HR0.out | (with_reducible refine Kd.C_alloc ?_ _) | (with_reducible refine Kd.C_drewN ?_ _) | (with_reducible refine Kd.C_drew ?_))); (case side2 => exact HC0.out); rintro e w' ⟨rfl, ⟨nd, rfl⟩⟩; refine ⟨_, rfl, ?_⟩) | ((with_reducible refine gate_callee (f := 14) rfl ?_); refine goesL_ (some 12) rfl rfl Tryd.func14 (by kernel_rfl) rfl #[.slice A0 l0.length c0] rfl (by (try simp only [List.map_toArray, List.map_cons, List.map_nil]); first | done | rfl | (simp only [List.length_drop, List.length_take]; rfl) | (simp only [Array.mk.injEq, List.cons.injEq, Value.int.injEq, and_true, true_and]; (try unfold wrap64); omega)) ?_; (with_reducible refine (colophonref15_Copy.calls k _ _ l0 t124 _ ?side1 ?side2 A6.out).mono ?_); (case side1 => repeat (first | exact HR0.out | (with_reducible refine Kd.C_alloc ?_ _) | (with_reducible refine Kd.C_drewN ?_ _) | (with_reducible refine Kd.C_drew ?_))); (case side2 => exact HC0.out); rintro e w20 ⟨v125, rfl, ho0, hb⟩; refine ⟨_, rfl, ?_⟩; have n0_ := Aside0.mk (Kd.S_lower ho0 (below_size (by repeat (first | (with_reducible first | exact HB.out | apply below_alloc | apply pw_below_drewN | apply below_drew1) | exact HB.out)))); have n1_ := Aside0.mk (below_step (by repeat (first | (with_reducible first | exact HB.out | apply below_alloc | apply pw_below_drewN | apply below_drew1) | exact HB.out)) hb); clear HB; have HO126 := n0_; have HB := n1_; clear n0_ n1_; (try clear hb); (try clear hb2); (try clear hk); (try clear hi); (try clear ho0); obtain ⟨Ao21, co21, eo21⟩ := Kd.S_slice HO126.out; subst eo21) | ((with_reducible refine gate_callee (f := 15) rfl ?_); refine goesL_ (some 15) rfl rfl Tryd.func15 (by kernel_rfl) rfl #[.slice Ao21 t124.length co21] rfl (by (try simp only [List.map_toArray, List.map_cons, List.map_nil]); first | done | rfl | (simp only [List.length_drop, List.length_take]; rfl) | (simp only [Array.mk.injEq, List.cons.injEq, Value.int.injEq, and_true, true_and]; (try unfold wrap64); omega)) ?_; (with_reducible refine (emit_Emit.calls _ _ t124 t127 t128 _ ?side1 ?side2 ?side3 A7.out).mono ?_); (case side1 => exact GW_below hG (by repeat (first | (with_reducible first | exact HB.out | apply below_alloc | apply pw_below_drewN | apply below_drew1) | exact HB.out))); (case side2 => repeat (first | exact (Kd.S_reads' HO126.out).2.2 | (with_reducible refine Kd.C_alloc ?_ _) | (with_reducible refine Kd.C_drewN ?_ _) | (with_reducible refine Kd.C_drew ?_))); (case side3 => exact (Kd.S_reads' HO126.out).2.1); rintro e w22 ⟨rfl, hb⟩; refine ⟨_, rfl, ?_⟩; have n0_ := Aside0.mk (Kd.S_below (by (with_reducible repeat (first | apply Kd.S_alloc | apply Kd.S_drewN | apply Kd.S_drew)); exact HO126.out) hb); have n1_ := Aside0.mk (below_step (by repeat (first | (with_reducible first | exact HB.out | apply below_alloc | apply pw_below_drewN | apply below_drew1) | exact HB.out)) hb); clear HO126; clear HB; have HO126 := n0_; have HB := n1_; clear n0_ n1_; (try clear hb); (try clear hb2); (try clear hk); (try clear hi)) | ((with_reducible refine gate_callee (f := 16) rfl ?_); refine goesL_ (some 20) rfl rfl Tryd.func16 (by kernel_rfl) rfl #[.slice A0 l0.length c0] rfl (by (try simp only [List.map_toArray, List.map_cons, List.map_nil]); first | done | rfl | (simp only [List.length_drop, List.length_take]; rfl) | (simp only [Array.mk.injEq, List.cons.injEq, Value.int.injEq, and_true, true_and]; (try unfold wrap64); omega)) ?_; (with_reducible refine (colophonref15_Emit.calls _ _ l0 t129 t130 _ ?side1 ?side2 A8.out).mono ?_); (case side1 => repeat (first | exact (Kd.C_below HR0.out HB.out) | (with_reducible refine Kd.C_alloc ?_ _) | (with_reducible refine Kd.C_drewN ?_ _) | (with_reducible refine Kd.C_drew ?_))); (case side2 => exact HC0.out); rintro e w23 ⟨rfl, hb⟩; refine ⟨_, rfl, ?_⟩; have n0_ := Aside0.mk (Kd.S_below (by (with_reducible repeat (first | apply Kd.S_alloc | apply Kd.S_drewN | apply Kd.S_drew)); exact HO126.out) hb); have n1_ := Aside0.mk (below_step (by repeat (first | (with_reducible first | exact HB.out | apply below_alloc | apply pw_below_drewN | apply below_drew1) | exact HB.out)) hb); clear HO126; clear HB; have HO126 := n0_; have HB := n1_; clear n0_ n1_; (try clear hb); (try clear hb2); (try clear hk); (try clear hi)) | (go_at_call 17; (with_reducible refine (colophonref15_Same.calls k _ _ t124 _ _ l0 false _ ?side1 ?side2 ?side3 ?side4 A11.out).mono ?_); (case side1 => repeat (first | exact (Kd.S_reads' HO126.out).2.2 | (with_reducible refine Kd.C_alloc ?_ _) | (with_reducible refine Kd.C_drewN ?_ _) | (with_reducible refine Kd.C_drew ?_))); (case side2 => exact (Kd.S_reads' HO126.out).2.1); (case side3 => repeat (first | exact (Kd.C_below HR0.out HB.out) | (with_reducible refine Kd.C_alloc ?_ _) | (with_reducible refine Kd.C_drewN ?_ _) | (with_reducible refine Kd.C_drew ?_))); (case side4 => exact HC0.out); rintro e w24 ⟨rfl, hb⟩; clear A11; have n0_ := Aside0.mk (Kd.S_below (by (with_reducible repeat (first | apply Kd.S_alloc | apply Kd.S_drewN | apply Kd.S_drew)); exact HO126.out) hb); have n1_ := Aside0.mk (below_step (by repeat (first | (with_reducible first | exact HB.out | apply below_alloc | apply pw_below_drewN | apply below_drew1) | exact HB.out)) hb); clear HO126; clear HB; have HO126 := n0_; have HB := n1_; clear n0_ n1_; (try clear hb); (try clear hb2); (try clear hk); (try clear hi)))
          go_ret
          exact ⟨by first | rfl | (simp [errW_none, errW_some] <;> rfl) | (simp [*, errW_none, errW_some] <;> rfl), by repeat (first | (with_reducible first | exact HB.out | apply below_alloc | apply pw_below_drewN | apply below_drew1) | exact HB.out)⟩
      · rw [if_neg c10] at H
        have c10b0 : (t128 == t130) = false := beq_eq_false_iff_ne.mpr c10
        have c10b1 : (t128 != t130) = true := bne_iff_ne.mpr c10
        obtain rfl := Option.some.inj H
        go_enter Tryd.func3, Tryd.ntmps3
        go_wp2_with (first | ((with_reducible refine gate_callee (f := 12) rfl ?_); refine goesL_ (some 9) rfl rfl Tryd.func12 (by kernel_rfl) rfl #[.slice A0 l0.length c0] rfl (by (try simp only [List.map_toArray, List.map_cons, List.map_nil]); first | done | rfl | (simp only [List.length_drop, List.length_take]; rfl) | (simp only [Array.mk.injEq, List.cons.injEq, Value.int.injEq, and_true, true_and]; (try unfold wrap64); omega)) ?_; (with_reducible refine (colophonlaw15_Large.calls k _ _ l0 false _ ?side1 ?side2 A2.out).mono ?_); (case side1 => repeat (first | exact HR0.out | (with_reducible refine Kd.C_alloc ?_ _) | (with_reducible refine Kd.C_drewN ?_ _) | (with_reducible refine Kd.C_drew ?_))); (case side2 => exact HC0.out); rintro e w' ⟨rfl, ⟨nd, rfl⟩⟩; refine ⟨_, rfl, ?_⟩) | ((with_reducible refine gate_callee (f := 14) rfl ?_); refine goesL_ (some 12) rfl rfl Tryd.func14 (by kernel_rfl) rfl #[.slice A0 l0.length c0] rfl (by (try simp only [List.map_toArray, List.map_cons, List.map_nil]); first | done | rfl | (simp only [List.length_drop, List.length_take]; rfl) | (simp only [Array.mk.injEq, List.cons.injEq, Value.int.injEq, and_true, true_and]; (try unfold wrap64); omega)) ?_; (with_reducible refine (colophonref15_Copy.calls k _ _ l0 t124 _ ?side1 ?side2 A6.out).mono ?_); (case side1 => repeat (first | exact HR0.out | (with_reducible refine Kd.C_alloc ?_ _) | (with_reducible refine Kd.C_drewN ?_ _) | (with_reducible refine Kd.C_drew ?_))); (case side2 => exact HC0.out); rintro e w25 ⟨v125, rfl, ho0, hb⟩; refine ⟨_, rfl, ?_⟩; have n0_ := Aside0.mk (Kd.S_lower ho0 (below_size (by repeat (first | (with_reducible first | exact HB.out | apply below_alloc | apply pw_below_drewN | apply below_drew1) | exact HB.out)))); have n1_ := Aside0.mk (below_step (by repeat (first | (with_reducible first | exact HB.out | apply below_alloc | apply pw_below_drewN | apply below_drew1) | exact HB.out)) hb); clear HB; have HO126 := n0_; have HB := n1_; clear n0_ n1_; (try clear hb); (try clear hb2); (try clear hk); (try clear hi); (try clear ho0); obtain ⟨Ao26, co26, eo26⟩ := Kd.S_slice HO126.out; subst eo26) | ((with_reducible refine gate_callee (f := 15) rfl ?_); refine goesL_ (some 15) rfl rfl Tryd.func15 (by kernel_rfl) rfl #[.slice Ao26 t124.length co26] rfl (by (try simp only [List.map_toArray, List.map_cons, List.map_nil]); first | done | rfl | (simp only [List.length_drop, List.length_take]; rfl) | (simp only [Array.mk.injEq, List.cons.injEq, Value.int.injEq, and_true, true_and]; (try unfold wrap64); omega)) ?_; (with_reducible refine (emit_Emit.calls _ _ t124 t127 t128 _ ?side1 ?side2 ?side3 A7.out).mono ?_); (case side1 => exact GW_below hG (by repeat (first | (with_reducible first | exact HB.out | apply below_alloc | apply pw_below_drewN | apply below_drew1) | exact HB.out))); (case side2 => repeat (first | exact (Kd.S_reads' HO126.out).2.2 | (with_reducible refine Kd.C_alloc ?_ _) | (with_reducible refine Kd.C_drewN ?_ _) | (with_reducible refine Kd.C_drew ?_))); (case side3 => exact (Kd.S_reads' HO126.out).2.1); rintro e w27 ⟨rfl, hb⟩; refine ⟨_, rfl, ?_⟩; have n0_ := Aside0.mk (Kd.S_below (by (with_reducible repeat (first | apply Kd.S_alloc | apply Kd.S_drewN | apply Kd.S_drew)); exact HO126.out) hb); have n1_ := Aside0.mk (below_step (by repeat (first | (with_reducible first | exact HB.out | apply below_alloc | apply pw_below_drewN | apply below_drew1) | exact HB.out)) hb); clear HO126; clear HB; have HO126 := n0_; have HB := n1_; clear n0_ n1_; (try clear hb); (try clear hb2); (try clear hk); (try clear hi)) | ((with_reducible refine gate_callee (f := 16) rfl ?_); refine goesL_ (some 20) rfl rfl Tryd.func16 (by kernel_rfl) rfl #[.slice A0 l0.length c0] rfl (by (try simp only [List.map_toArray, List.map_cons, List.map_nil]); first | done | rfl | (simp only [List.length_drop, List.length_take]; rfl) | (simp only [Array.mk.injEq, List.cons.injEq, Value.int.injEq, and_true, true_and]; (try unfold wrap64); omega)) ?_; (with_reducible refine (colophonref15_Emit.calls _ _ l0 t129 t130 _ ?side1 ?side2 A8.out).mono ?_); (case side1 => repeat (first | exact (Kd.C_below HR0.out HB.out) | (with_reducible refine Kd.C_alloc ?_ _) | (with_reducible refine Kd.C_drewN ?_ _) | (with_reducible refine Kd.C_drew ?_))); (case side2 => exact HC0.out); rintro e w28 ⟨rfl, hb⟩; refine ⟨_, rfl, ?_⟩; have n0_ := Aside0.mk (Kd.S_below (by (with_reducible repeat (first | apply Kd.S_alloc | apply Kd.S_drewN | apply Kd.S_drew)); exact HO126.out) hb); have n1_ := Aside0.mk (below_step (by repeat (first | (with_reducible first | exact HB.out | apply below_alloc | apply pw_below_drewN | apply below_drew1) | exact HB.out)) hb); clear HO126; clear HB; have HO126 := n0_; have HB := n1_; clear n0_ n1_; (try clear hb); (try clear hb2); (try clear hk); (try clear hi)))
        go_ret
        exact ⟨by first | rfl | (simp [errW_none, errW_some] <;> rfl) | (simp [*, errW_none, errW_some] <;> rfl), by repeat (first | (with_reducible first | exact HB.out | apply below_alloc | apply pw_below_drewN | apply below_drew1) | exact HB.out)⟩
    · rw [if_neg c9] at H
      have c9b0 : (t127.toList == t129.toList) = false := beq_eq_false_iff_ne.mpr c9
      have c9b1 : (t127.toList != t129.toList) = true := bne_iff_ne.mpr c9
      obtain rfl := Option.some.inj H
      go_enter Tryd.func3, Tryd.ntmps3
      go_wp2_with (first | ((with_reducible refine gate_callee (f := 12) rfl ?_); refine goesL_ (some 9) rfl rfl Tryd.func12 (by kernel_rfl) rfl #[.slice A0 l0.length c0] rfl (by (try simp only [List.map_toArray, List.map_cons, List.map_nil]); first | done | rfl | (simp only [List.length_drop, List.length_take]; rfl) | (simp only [Array.mk.injEq, List.cons.injEq, Value.int.injEq, and_true, true_and]; (try unfold wrap64); omega)) ?_; (with_reducible refine (colophonlaw15_Large.calls k _ _ l0 false _ ?side1 ?side2 A2.out).mono ?_); (case side1 => repeat (first | exact HR0.out | (with_reducible refine Kd.C_alloc ?_ _) | (with_reducible refine Kd.C_drewN ?_ _) | (with_reducible refine Kd.C_drew ?_))); (case side2 => exact HC0.out); rintro e w' ⟨rfl, ⟨nd, rfl⟩⟩; refine ⟨_, rfl, ?_⟩) | ((with_reducible refine gate_callee (f := 14) rfl ?_); refine goesL_ (some 12) rfl rfl Tryd.func14 (by kernel_rfl) rfl #[.slice A0 l0.length c0] rfl (by (try simp only [List.map_toArray, List.map_cons, List.map_nil]); first | done | rfl | (simp only [List.length_drop, List.length_take]; rfl) | (simp only [Array.mk.injEq, List.cons.injEq, Value.int.injEq, and_true, true_and]; (try unfold wrap64); omega)) ?_; (with_reducible refine (colophonref15_Copy.calls k _ _ l0 t124 _ ?side1 ?side2 A6.out).mono ?_); (case side1 => repeat (first | exact HR0.out | (with_reducible refine Kd.C_alloc ?_ _) | (with_reducible refine Kd.C_drewN ?_ _) | (with_reducible refine Kd.C_drew ?_))); (case side2 => exact HC0.out); rintro e w29 ⟨v125, rfl, ho0, hb⟩; refine ⟨_, rfl, ?_⟩; have n0_ := Aside0.mk (Kd.S_lower ho0 (below_size (by repeat (first | (with_reducible first | exact HB.out | apply below_alloc | apply pw_below_drewN | apply below_drew1) | exact HB.out)))); have n1_ := Aside0.mk (below_step (by repeat (first | (with_reducible first | exact HB.out | apply below_alloc | apply pw_below_drewN | apply below_drew1) | exact HB.out)) hb); clear HB; have HO126 := n0_; have HB := n1_; clear n0_ n1_; (try clear hb); (try clear hb2); (try clear hk); (try clear hi); (try clear ho0); obtain ⟨Ao30, co30, eo30⟩ := Kd.S_slice HO126.out; subst eo30) | ((with_reducible refine gate_callee (f := 15) rfl ?_); refine goesL_ (some 15) rfl rfl Tryd.func15 (by kernel_rfl) rfl #[.slice Ao30 t124.length co30] rfl (by (try simp only [List.map_toArray, List.map_cons, List.map_nil]); first | done | rfl | (simp only [List.length_drop, List.length_take]; rfl) | (simp only [Array.mk.injEq, List.cons.injEq, Value.int.injEq, and_true, true_and]; (try unfold wrap64); omega)) ?_; (with_reducible refine (emit_Emit.calls _ _ t124 t127 t128 _ ?side1 ?side2 ?side3 A7.out).mono ?_); (case side1 => exact GW_below hG (by repeat (first | (with_reducible first | exact HB.out | apply below_alloc | apply pw_below_drewN | apply below_drew1) | exact HB.out))); (case side2 => repeat (first | exact (Kd.S_reads' HO126.out).2.2 | (with_reducible refine Kd.C_alloc ?_ _) | (with_reducible refine Kd.C_drewN ?_ _) | (with_reducible refine Kd.C_drew ?_))); (case side3 => exact (Kd.S_reads' HO126.out).2.1); rintro e w31 ⟨rfl, hb⟩; refine ⟨_, rfl, ?_⟩; have n0_ := Aside0.mk (Kd.S_below (by (with_reducible repeat (first | apply Kd.S_alloc | apply Kd.S_drewN | apply Kd.S_drew)); exact HO126.out) hb); have n1_ := Aside0.mk (below_step (by repeat (first | (with_reducible first | exact HB.out | apply below_alloc | apply pw_below_drewN | apply below_drew1) | exact HB.out)) hb); clear HO126; clear HB; have HO126 := n0_; have HB := n1_; clear n0_ n1_; (try clear hb); (try clear hb2); (try clear hk); (try clear hi)) | ((with_reducible refine gate_callee (f := 16) rfl ?_); refine goesL_ (some 20) rfl rfl Tryd.func16 (by kernel_rfl) rfl #[.slice A0 l0.length c0] rfl (by (try simp only [List.map_toArray, List.map_cons, List.map_nil]); first | done | rfl | (simp only [List.length_drop, List.length_take]; rfl) | (simp only [Array.mk.injEq, List.cons.injEq, Value.int.injEq, and_true, true_and]; (try unfold wrap64); omega)) ?_; (with_reducible refine (colophonref15_Emit.calls _ _ l0 t129 t130 _ ?side1 ?side2 A8.out).mono ?_); (case side1 => repeat (first | exact (Kd.C_below HR0.out HB.out) | (with_reducible refine Kd.C_alloc ?_ _) | (with_reducible refine Kd.C_drewN ?_ _) | (with_reducible refine Kd.C_drew ?_))); (case side2 => exact HC0.out); rintro e w32 ⟨rfl, hb⟩; refine ⟨_, rfl, ?_⟩; have n0_ := Aside0.mk (Kd.S_below (by (with_reducible repeat (first | apply Kd.S_alloc | apply Kd.S_drewN | apply Kd.S_drew)); exact HO126.out) hb); have n1_ := Aside0.mk (below_step (by repeat (first | (with_reducible first | exact HB.out | apply below_alloc | apply pw_below_drewN | apply below_drew1) | exact HB.out)) hb); clear HO126; clear HB; have HO126 := n0_; have HB := n1_; clear n0_ n1_; (try clear hb); (try clear hb2); (try clear hk); (try clear hi)))
      go_ret
      exact ⟨by first | rfl | (simp [errW_none, errW_some] <;> rfl) | (simp [*, errW_none, errW_some] <;> rfl), by repeat (first | (with_reducible first | exact HB.out | apply below_alloc | apply pw_below_drewN | apply below_drew1) | exact HB.out)⟩
mutual
def colophonlaw15_EmitJoins.j0 : Nat → List (S50) → List (S50) → Bool → Option (Bool)
  | 0, _, _, _ => none
  | k + 1, x0, x1, x16 => if x16 = true then ((colophonlaw15_wakes.f k).bind fun t135 => (some t135)) else ((colophonref15_Copy.f k x0).bind fun t136 => ((emit_Emit.f t136).bind fun bt139 => ((colophonref15_Copy.f k x1).bind fun t141 => ((emit_Emit.f t141).bind fun bt144 => ((colophonref15_Copy.f k x0).bind fun t146 => ((colophonref15_Copy.f k x1).bind fun t149 => (if t146.length + t149.length < 1466015503701 then ((emit_Emit.f (t146 ++ t149)).bind fun bt155 => (if bt139.2 = 0 then (if bt144.2 = 0 then (colophonlaw15_EmitJoins.j1 k bt139.1 bt139.2 bt144.1 bt144.2 bt155.1 bt155.2 (bt155.2 != 0)) else (colophonlaw15_EmitJoins.j1 k bt139.1 bt139.2 bt144.1 bt144.2 bt155.1 bt155.2 true)) else (colophonlaw15_EmitJoins.j1 k bt139.1 bt139.2 bt144.1 bt144.2 bt155.1 bt155.2 true))) else (none))))))))
def colophonlaw15_EmitJoins.j1 : Nat → ByteArray → Int → ByteArray → Int → ByteArray → Int → Bool → Option (Bool)
  | 0, _, _, _, _, _, _, _ => none
  | k + 1, x5, x6, x7, x8, x9, x10, x48 => if x48 = true then (if x6 = 0 then (if x8 = 0 then (if x10 = 0 then ((colophonlaw15_wakes.f k).bind fun t157 => (some t157)) else (if x9.toList = ([] : List UInt8) then ((colophonlaw15_wakes.f k).bind fun t158 => (some t158)) else (some false))) else (if x7.toList = ([] : List UInt8) then (if x10 = 0 then ((colophonlaw15_wakes.f k).bind fun t159 => (some t159)) else (if x9.toList = ([] : List UInt8) then ((colophonlaw15_wakes.f k).bind fun t160 => (some t160)) else (some false))) else (some false))) else (if x5.toList = ([] : List UInt8) then (if x8 = 0 then (if x10 = 0 then ((colophonlaw15_wakes.f k).bind fun t161 => (some t161)) else (if x9.toList = ([] : List UInt8) then ((colophonlaw15_wakes.f k).bind fun t162 => (some t162)) else (some false))) else (if x7.toList = ([] : List UInt8) then (if x10 = 0 then ((colophonlaw15_wakes.f k).bind fun t163 => (some t163)) else (if x9.toList = ([] : List UInt8) then ((colophonlaw15_wakes.f k).bind fun t164 => (some t164)) else (some false))) else (some false))) else (some false))) else (if x5.size + x7.size ≤ 9223372036854775807 then (if x9.toList = (x5 ++ x7).toList then ((colophonlaw15_wakes.f k).bind fun t165 => (some t165)) else (some false)) else (none))
end
def colophonlaw15_EmitJoins.f (k : Nat) (l0 : List (S50)) (l1 : List (S50)) : Option (Bool) := (colophonlaw15_Large.f k l0).bind fun t133 => (if t133 = true then (colophonlaw15_EmitJoins.j0 k l0 l1 true) else ((colophonlaw15_Large.f k l1).bind fun t134 => (colophonlaw15_EmitJoins.j0 k l0 l1 t134)))
theorem colophonlaw15_EmitJoins.mono_l : ∀ k, (∀ y0 y1 y2, LeO (colophonlaw15_EmitJoins.j0 k y0 y1 y2) (colophonlaw15_EmitJoins.j0 (k + 1) y0 y1 y2)) ∧ (∀ y0 y1 y2 y3 y4 y5 y6, LeO (colophonlaw15_EmitJoins.j1 k y0 y1 y2 y3 y4 y5 y6) (colophonlaw15_EmitJoins.j1 (k + 1) y0 y1 y2 y3 y4 y5 y6))
  | 0 => ⟨fun _ _ _ r h => by simp [colophonlaw15_EmitJoins.j0] at h, fun _ _ _ _ _ _ _ r h => by simp [colophonlaw15_EmitJoins.j1] at h⟩
  | k + 1 => by
    obtain ⟨ih0, ih1⟩ := colophonlaw15_EmitJoins.mono_l k
    refine ⟨?_, ?_⟩
    · intro y0 y1 y2
      unfold colophonlaw15_EmitJoins.j0
      repeat' first
      | (with_reducible exact ih0 _ _ _)
      | (with_reducible exact ih1 _ _ _ _ _ _ _)
      | (with_reducible exact colophonlaw15_Large.mono _ _)
      | (with_reducible exact colophonlaw15_wakes.mono _)
      | (with_reducible exact colophonref15_Copy.mono _ _)
      | (with_reducible exact LeO.refl _)
      | (with_reducible exact LeO.none _)
      | (with_reducible refine LeO.ite ?_ ?_)
      | (with_reducible refine LeO.bind ?_ (fun _ => ?_))
      | exact ih0 _ _ _
      | exact ih1 _ _ _ _ _ _ _
      | exact colophonlaw15_Large.mono _ _
      | exact colophonlaw15_wakes.mono _
      | exact colophonref15_Copy.mono _ _
      | exact LeO.none _
      | refine LeO.ite ?_ ?_
      | refine LeO.bind ?_ (fun _ => ?_)
    · intro y0 y1 y2 y3 y4 y5 y6
      unfold colophonlaw15_EmitJoins.j1
      repeat' first
      | (with_reducible exact ih0 _ _ _)
      | (with_reducible exact ih1 _ _ _ _ _ _ _)
      | (with_reducible exact colophonlaw15_Large.mono _ _)
      | (with_reducible exact colophonlaw15_wakes.mono _)
      | (with_reducible exact colophonref15_Copy.mono _ _)
      | (with_reducible exact LeO.refl _)
      | (with_reducible exact LeO.none _)
      | (with_reducible refine LeO.ite ?_ ?_)
      | (with_reducible refine LeO.bind ?_ (fun _ => ?_))
      | exact ih0 _ _ _
      | exact ih1 _ _ _ _ _ _ _
      | exact colophonlaw15_Large.mono _ _
      | exact colophonlaw15_wakes.mono _
      | exact colophonref15_Copy.mono _ _
      | exact LeO.none _
      | refine LeO.ite ?_ ?_
      | refine LeO.bind ?_ (fun _ => ?_)
theorem colophonlaw15_EmitJoins.mono : ∀ a0 a1 k, LeO (colophonlaw15_EmitJoins.f k a0 a1) (colophonlaw15_EmitJoins.f (k + 1) a0 a1) := by
  intro a0 a1 k
  obtain ⟨ih0, ih1⟩ := colophonlaw15_EmitJoins.mono_l k
  unfold colophonlaw15_EmitJoins.f
  repeat' first
      | (with_reducible exact ih0 _ _ _)
      | (with_reducible exact ih1 _ _ _ _ _ _ _)
      | (with_reducible exact colophonlaw15_Large.mono _ _)
      | (with_reducible exact colophonlaw15_wakes.mono _)
      | (with_reducible exact colophonref15_Copy.mono _ _)
      | (with_reducible exact LeO.refl _)
      | (with_reducible exact LeO.none _)
      | (with_reducible refine LeO.ite ?_ ?_)
      | (with_reducible refine LeO.bind ?_ (fun _ => ?_))
      | exact ih0 _ _ _
      | exact ih1 _ _ _ _ _ _ _
      | exact colophonlaw15_Large.mono _ _
      | exact colophonlaw15_wakes.mono _
      | exact colophonref15_Copy.mono _ _
      | exact LeO.none _
      | refine LeO.ite ?_ ?_
      | refine LeO.bind ?_ (fun _ => ?_)
set_option maxHeartbeats 8000000 in
set_option maxRecDepth 100000 in
theorem colophonlaw15_EmitJoins.calls (k : Nat) (A0 : Option Addr) (c0 : Nat) (l0 : List (S50)) (A1 : Option Addr) (c1 : Nat) (l1 : List (S50)) (r : Bool) (w : World) (hG : Aside0 (GW w)) (hr0 : Kd.C k50 w A0 l0.length l0) (hc0 : l0.length ≤ c0) (hr1 : Kd.C k50 w A1 l1.length l1) (hc1 : l1.length ≤ c1) (h : colophonlaw15_EmitJoins.f k l0 l1 = some r) :
    Calls Tryd.prog 4 #[.slice A0 l0.length c0, .slice A1 l1.length c1] w fun e w' => e = .returned (.bool r) ∧ Below w.heap.size w w' := by
  have HR0 := Aside0.mk hr0
  have HC0 := Aside0.mk hc0
  clear hr0 hc0
  have HR1 := Aside0.mk hr1
  have HC1 := Aside0.mk hc1
  clear hr1 hc1
  have HB := Aside0.mk (Below.refl w.heap.size w)
  have H : ((colophonlaw15_Large.f k l0).bind fun t133 => (if t133 = true then (colophonlaw15_EmitJoins.j0 k l0 l1 true) else ((colophonlaw15_Large.f k l1).bind fun t134 => (colophonlaw15_EmitJoins.j0 k l0 l1 t134)))) = some r := h
  clear h
  have HC3 := Aside0.mk H
  clear H
  go_enter Tryd.func4, Tryd.ntmps4
  go_upto_region 1 with (fail)
  go_cut [16] (fun v16 wc => ∃ (kq : Nat) (x16_2 : Bool), v16 = .bool x16_2 ∧ Aside0 (colophonlaw15_EmitJoins.j0 kq l0 l1 x16_2 = some r) ∧ Aside0 (kq ≤ k) ∧ Aside0 (Below w.heap.size w wc))
  case first =>
    have H := HC3.out
    clear HC3
    replace H := Option.bind_eq_some_iff.mp H
    obtain ⟨t133, A40, H⟩ := H
    replace H : (if t133 = true then (colophonlaw15_EmitJoins.j0 k l0 l1 true) else ((colophonlaw15_Large.f k l1).bind fun t134 => (colophonlaw15_EmitJoins.j0 k l0 l1 t134))) = some r := H
    have A4 := Aside0.mk A40
    clear A40
    by_cases c5 : t133 = true
    · subst c5
      have H1 : (colophonlaw15_EmitJoins.j0 k l0 l1 true) = some r := by rw [if_pos rfl] at H; exact H
      clear H
      have H := H1
      clear H1
      have H' := Aside0.mk H
      clear H
      go_wp2_with (first | ((with_reducible refine gate_callee (f := 12) rfl ?_); refine goesL_ (some 12) rfl rfl Tryd.func12 (by kernel_rfl) rfl #[.slice A0 l0.length c0] rfl (by (try simp only [List.map_toArray, List.map_cons, List.map_nil]); first | done | rfl | (simp only [List.length_drop, List.length_take]; rfl) | (simp only [Array.mk.injEq, List.cons.injEq, Value.int.injEq, and_true, true_and]; (try unfold wrap64); omega)) ?_; (with_reducible refine (colophonlaw15_Large.calls k _ _ l0 true _ ?side1 ?side2 A4.out).mono ?_); (case side1 => repeat (first | exact (Kd.C_below HR0.out HB.out) | (with_reducible refine Kd.C_alloc ?_ _) | (with_reducible refine Kd.C_drewN ?_ _) | (with_reducible refine Kd.C_drew ?_))); (case side2 => exact HC0.out); rintro e w' ⟨rfl, ⟨nd, rfl⟩⟩; refine ⟨_, rfl, ?_⟩))
      go_meet
      case rel => exact ⟨_, (true), (by first | rfl | (simp; done) | (simp [*]; done) | (simp [ne_nil_]; done)), H', ⟨by first | omega | exact Nat.le_refl _⟩, ⟨by repeat (first | (with_reducible first | exact HB.out | apply below_alloc | apply pw_below_drewN | apply below_drew1) | exact HB.out)⟩⟩
    · replace c5 := Bool.eq_false_iff.mpr c5
      subst c5
      have H1 : ((colophonlaw15_Large.f k l1).bind fun t134 => (colophonlaw15_EmitJoins.j0 k l0 l1 t134)) = some r := by rw [if_neg (show ¬ (false = true) by decide)] at H; exact H
      clear H
      have H := H1
      clear H1
      replace H := Option.bind_eq_some_iff.mp H
      obtain ⟨t134, A60, H⟩ := H
      replace H : (colophonlaw15_EmitJoins.j0 k l0 l1 t134) = some r := H
      have A6 := Aside0.mk A60
      clear A60
      have H' := Aside0.mk H
      clear H
      go_wp2_with (first | ((with_reducible refine gate_callee (f := 12) rfl ?_); refine goesL_ (some 12) rfl rfl Tryd.func12 (by kernel_rfl) rfl #[.slice A0 l0.length c0] rfl (by (try simp only [List.map_toArray, List.map_cons, List.map_nil]); first | done | rfl | (simp only [List.length_drop, List.length_take]; rfl) | (simp only [Array.mk.injEq, List.cons.injEq, Value.int.injEq, and_true, true_and]; (try unfold wrap64); omega)) ?_; (with_reducible refine (colophonlaw15_Large.calls k _ _ l0 false _ ?side1 ?side2 A4.out).mono ?_); (case side1 => repeat (first | exact (Kd.C_below HR0.out HB.out) | (with_reducible refine Kd.C_alloc ?_ _) | (with_reducible refine Kd.C_drewN ?_ _) | (with_reducible refine Kd.C_drew ?_))); (case side2 => exact HC0.out); rintro e w' ⟨rfl, ⟨nd, rfl⟩⟩; refine ⟨_, rfl, ?_⟩) | (go_at_call 12; (with_reducible refine (colophonlaw15_Large.calls k _ _ l1 t134 _ ?side1 ?side2 A6.out).mono ?_); (case side1 => repeat (first | exact (Kd.C_below HR1.out (by repeat (first | (with_reducible first | exact HB.out | apply below_alloc | apply pw_below_drewN | apply below_drew1) | exact HB.out))) | (with_reducible refine Kd.C_alloc ?_ _) | (with_reducible refine Kd.C_drewN ?_ _) | (with_reducible refine Kd.C_drew ?_))); (case side2 => exact HC1.out); rintro e w' ⟨rfl, ⟨nd, rfl⟩⟩))
      go_meet
      case rel => exact ⟨_, (t134), (by first | rfl | (simp; clear A6; done) | (simp [*]; done) | (simp [ne_nil_]; done)), H', ⟨by first | omega | exact Nat.le_refl _⟩, ⟨by repeat (first | (with_reducible first | exact HB.out | apply below_alloc | apply pw_below_drewN | apply below_drew1) | exact HB.out)⟩⟩
  case rest =>
    clear HC3
    try clear c1
    try clear p2
    try clear c4
    try clear c5
    try clear p6
    obtain ⟨kq, x16_2, rfl, HA, HJ2, HB⟩ := hcut
    cases kq with
    | zero => exact absurd HA.out (by simp [colophonlaw15_EmitJoins.j0])
    | succ kj2 =>
      have H := HA.out
      clear HA
      simp only [colophonlaw15_EmitJoins.j0] at H
      by_cases c7 : x16_2 = true
      · subst c7
        have H1 : ((colophonlaw15_wakes.f kj2).bind fun t135 => (some t135)) = some r := by rw [if_pos rfl] at H; exact H
        clear H
        have H := H1
        clear H1
        replace H := Option.bind_eq_some_iff.mp H
        obtain ⟨t135, A80, H⟩ := H
        replace H : (some t135) = some r := H
        have A8 := Aside0.mk A80
        clear A80
        obtain rfl := Option.some.inj H
        go_wp2_with (first | ((with_reducible refine gate_callee (f := 13) rfl ?_); refine goesL_ (some 17) rfl rfl Tryd.func13 (by kernel_rfl) rfl #[] rfl (by (try simp only [List.map_toArray, List.map_cons, List.map_nil]); first | done | rfl | (simp only [List.length_drop, List.length_take]; rfl) | (simp only [Array.mk.injEq, List.cons.injEq, Value.int.injEq, and_true, true_and]; (try unfold wrap64); omega)) ?_; (with_reducible refine (colophonlaw15_wakes.calls kj2  t135 _ ?side1 A8.out).mono ?_); (case side1 => exact GW_below hG (by repeat (first | (with_reducible first | exact HB.out | apply below_alloc | apply pw_below_drewN | apply below_drew1) | exact HB.out))); rintro e w9 ⟨rfl, hb⟩; refine ⟨_, rfl, ?_⟩; have n0_ := Aside0.mk (below_step (by repeat (first | (with_reducible first | exact HB.out | apply below_alloc | apply pw_below_drewN | apply below_drew1) | exact HB.out)) hb); clear HB; have HB := n0_; clear n0_; (try clear hb); (try clear hb2); (try clear hk); (try clear hi)))
        go_ret
        exact ⟨by first | rfl | (simp [errW_none, errW_some] <;> rfl) | (simp [*, errW_none, errW_some] <;> rfl), by repeat (first | (with_reducible first | exact HB.out | apply below_alloc | apply pw_below_drewN | apply below_drew1) | exact HB.out)⟩
      · replace c7 := Bool.eq_false_iff.mpr c7
        subst c7
        have H1 : ((colophonref15_Copy.f kj2 l0).bind fun t136 => ((emit_Emit.f t136).bind fun bt139 => ((colophonref15_Copy.f kj2 l1).bind fun t141 => ((emit_Emit.f t141).bind fun bt144 => ((colophonref15_Copy.f kj2 l0).bind fun t146 => ((colophonref15_Copy.f kj2 l1).bind fun t149 => (if t146.length + t149.length < 1466015503701 then ((emit_Emit.f (t146 ++ t149)).bind fun bt155 => (if bt139.2 = 0 then (if bt144.2 = 0 then (colophonlaw15_EmitJoins.j1 kj2 bt139.1 bt139.2 bt144.1 bt144.2 bt155.1 bt155.2 (bt155.2 != 0)) else (colophonlaw15_EmitJoins.j1 kj2 bt139.1 bt139.2 bt144.1 bt144.2 bt155.1 bt155.2 true)) else (colophonlaw15_EmitJoins.j1 kj2 bt139.1 bt139.2 bt144.1 bt144.2 bt155.1 bt155.2 true))) else (none)))))))) = some r := by rw [if_neg (show ¬ (false = true) by decide)] at H; exact H
        clear H
        have H := H1
        clear H1
        replace H := Option.bind_eq_some_iff.mp H
        obtain ⟨t136, A100, H⟩ := H
        replace H : ((emit_Emit.f t136).bind fun bt139 => ((colophonref15_Copy.f kj2 l1).bind fun t141 => ((emit_Emit.f t141).bind fun bt144 => ((colophonref15_Copy.f kj2 l0).bind fun t146 => ((colophonref15_Copy.f kj2 l1).bind fun t149 => (if t146.length + t149.length < 1466015503701 then ((emit_Emit.f (t146 ++ t149)).bind fun bt155 => (if bt139.2 = 0 then (if bt144.2 = 0 then (colophonlaw15_EmitJoins.j1 kj2 bt139.1 bt139.2 bt144.1 bt144.2 bt155.1 bt155.2 (bt155.2 != 0)) else (colophonlaw15_EmitJoins.j1 kj2 bt139.1 bt139.2 bt144.1 bt144.2 bt155.1 bt155.2 true)) else (colophonlaw15_EmitJoins.j1 kj2 bt139.1 bt139.2 bt144.1 bt144.2 bt155.1 bt155.2 true))) else (none))))))) = some r := H
        have A10 := Aside0.mk A100
        clear A100
        replace H := Option.bind_eq_some_iff.mp H
        obtain ⟨⟨t139, t140⟩, A110, H⟩ := H
        replace H : ((colophonref15_Copy.f kj2 l1).bind fun t141 => ((emit_Emit.f t141).bind fun bt144 => ((colophonref15_Copy.f kj2 l0).bind fun t146 => ((colophonref15_Copy.f kj2 l1).bind fun t149 => (if t146.length + t149.length < 1466015503701 then ((emit_Emit.f (t146 ++ t149)).bind fun bt155 => (if t140 = 0 then (if bt144.2 = 0 then (colophonlaw15_EmitJoins.j1 kj2 t139 t140 bt144.1 bt144.2 bt155.1 bt155.2 (bt155.2 != 0)) else (colophonlaw15_EmitJoins.j1 kj2 t139 t140 bt144.1 bt144.2 bt155.1 bt155.2 true)) else (colophonlaw15_EmitJoins.j1 kj2 t139 t140 bt144.1 bt144.2 bt155.1 bt155.2 true))) else (none)))))) = some r := H
        have A11 := Aside0.mk A110
        clear A110
        replace H := Option.bind_eq_some_iff.mp H
        obtain ⟨t141, A120, H⟩ := H
        replace H : ((emit_Emit.f t141).bind fun bt144 => ((colophonref15_Copy.f kj2 l0).bind fun t146 => ((colophonref15_Copy.f kj2 l1).bind fun t149 => (if t146.length + t149.length < 1466015503701 then ((emit_Emit.f (t146 ++ t149)).bind fun bt155 => (if t140 = 0 then (if bt144.2 = 0 then (colophonlaw15_EmitJoins.j1 kj2 t139 t140 bt144.1 bt144.2 bt155.1 bt155.2 (bt155.2 != 0)) else (colophonlaw15_EmitJoins.j1 kj2 t139 t140 bt144.1 bt144.2 bt155.1 bt155.2 true)) else (colophonlaw15_EmitJoins.j1 kj2 t139 t140 bt144.1 bt144.2 bt155.1 bt155.2 true))) else (none))))) = some r := H
        have A12 := Aside0.mk A120
        clear A120
        replace H := Option.bind_eq_some_iff.mp H
        obtain ⟨⟨t144, t145⟩, A130, H⟩ := H
        replace H : ((colophonref15_Copy.f kj2 l0).bind fun t146 => ((colophonref15_Copy.f kj2 l1).bind fun t149 => (if t146.length + t149.length < 1466015503701 then ((emit_Emit.f (t146 ++ t149)).bind fun bt155 => (if t140 = 0 then (if t145 = 0 then (colophonlaw15_EmitJoins.j1 kj2 t139 t140 t144 t145 bt155.1 bt155.2 (bt155.2 != 0)) else (colophonlaw15_EmitJoins.j1 kj2 t139 t140 t144 t145 bt155.1 bt155.2 true)) else (colophonlaw15_EmitJoins.j1 kj2 t139 t140 t144 t145 bt155.1 bt155.2 true))) else (none)))) = some r := H
        have A13 := Aside0.mk A130
        clear A130
        replace H := Option.bind_eq_some_iff.mp H
        obtain ⟨t146, A140, H⟩ := H
        replace H : ((colophonref15_Copy.f kj2 l1).bind fun t149 => (if t146.length + t149.length < 1466015503701 then ((emit_Emit.f (t146 ++ t149)).bind fun bt155 => (if t140 = 0 then (if t145 = 0 then (colophonlaw15_EmitJoins.j1 kj2 t139 t140 t144 t145 bt155.1 bt155.2 (bt155.2 != 0)) else (colophonlaw15_EmitJoins.j1 kj2 t139 t140 t144 t145 bt155.1 bt155.2 true)) else (colophonlaw15_EmitJoins.j1 kj2 t139 t140 t144 t145 bt155.1 bt155.2 true))) else (none))) = some r := H
        have A14 := Aside0.mk A140
        clear A140
        replace H := Option.bind_eq_some_iff.mp H
        obtain ⟨t149, A150, H⟩ := H
        replace H : (if t146.length + t149.length < 1466015503701 then ((emit_Emit.f (t146 ++ t149)).bind fun bt155 => (if t140 = 0 then (if t145 = 0 then (colophonlaw15_EmitJoins.j1 kj2 t139 t140 t144 t145 bt155.1 bt155.2 (bt155.2 != 0)) else (colophonlaw15_EmitJoins.j1 kj2 t139 t140 t144 t145 bt155.1 bt155.2 true)) else (colophonlaw15_EmitJoins.j1 kj2 t139 t140 t144 t145 bt155.1 bt155.2 true))) else (none)) = some r := H
        have A15 := Aside0.mk A150
        clear A150
        by_cases c16 : t146.length + t149.length < 1466015503701
        · rw [if_pos c16] at H
          have LMc16 := Aside0.mk c16
          clear c16
          obtain ⟨y152, hy152⟩ : ∃ y_ : List (S50), y_ = (t146 ++ t149) := ⟨_, rfl⟩
          replace H : ((emit_Emit.f y152).bind fun bt155 => (if t140 = 0 then (if t145 = 0 then (colophonlaw15_EmitJoins.j1 kj2 t139 t140 t144 t145 bt155.1 bt155.2 (bt155.2 != 0)) else (colophonlaw15_EmitJoins.j1 kj2 t139 t140 t144 t145 bt155.1 bt155.2 true)) else (colophonlaw15_EmitJoins.j1 kj2 t139 t140 t144 t145 bt155.1 bt155.2 true))) = some r := by first | (rw [hy152]; with_reducible exact H) | (have H2_ := (Option.bind_some _ _).symm.trans H; rw [hy152]; with_reducible exact H2_) | (have H2_ := (Option.bind_some _ _).symm.trans H; with_reducible exact H2_) | with_reducible exact H | (rw [hy152]; exact H) | exact H
          have Ny152 := Aside0.mk hy152
          clear hy152
          replace H := Option.bind_eq_some_iff.mp H
          obtain ⟨⟨t155, t156⟩, A170, H⟩ := H
          replace H : (if t140 = 0 then (if t145 = 0 then (colophonlaw15_EmitJoins.j1 kj2 t139 t140 t144 t145 t155 t156 (t156 != 0)) else (colophonlaw15_EmitJoins.j1 kj2 t139 t140 t144 t145 t155 t156 true)) else (colophonlaw15_EmitJoins.j1 kj2 t139 t140 t144 t145 t155 t156 true)) = some r := H
          have A17 := Aside0.mk A170
          clear A170
          have HC18 := Aside0.mk H
          clear H
          go_upto_region 6 with (first | ((with_reducible refine gate_callee (f := 14) rfl ?_); refine goesL_ (some 20) rfl rfl Tryd.func14 (by kernel_rfl) rfl #[.slice A0 l0.length c0] rfl (by (try simp only [List.map_toArray, List.map_cons, List.map_nil]); first | done | rfl | (simp only [List.length_drop, List.length_take]; rfl) | (simp only [Array.mk.injEq, List.cons.injEq, Value.int.injEq, and_true, true_and]; (try unfold wrap64); omega)) ?_; (with_reducible refine (colophonref15_Copy.calls kj2 _ _ l0 t136 _ ?side1 ?side2 A10.out).mono ?_); (case side1 => repeat (first | exact (Kd.C_below HR0.out HB.out) | (with_reducible refine Kd.C_alloc ?_ _) | (with_reducible refine Kd.C_drewN ?_ _) | (with_reducible refine Kd.C_drew ?_))); (case side2 => exact HC0.out); rintro e w19 ⟨v137, rfl, ho0, hb⟩; refine ⟨_, rfl, ?_⟩; have n0_ := Aside0.mk (Kd.N_lower (Kd.N_mono (ok' := fun k_ => True) (Kd.S_N (Kd.S_bound ho0)) (fun k_ hk_ => trivial)) (below_size (by repeat (first | (with_reducible first | exact HB.out | apply below_alloc | apply pw_below_drewN | apply below_drew1) | exact HB.out)))); have n1_ := Aside0.mk (below_step (by repeat (first | (with_reducible first | exact HB.out | apply below_alloc | apply pw_below_drewN | apply below_drew1) | exact HB.out)) hb); clear HB; have HO138 := n0_; have HB := n1_; clear n0_ n1_; (try clear hb); (try clear hb2); (try clear hk); (try clear hi); (try clear ho0); obtain ⟨Ao20, co20, eo20⟩ := Kd.N_slice HO138.out; subst eo20) | ((with_reducible refine gate_callee (f := 15) rfl ?_); refine goesL_ (some 21) rfl rfl Tryd.func15 (by kernel_rfl) rfl #[.slice Ao20 t136.length co20] rfl (by (try simp only [List.map_toArray, List.map_cons, List.map_nil]); first | done | rfl | (simp only [List.length_drop, List.length_take]; rfl) | (simp only [Array.mk.injEq, List.cons.injEq, Value.int.injEq, and_true, true_and]; (try unfold wrap64); omega)) ?_; (with_reducible refine (emit_Emit.calls _ _ t136 t139 t140 _ ?side1 ?side2 ?side3 A11.out).mono ?_); (case side1 => exact GW_below hG (by repeat (first | (with_reducible first | exact HB.out | apply below_alloc | apply pw_below_drewN | apply below_drew1) | exact HB.out))); (case side2 => repeat (first | exact (Kd.N_reads' HO138.out).2.2 | (with_reducible refine Kd.C_alloc ?_ _) | (with_reducible refine Kd.C_drewN ?_ _) | (with_reducible refine Kd.C_drew ?_))); (case side3 => exact (Kd.N_reads' HO138.out).2.1); rintro e w21 ⟨rfl, hb⟩; refine ⟨_, rfl, ?_⟩; have n0_ := Aside0.mk (Kd.N_below (by (with_reducible repeat (first | apply Kd.N_alloc | apply Kd.N_drewN | apply Kd.N_drew)); exact HO138.out) hb); have n1_ := Aside0.mk (below_step (by repeat (first | (with_reducible first | exact HB.out | apply below_alloc | apply pw_below_drewN | apply below_drew1) | exact HB.out)) hb); clear HO138; clear HB; have HO138 := n0_; have HB := n1_; clear n0_ n1_; (try clear hb); (try clear hb2); (try clear hk); (try clear hi)) | ((with_reducible refine gate_callee (f := 14) rfl ?_); refine goesL_ (some 26) rfl rfl Tryd.func14 (by kernel_rfl) rfl #[.slice A1 l1.length c1] rfl (by (try simp only [List.map_toArray, List.map_cons, List.map_nil]); first | done | rfl | (simp only [List.length_drop, List.length_take]; rfl) | (simp only [Array.mk.injEq, List.cons.injEq, Value.int.injEq, and_true, true_and]; (try unfold wrap64); omega)) ?_; (with_reducible refine (colophonref15_Copy.calls kj2 _ _ l1 t141 _ ?side1 ?side2 A12.out).mono ?_); (case side1 => repeat (first | exact (Kd.C_below HR1.out HB.out) | (with_reducible refine Kd.C_alloc ?_ _) | (with_reducible refine Kd.C_drewN ?_ _) | (with_reducible refine Kd.C_drew ?_))); (case side2 => exact HC1.out); rintro e w22 ⟨v142, rfl, ho0, hb⟩; refine ⟨_, rfl, ?_⟩; have n0_ := Aside0.mk (Kd.N_elder' (by (with_reducible repeat (first | apply Kd.N_alloc | apply Kd.N_drewN | apply Kd.N_drew)); exact HO138.out) (Kd.N_base (Kd.S_N (Kd.S_bound ho0))) hb); have n1_ := Aside0.mk (Kd.N_lower (Kd.N_mono (ok' := fun k_ => some k_ ≠ (.slice Ao20 t136.length co20 : Value).ownBlock) (Kd.S_N (Kd.S_bound ho0)) (fun k_ hk_ => (Kd.fresh' (Kd.N_lt (by (with_reducible repeat (first | apply Kd.N_alloc | apply Kd.N_drewN | apply Kd.N_drew)); exact HO138.out)) k_ hk_.2.1))) (below_size (by repeat (first | (with_reducible first | exact HB.out | apply below_alloc | apply pw_below_drewN | apply below_drew1) | exact HB.out)))); have n2_ := Aside0.mk (below_step (by repeat (first | (with_reducible first | exact HB.out | apply below_alloc | apply pw_below_drewN | apply below_drew1) | exact HB.out)) hb); clear HO138; clear HB; have HO138 := n0_; have HO143 := n1_; have HB := n2_; clear n0_ n1_ n2_; (try clear hb); (try clear hb2); (try clear hk); (try clear hi); (try clear ho0); obtain ⟨Ao23, co23, eo23⟩ := Kd.N_slice HO143.out; subst eo23) | ((with_reducible refine gate_callee (f := 15) rfl ?_); refine goesL_ (some 27) rfl rfl Tryd.func15 (by kernel_rfl) rfl #[.slice Ao23 t141.length co23] rfl (by (try simp only [List.map_toArray, List.map_cons, List.map_nil]); first | done | rfl | (simp only [List.length_drop, List.length_take]; rfl) | (simp only [Array.mk.injEq, List.cons.injEq, Value.int.injEq, and_true, true_and]; (try unfold wrap64); omega)) ?_; (with_reducible refine (emit_Emit.calls _ _ t141 t144 t145 _ ?side1 ?side2 ?side3 A13.out).mono ?_); (case side1 => exact GW_below hG (by repeat (first | (with_reducible first | exact HB.out | apply below_alloc | apply pw_below_drewN | apply below_drew1) | exact HB.out))); (case side2 => repeat (first | exact (Kd.N_reads' HO143.out).2.2 | (with_reducible refine Kd.C_alloc ?_ _) | (with_reducible refine Kd.C_drewN ?_ _) | (with_reducible refine Kd.C_drew ?_))); (case side3 => exact (Kd.N_reads' HO143.out).2.1); rintro e w24 ⟨rfl, hb⟩; refine ⟨_, rfl, ?_⟩; have n0_ := Aside0.mk (Kd.N_below (by (with_reducible repeat (first | apply Kd.N_alloc | apply Kd.N_drewN | apply Kd.N_drew)); exact HO138.out) hb); have n1_ := Aside0.mk (Kd.N_below (by (with_reducible repeat (first | apply Kd.N_alloc | apply Kd.N_drewN | apply Kd.N_drew)); exact HO143.out) hb); have n2_ := Aside0.mk (below_step (by repeat (first | (with_reducible first | exact HB.out | apply below_alloc | apply pw_below_drewN | apply below_drew1) | exact HB.out)) hb); clear HO138; clear HO143; clear HB; have HO138 := n0_; have HO143 := n1_; have HB := n2_; clear n0_ n1_ n2_; (try clear hb); (try clear hb2); (try clear hk); (try clear hi)) | ((with_reducible refine gate_callee (f := 14) rfl ?_); refine goesL_ (some 32) rfl rfl Tryd.func14 (by kernel_rfl) rfl #[.slice A0 l0.length c0] rfl (by (try simp only [List.map_toArray, List.map_cons, List.map_nil]); first | done | rfl | (simp only [List.length_drop, List.length_take]; rfl) | (simp only [Array.mk.injEq, List.cons.injEq, Value.int.injEq, and_true, true_and]; (try unfold wrap64); omega)) ?_; (with_reducible refine (colophonref15_Copy.calls kj2 _ _ l0 t146 _ ?side1 ?side2 A14.out).mono ?_); (case side1 => repeat (first | exact (Kd.C_below HR0.out HB.out) | (with_reducible refine Kd.C_alloc ?_ _) | (with_reducible refine Kd.C_drewN ?_ _) | (with_reducible refine Kd.C_drew ?_))); (case side2 => exact HC0.out); rintro e w25 ⟨v147, rfl, ho0, hb⟩; refine ⟨_, rfl, ?_⟩; have n0_ := Aside0.mk (Kd.N_elder' (by (with_reducible repeat (first | apply Kd.N_alloc | apply Kd.N_drewN | apply Kd.N_drew)); exact HO138.out) (Kd.N_base (Kd.S_N (Kd.S_bound ho0))) hb); have n1_ := Aside0.mk (Kd.N_elder' (by (with_reducible repeat (first | apply Kd.N_alloc | apply Kd.N_drewN | apply Kd.N_drew)); exact HO143.out) (Kd.N_base (Kd.S_N (Kd.S_bound ho0))) hb); have n2_ := Aside0.mk (Kd.N_lower (Kd.N_mono (ok' := fun k_ => some k_ ≠ (.slice Ao20 t136.length co20 : Value).ownBlock ∧ some k_ ≠ (.slice Ao23 t141.length co23 : Value).ownBlock) (Kd.S_N (Kd.S_bound ho0)) (fun k_ hk_ => ⟨(Kd.fresh' (Kd.N_lt (by (with_reducible repeat (first | apply Kd.N_alloc | apply Kd.N_drewN | apply Kd.N_drew)); exact HO138.out)) k_ hk_.2.1), (Kd.fresh' (Kd.N_lt (by (with_reducible repeat (first | apply Kd.N_alloc | apply Kd.N_drewN | apply Kd.N_drew)); exact HO143.out)) k_ hk_.2.1)⟩)) (below_size (by repeat (first | (with_reducible first | exact HB.out | apply below_alloc | apply pw_below_drewN | apply below_drew1) | exact HB.out)))); have n3_ := Aside0.mk (below_step (by repeat (first | (with_reducible first | exact HB.out | apply below_alloc | apply pw_below_drewN | apply below_drew1) | exact HB.out)) hb); clear HO138; clear HO143; clear HB; have HO138 := n0_; have HO143 := n1_; have HO148 := n2_; have HB := n3_; clear n0_ n1_ n2_ n3_; (try clear hb); (try clear hb2); (try clear hk); (try clear hi); (try clear ho0)) | ((with_reducible refine gate_callee (f := 14) rfl ?_); refine goesL_ (some 34) rfl rfl Tryd.func14 (by kernel_rfl) rfl #[.slice A1 l1.length c1] rfl (by (try simp only [List.map_toArray, List.map_cons, List.map_nil]); first | done | rfl | (simp only [List.length_drop, List.length_take]; rfl) | (simp only [Array.mk.injEq, List.cons.injEq, Value.int.injEq, and_true, true_and]; (try unfold wrap64); omega)) ?_; (with_reducible refine (colophonref15_Copy.calls kj2 _ _ l1 t149 _ ?side1 ?side2 A15.out).mono ?_); (case side1 => repeat (first | exact (Kd.C_below HR1.out HB.out) | (with_reducible refine Kd.C_alloc ?_ _) | (with_reducible refine Kd.C_drewN ?_ _) | (with_reducible refine Kd.C_drew ?_))); (case side2 => exact HC1.out); rintro e w26 ⟨v150, rfl, ho0, hb⟩; refine ⟨_, rfl, ?_⟩; have n0_ := Aside0.mk (Kd.N_elder' (by (with_reducible repeat (first | apply Kd.N_alloc | apply Kd.N_drewN | apply Kd.N_drew)); exact HO138.out) (Kd.N_base (Kd.S_N (Kd.S_bound ho0))) hb); have n1_ := Aside0.mk (Kd.N_elder' (by (with_reducible repeat (first | apply Kd.N_alloc | apply Kd.N_drewN | apply Kd.N_drew)); exact HO143.out) (Kd.N_base (Kd.S_N (Kd.S_bound ho0))) hb); have n2_ := Aside0.mk (Kd.N_elder' (by (with_reducible repeat (first | apply Kd.N_alloc | apply Kd.N_drewN | apply Kd.N_drew)); exact HO148.out) (Kd.N_base (Kd.S_N (Kd.S_bound ho0))) hb); have n3_ := Aside0.mk (Kd.N_lower (Kd.N_mono (ok' := fun k_ => some k_ ≠ (.slice Ao20 t136.length co20 : Value).ownBlock ∧ some k_ ≠ (.slice Ao23 t141.length co23 : Value).ownBlock ∧ some k_ ≠ (v147 : Value).ownBlock) (Kd.S_N (Kd.S_bound ho0)) (fun k_ hk_ => ⟨(Kd.fresh' (Kd.N_lt (by (with_reducible repeat (first | apply Kd.N_alloc | apply Kd.N_drewN | apply Kd.N_drew)); exact HO138.out)) k_ hk_.2.1), (Kd.fresh' (Kd.N_lt (by (with_reducible repeat (first | apply Kd.N_alloc | apply Kd.N_drewN | apply Kd.N_drew)); exact HO143.out)) k_ hk_.2.1), (Kd.fresh' (Kd.N_lt (by (with_reducible repeat (first | apply Kd.N_alloc | apply Kd.N_drewN | apply Kd.N_drew)); exact HO148.out)) k_ hk_.2.1)⟩)) (below_size (by repeat (first | (with_reducible first | exact HB.out | apply below_alloc | apply pw_below_drewN | apply below_drew1) | exact HB.out)))); have n4_ := Aside0.mk (below_step (by repeat (first | (with_reducible first | exact HB.out | apply below_alloc | apply pw_below_drewN | apply below_drew1) | exact HB.out)) hb); clear HO138; clear HO143; clear HO148; clear HB; have HO138 := n0_; have HO143 := n1_; have HO148 := n2_; have HO151 := n3_; have HB := n4_; clear n0_ n1_ n2_ n3_ n4_; (try clear hb); (try clear hb2); (try clear hk); (try clear hi); (try clear ho0); obtain ⟨Ao28, co28, eo28⟩ := Kd.N_slice HO151.out; subst eo28) | ((with_reducible refine gate_builtin (b := .append) (xs := #[.tmp 32, .tmp 34]) rfl ?_); at_builtin; refine Kd.N_append_rows k50 (w0 := w) w.heap.size rfl (.tmp 32) (.tmp 34) 22 50 (.agg #[(.int .i64 0), (.int .i64 0), (.int .i64 0), (.int .i64 0), (.int .i64 0), (.slice none 0 0), (.int .i64 0), (.int .i64 0), (.int .i64 0), (.int .i64 0)]) 96 rfl Tryd.underlying22 info50 rfl (by decide) (by omega) v147 t146 t149 _ _ _ (fun k_ => some k_ ≠ (.slice Ao20 t136.length co20 : Value).ownBlock ∧ some k_ ≠ (.slice Ao23 t141.length co23 : Value).ownBlock) (fun k_ => ((fun k_ => some k_ ≠ (.slice Ao20 t136.length co20 : Value).ownBlock ∧ some k_ ≠ (.slice Ao23 t141.length co23 : Value).ownBlock)) k_ ∧ some k_ ≠ (v147 : Value).ownBlock) rfl rfl ?aO ?aR (fun _ hk => hk) ?aF ?aB ?aS ?aL ?_; (case aR => exact (by skip; exact Kd.N_F (Kd.N_mono (ok' := (fun k_ => ((fun k_ => some k_ ≠ (.slice Ao20 t136.length co20 : Value).ownBlock ∧ some k_ ≠ (.slice Ao23 t141.length co23 : Value).ownBlock)) k_ ∧ some k_ ≠ (v147 : Value).ownBlock)) (HO151.out) (fun k_ hk => ⟨⟨hk.1, hk.2.1⟩, hk.2.2⟩)))); (case aB => exact (by repeat (first | (with_reducible first | exact HB.out | apply below_alloc | apply pw_below_drewN | apply below_drew1) | exact HB.out))); (case aF => exact (fun k_ hk => ⟨Kd.fresh' (Kd.N_lt (by (with_reducible repeat (first | apply Kd.N_alloc | apply Kd.N_drewN | apply Kd.N_drew)); exact HO138.out)) k_ hk, Kd.fresh' (Kd.N_lt (by (with_reducible repeat (first | apply Kd.N_alloc | apply Kd.N_drewN | apply Kd.N_drew)); exact HO143.out)) k_ hk⟩)); (case aO => exact (by (with_reducible repeat (first | apply Kd.N_alloc | apply Kd.N_drewN | apply Kd.N_drew)); exact Kd.N_mono HO148.out (fun _ hk => ⟨hk.1.1, hk.1.2⟩))); (case aS => exact (below_size (by repeat (first | (with_reducible first | exact HB.out | apply below_alloc | apply pw_below_drewN | apply below_drew1) | exact HB.out)))); (case aL => have := LMc16.out; omega); intro v153 w27 ho hb hg hat; rw [← Ny152.out] at ho; have n0_ := Aside0.mk (Kd.N_afterv (ok := (fun k_ => some k_ ≠ (.slice Ao23 t141.length co23 : Value).ownBlock ∧ some k_ ≠ (.slice Ao28 t149.length co28 : Value).ownBlock)) (by (with_reducible repeat (first | apply Kd.N_alloc | apply Kd.N_drewN | apply Kd.N_drew)); exact Kd.N_mono HO138.out (fun _ hk => ⟨⟨hk.1.1.2, hk.2⟩, hk.1.2⟩)) hg hat); have n1_ := Aside0.mk (Kd.N_afterv (ok := (fun k_ => some k_ ≠ (.slice Ao20 t136.length co20 : Value).ownBlock ∧ some k_ ≠ (.slice Ao28 t149.length co28 : Value).ownBlock)) (by (with_reducible repeat (first | apply Kd.N_alloc | apply Kd.N_drewN | apply Kd.N_drew)); exact Kd.N_mono HO143.out (fun _ hk => ⟨⟨hk.1.1, hk.2⟩, hk.1.2⟩)) hg hat); have n2_ := Aside0.mk (Kd.N_afterv (ok := (fun k_ => some k_ ≠ (.slice Ao20 t136.length co20 : Value).ownBlock ∧ some k_ ≠ (.slice Ao23 t141.length co23 : Value).ownBlock)) (by (with_reducible repeat (first | apply Kd.N_alloc | apply Kd.N_drewN | apply Kd.N_drew)); exact Kd.N_mono HO151.out (fun _ hk => ⟨⟨hk.1, hk.2.1⟩, hk.2.2⟩)) hg hat); have n3_ := Aside0.mk (hb); have n4_ := Aside0.mk (ho); clear HO138; clear HO143; clear HO151; clear HB; clear HO148; have HO138 := n0_; have HO143 := n1_; have HO151 := n2_; have HB := n3_; have HO154 := n4_; clear n0_ n1_ n2_ n3_ n4_; clear ho hb hg hat; obtain ⟨Ao29, co29, eo29⟩ := Kd.N_slice HO154.out; subst eo29) | ((with_reducible refine gate_callee (f := 15) rfl ?_); refine goesL_ (some 36) rfl rfl Tryd.func15 (by kernel_rfl) rfl #[.slice Ao29 y152.length co29] rfl (by (try simp only [List.map_toArray, List.map_cons, List.map_nil]); first | done | rfl | (simp only [List.length_drop, List.length_take]; rfl) | (simp only [Array.mk.injEq, List.cons.injEq, Value.int.injEq, and_true, true_and]; (try unfold wrap64); omega)) ?_; (with_reducible refine (emit_Emit.calls _ _ y152 t155 t156 _ ?side1 ?side2 ?side3 A17.out).mono ?_); (case side1 => exact GW_below hG (by repeat (first | (with_reducible first | exact HB.out | apply below_alloc | apply pw_below_drewN | apply below_drew1) | exact HB.out))); (case side2 => repeat (first | exact (Kd.N_reads' HO154.out).2.2 | (with_reducible refine Kd.C_alloc ?_ _) | (with_reducible refine Kd.C_drewN ?_ _) | (with_reducible refine Kd.C_drew ?_))); (case side3 => exact (Kd.N_reads' HO154.out).2.1); rintro e w30 ⟨rfl, hb⟩; refine ⟨_, rfl, ?_⟩; have n0_ := Aside0.mk (Kd.N_below (by (with_reducible repeat (first | apply Kd.N_alloc | apply Kd.N_drewN | apply Kd.N_drew)); exact HO138.out) hb); have n1_ := Aside0.mk (Kd.N_below (by (with_reducible repeat (first | apply Kd.N_alloc | apply Kd.N_drewN | apply Kd.N_drew)); exact HO143.out) hb); have n2_ := Aside0.mk (Kd.N_below (by (with_reducible repeat (first | apply Kd.N_alloc | apply Kd.N_drewN | apply Kd.N_drew)); exact HO151.out) hb); have n3_ := Aside0.mk (Kd.N_below (by (with_reducible repeat (first | apply Kd.N_alloc | apply Kd.N_drewN | apply Kd.N_drew)); exact HO154.out) hb); have n4_ := Aside0.mk (below_step (by repeat (first | (with_reducible first | exact HB.out | apply below_alloc | apply pw_below_drewN | apply below_drew1) | exact HB.out)) hb); clear HO138; clear HO143; clear HO151; clear HO154; clear HB; have HO138 := n0_; have HO143 := n1_; have HO151 := n2_; have HO154 := n3_; have HB := n4_; clear n0_ n1_ n2_ n3_ n4_; (try clear hb); (try clear hb2); (try clear hk); (try clear hi)))
          (try simp only [Act.put, List.setIfInBounds_toArray, List.set_cons_zero, List.set_cons_succ])
          go_cut [48] (fun v48 wc => ∃ (kq : Nat) (x48_17 : Bool), v48 = .bool x48_17 ∧ Aside0 (colophonlaw15_EmitJoins.j1 kq t139 t140 t144 t145 t155 t156 x48_17 = some r) ∧ Aside0 (kq ≤ kj2) ∧ Aside0 (Below w.heap.size w wc))
          case first =>
            have H := HC18.out
            clear HC18
            by_cases c31 : t140 = 0
            · rw [if_pos c31] at H
              have c31b0 : (t140 == 0) = true := beq_iff_eq.mpr c31
              have c31b1 : (t140 != 0) = false := bne_eq_false_iff_eq.mpr c31
              clear c31
              (first | rw [c31b0] | (simp only [i64_w, i32_w]; rw [c31b0]) | skip)
              by_cases c32 : t145 = 0
              · rw [if_pos c32] at H
                have c32b0 : (t145 == 0) = true := beq_iff_eq.mpr c32
                have c32b1 : (t145 != 0) = false := bne_eq_false_iff_eq.mpr c32
                clear c32
                have H' := Aside0.mk H
                clear H
                go_wp2
                go_meet
                case rel => exact ⟨_, ((t156 != 0)), (by first | rfl | (simp; done) | (simp [*]; done) | (simp [ne_nil_]; done)), H', ⟨by have := HJ2.out; first | omega | exact Nat.le_refl _⟩, ⟨by repeat (first | (with_reducible first | exact HB.out | apply below_alloc | apply pw_below_drewN | apply below_drew1) | exact HB.out)⟩⟩
              · rw [if_neg c32] at H
                have c32b0 : (t145 == 0) = false := beq_eq_false_iff_ne.mpr c32
                have c32b1 : (t145 != 0) = true := bne_iff_ne.mpr c32
                have H' := Aside0.mk H
                clear H
                go_wp2
                go_meet
                case rel => exact ⟨_, (true), (by first | rfl | (simp; done) | (simp [*]; done) | (simp [ne_nil_]; done)), H', ⟨by have := HJ2.out; first | omega | exact Nat.le_refl _⟩, ⟨by repeat (first | (with_reducible first | exact HB.out | apply below_alloc | apply pw_below_drewN | apply below_drew1) | exact HB.out)⟩⟩
            · rw [if_neg c31] at H
              have c31b0 : (t140 == 0) = false := beq_eq_false_iff_ne.mpr c31
              have c31b1 : (t140 != 0) = true := bne_iff_ne.mpr c31
              (first | rw [c31b0] | (simp only [i64_w, i32_w]; rw [c31b0]) | skip)
              have H' := Aside0.mk H
              clear H
              go_wp2
              go_meet
              case rel => exact ⟨_, (true), (by first | rfl | (simp; done) | (simp [*]; done) | (simp [ne_nil_]; done)), H', ⟨by have := HJ2.out; first | omega | exact Nat.le_refl _⟩, ⟨by repeat (first | (with_reducible first | exact HB.out | apply below_alloc | apply pw_below_drewN | apply below_drew1) | exact HB.out)⟩⟩
          case rest =>
            clear HC18
            try clear c1
            try clear p2
            try clear c3
            try clear c4
            try clear c5
            try clear p6
            try clear c7
            try clear c12
            try clear c13
            try clear c14
            try clear c15
            try clear c16
            try clear c31
            try clear c31b0
            try clear c31b1
            try clear c32
            try clear c32b0
            try clear c32b1
            try clear p2
            try clear p6
            obtain ⟨kq, x48_17, rfl, HA, HJ17, HB⟩ := hcut
            cases kq with
            | zero => exact absurd HA.out (by simp [colophonlaw15_EmitJoins.j1])
            | succ kj17 =>
              have H := HA.out
              clear HA
              simp only [colophonlaw15_EmitJoins.j1] at H
              by_cases c33 : x48_17 = true
              · subst c33
                have H1 : (if t140 = 0 then (if t145 = 0 then (if t156 = 0 then ((colophonlaw15_wakes.f kj17).bind fun t157 => (some t157)) else (if t155.toList = ([] : List UInt8) then ((colophonlaw15_wakes.f kj17).bind fun t158 => (some t158)) else (some false))) else (if t144.toList = ([] : List UInt8) then (if t156 = 0 then ((colophonlaw15_wakes.f kj17).bind fun t159 => (some t159)) else (if t155.toList = ([] : List UInt8) then ((colophonlaw15_wakes.f kj17).bind fun t160 => (some t160)) else (some false))) else (some false))) else (if t139.toList = ([] : List UInt8) then (if t145 = 0 then (if t156 = 0 then ((colophonlaw15_wakes.f kj17).bind fun t161 => (some t161)) else (if t155.toList = ([] : List UInt8) then ((colophonlaw15_wakes.f kj17).bind fun t162 => (some t162)) else (some false))) else (if t144.toList = ([] : List UInt8) then (if t156 = 0 then ((colophonlaw15_wakes.f kj17).bind fun t163 => (some t163)) else (if t155.toList = ([] : List UInt8) then ((colophonlaw15_wakes.f kj17).bind fun t164 => (some t164)) else (some false))) else (some false))) else (some false))) = some r := by rw [if_pos rfl] at H; exact H
                clear H
                have H := H1
                clear H1
                by_cases c34 : t140 = 0
                · rw [if_pos c34] at H
                  have c34b0 : (t140 == 0) = true := beq_iff_eq.mpr c34
                  have c34b1 : (t140 != 0) = false := bne_eq_false_iff_eq.mpr c34
                  clear c34
                  by_cases c35 : t145 = 0
                  · rw [if_pos c35] at H
                    have c35b0 : (t145 == 0) = true := beq_iff_eq.mpr c35
                    have c35b1 : (t145 != 0) = false := bne_eq_false_iff_eq.mpr c35
                    clear c35
                    by_cases c36 : t156 = 0
                    · rw [if_pos c36] at H
                      have c36b0 : (t156 == 0) = true := beq_iff_eq.mpr c36
                      have c36b1 : (t156 != 0) = false := bne_eq_false_iff_eq.mpr c36
                      clear c36
                      replace H := Option.bind_eq_some_iff.mp H
                      obtain ⟨t157, A370, H⟩ := H
                      replace H : (some t157) = some r := H
                      have A37 := Aside0.mk A370
                      clear A370
                      obtain rfl := Option.some.inj H
                      go_wp2_with (first | (go_at_call 13; (with_reducible refine (colophonlaw15_wakes.calls kj17  t157 _ ?side1 A37.out).mono ?_); (case side1 => exact GW_below hG (by repeat (first | (with_reducible first | exact HB.out | apply below_alloc | apply pw_below_drewN | apply below_drew1) | exact HB.out))); rintro e w38 ⟨rfl, hb⟩; clear A37; have n0_ := Aside0.mk (below_step (by repeat (first | (with_reducible first | exact HB.out | apply below_alloc | apply pw_below_drewN | apply below_drew1) | exact HB.out)) hb); clear HB; have HB := n0_; clear n0_; (try clear hb); (try clear hb2); (try clear hk); (try clear hi)))
                      go_ret
                      exact ⟨by first | rfl | (simp [errW_none, errW_some] <;> rfl) | (simp [*, errW_none, errW_some] <;> rfl), by repeat (first | (with_reducible first | exact HB.out | apply below_alloc | apply pw_below_drewN | apply below_drew1) | exact HB.out)⟩
                    · rw [if_neg c36] at H
                      have c36b0 : (t156 == 0) = false := beq_eq_false_iff_ne.mpr c36
                      have c36b1 : (t156 != 0) = true := bne_iff_ne.mpr c36
                      by_cases c39 : t155.toList = ([] : List UInt8)
                      · rw [if_pos c39] at H
                        have c39b0 : (t155.toList == ([] : List UInt8)) = true := beq_iff_eq.mpr c39
                        have c39b1 : (t155.toList != ([] : List UInt8)) = false := bne_eq_false_iff_eq.mpr c39
                        clear c39
                        replace H := Option.bind_eq_some_iff.mp H
                        obtain ⟨t158, A400, H⟩ := H
                        replace H : (some t158) = some r := H
                        have A40 := Aside0.mk A400
                        clear A400
                        obtain rfl := Option.some.inj H
                        go_wp2_with (first | (go_at_call 13; (with_reducible refine (colophonlaw15_wakes.calls kj17  t158 _ ?side1 A40.out).mono ?_); (case side1 => exact GW_below hG (by repeat (first | (with_reducible first | exact HB.out | apply below_alloc | apply pw_below_drewN | apply below_drew1) | exact HB.out))); rintro e w41 ⟨rfl, hb⟩; clear A40; have n0_ := Aside0.mk (below_step (by repeat (first | (with_reducible first | exact HB.out | apply below_alloc | apply pw_below_drewN | apply below_drew1) | exact HB.out)) hb); clear HB; have HB := n0_; clear n0_; (try clear hb); (try clear hb2); (try clear hk); (try clear hi)))
                        go_ret
                        exact ⟨by first | rfl | (simp [errW_none, errW_some] <;> rfl) | (simp [*, errW_none, errW_some] <;> rfl), by repeat (first | (with_reducible first | exact HB.out | apply below_alloc | apply pw_below_drewN | apply below_drew1) | exact HB.out)⟩
                      · rw [if_neg c39] at H
                        have c39b0 : (t155.toList == ([] : List UInt8)) = false := beq_eq_false_iff_ne.mpr c39
                        have c39b1 : (t155.toList != ([] : List UInt8)) = true := bne_iff_ne.mpr c39
                        obtain rfl := Option.some.inj H
                        go_wp2
                        go_ret
                        exact ⟨by first | rfl | (simp [errW_none, errW_some] <;> rfl) | (simp [*, errW_none, errW_some] <;> rfl), by repeat (first | (with_reducible first | exact HB.out | apply below_alloc | apply pw_below_drewN | apply below_drew1) | exact HB.out)⟩
                  · rw [if_neg c35] at H
                    have c35b0 : (t145 == 0) = false := beq_eq_false_iff_ne.mpr c35
                    have c35b1 : (t145 != 0) = true := bne_iff_ne.mpr c35
                    by_cases c42 : t144.toList = ([] : List UInt8)
                    · rw [if_pos c42] at H
                      have c42b0 : (t144.toList == ([] : List UInt8)) = true := beq_iff_eq.mpr c42
                      have c42b1 : (t144.toList != ([] : List UInt8)) = false := bne_eq_false_iff_eq.mpr c42
                      clear c42
                      by_cases c43 : t156 = 0
                      · rw [if_pos c43] at H
                        have c43b0 : (t156 == 0) = true := beq_iff_eq.mpr c43
                        have c43b1 : (t156 != 0) = false := bne_eq_false_iff_eq.mpr c43
                        clear c43
                        replace H := Option.bind_eq_some_iff.mp H
                        obtain ⟨t159, A440, H⟩ := H
                        replace H : (some t159) = some r := H
                        have A44 := Aside0.mk A440
                        clear A440
                        obtain rfl := Option.some.inj H
                        go_wp2_with (first | (go_at_call 13; (with_reducible refine (colophonlaw15_wakes.calls kj17  t159 _ ?side1 A44.out).mono ?_); (case side1 => exact GW_below hG (by repeat (first | (with_reducible first | exact HB.out | apply below_alloc | apply pw_below_drewN | apply below_drew1) | exact HB.out))); rintro e w45 ⟨rfl, hb⟩; clear A44; have n0_ := Aside0.mk (below_step (by repeat (first | (with_reducible first | exact HB.out | apply below_alloc | apply pw_below_drewN | apply below_drew1) | exact HB.out)) hb); clear HB; have HB := n0_; clear n0_; (try clear hb); (try clear hb2); (try clear hk); (try clear hi)))
                        go_ret
                        exact ⟨by first | rfl | (simp [errW_none, errW_some] <;> rfl) | (simp [*, errW_none, errW_some] <;> rfl), by repeat (first | (with_reducible first | exact HB.out | apply below_alloc | apply pw_below_drewN | apply below_drew1) | exact HB.out)⟩
                      · rw [if_neg c43] at H
                        have c43b0 : (t156 == 0) = false := beq_eq_false_iff_ne.mpr c43
                        have c43b1 : (t156 != 0) = true := bne_iff_ne.mpr c43
                        by_cases c46 : t155.toList = ([] : List UInt8)
                        · rw [if_pos c46] at H
                          have c46b0 : (t155.toList == ([] : List UInt8)) = true := beq_iff_eq.mpr c46
                          have c46b1 : (t155.toList != ([] : List UInt8)) = false := bne_eq_false_iff_eq.mpr c46
                          clear c46
                          replace H := Option.bind_eq_some_iff.mp H
                          obtain ⟨t160, A470, H⟩ := H
                          replace H : (some t160) = some r := H
                          have A47 := Aside0.mk A470
                          clear A470
                          obtain rfl := Option.some.inj H
                          go_wp2_with (first | (go_at_call 13; (with_reducible refine (colophonlaw15_wakes.calls kj17  t160 _ ?side1 A47.out).mono ?_); (case side1 => exact GW_below hG (by repeat (first | (with_reducible first | exact HB.out | apply below_alloc | apply pw_below_drewN | apply below_drew1) | exact HB.out))); rintro e w48 ⟨rfl, hb⟩; clear A47; have n0_ := Aside0.mk (below_step (by repeat (first | (with_reducible first | exact HB.out | apply below_alloc | apply pw_below_drewN | apply below_drew1) | exact HB.out)) hb); clear HB; have HB := n0_; clear n0_; (try clear hb); (try clear hb2); (try clear hk); (try clear hi)))
                          go_ret
                          exact ⟨by first | rfl | (simp [errW_none, errW_some] <;> rfl) | (simp [*, errW_none, errW_some] <;> rfl), by repeat (first | (with_reducible first | exact HB.out | apply below_alloc | apply pw_below_drewN | apply below_drew1) | exact HB.out)⟩
                        · rw [if_neg c46] at H
                          have c46b0 : (t155.toList == ([] : List UInt8)) = false := beq_eq_false_iff_ne.mpr c46
                          have c46b1 : (t155.toList != ([] : List UInt8)) = true := bne_iff_ne.mpr c46
                          obtain rfl := Option.some.inj H
                          go_wp2
                          go_ret
                          exact ⟨by first | rfl | (simp [errW_none, errW_some] <;> rfl) | (simp [*, errW_none, errW_some] <;> rfl), by repeat (first | (with_reducible first | exact HB.out | apply below_alloc | apply pw_below_drewN | apply below_drew1) | exact HB.out)⟩
                    · rw [if_neg c42] at H
                      have c42b0 : (t144.toList == ([] : List UInt8)) = false := beq_eq_false_iff_ne.mpr c42
                      have c42b1 : (t144.toList != ([] : List UInt8)) = true := bne_iff_ne.mpr c42
                      obtain rfl := Option.some.inj H
                      go_wp2
                      go_ret
                      exact ⟨by first | rfl | (simp [errW_none, errW_some] <;> rfl) | (simp [*, errW_none, errW_some] <;> rfl), by repeat (first | (with_reducible first | exact HB.out | apply below_alloc | apply pw_below_drewN | apply below_drew1) | exact HB.out)⟩
                · rw [if_neg c34] at H
                  have c34b0 : (t140 == 0) = false := beq_eq_false_iff_ne.mpr c34
                  have c34b1 : (t140 != 0) = true := bne_iff_ne.mpr c34
                  by_cases c49 : t139.toList = ([] : List UInt8)
                  · rw [if_pos c49] at H
                    have c49b0 : (t139.toList == ([] : List UInt8)) = true := beq_iff_eq.mpr c49
                    have c49b1 : (t139.toList != ([] : List UInt8)) = false := bne_eq_false_iff_eq.mpr c49
                    clear c49
                    by_cases c50 : t145 = 0
                    · rw [if_pos c50] at H
                      have c50b0 : (t145 == 0) = true := beq_iff_eq.mpr c50
                      have c50b1 : (t145 != 0) = false := bne_eq_false_iff_eq.mpr c50
                      clear c50
                      by_cases c51 : t156 = 0
                      · rw [if_pos c51] at H
                        have c51b0 : (t156 == 0) = true := beq_iff_eq.mpr c51
                        have c51b1 : (t156 != 0) = false := bne_eq_false_iff_eq.mpr c51
                        clear c51
                        replace H := Option.bind_eq_some_iff.mp H
                        obtain ⟨t161, A520, H⟩ := H
                        replace H : (some t161) = some r := H
                        have A52 := Aside0.mk A520
                        clear A520
                        obtain rfl := Option.some.inj H
                        go_wp2_with (first | (go_at_call 13; (with_reducible refine (colophonlaw15_wakes.calls kj17  t161 _ ?side1 A52.out).mono ?_); (case side1 => exact GW_below hG (by repeat (first | (with_reducible first | exact HB.out | apply below_alloc | apply pw_below_drewN | apply below_drew1) | exact HB.out))); rintro e w53 ⟨rfl, hb⟩; clear A52; have n0_ := Aside0.mk (below_step (by repeat (first | (with_reducible first | exact HB.out | apply below_alloc | apply pw_below_drewN | apply below_drew1) | exact HB.out)) hb); clear HB; have HB := n0_; clear n0_; (try clear hb); (try clear hb2); (try clear hk); (try clear hi)))
                        go_ret
                        exact ⟨by first | rfl | (simp [errW_none, errW_some] <;> rfl) | (simp [*, errW_none, errW_some] <;> rfl), by repeat (first | (with_reducible first | exact HB.out | apply below_alloc | apply pw_below_drewN | apply below_drew1) | exact HB.out)⟩
                      · rw [if_neg c51] at H
                        have c51b0 : (t156 == 0) = false := beq_eq_false_iff_ne.mpr c51
                        have c51b1 : (t156 != 0) = true := bne_iff_ne.mpr c51
                        by_cases c54 : t155.toList = ([] : List UInt8)
                        · rw [if_pos c54] at H
                          have c54b0 : (t155.toList == ([] : List UInt8)) = true := beq_iff_eq.mpr c54
                          have c54b1 : (t155.toList != ([] : List UInt8)) = false := bne_eq_false_iff_eq.mpr c54
                          clear c54
                          replace H := Option.bind_eq_some_iff.mp H
                          obtain ⟨t162, A550, H⟩ := H
                          replace H : (some t162) = some r := H
                          have A55 := Aside0.mk A550
                          clear A550
                          obtain rfl := Option.some.inj H
                          go_wp2_with (first | (go_at_call 13; (with_reducible refine (colophonlaw15_wakes.calls kj17  t162 _ ?side1 A55.out).mono ?_); (case side1 => exact GW_below hG (by repeat (first | (with_reducible first | exact HB.out | apply below_alloc | apply pw_below_drewN | apply below_drew1) | exact HB.out))); rintro e w56 ⟨rfl, hb⟩; clear A55; have n0_ := Aside0.mk (below_step (by repeat (first | (with_reducible first | exact HB.out | apply below_alloc | apply pw_below_drewN | apply below_drew1) | exact HB.out)) hb); clear HB; have HB := n0_; clear n0_; (try clear hb); (try clear hb2); (try clear hk); (try clear hi)))
                          go_ret
                          exact ⟨by first | rfl | (simp [errW_none, errW_some] <;> rfl) | (simp [*, errW_none, errW_some] <;> rfl), by repeat (first | (with_reducible first | exact HB.out | apply below_alloc | apply pw_below_drewN | apply below_drew1) | exact HB.out)⟩
                        · rw [if_neg c54] at H
                          have c54b0 : (t155.toList == ([] : List UInt8)) = false := beq_eq_false_iff_ne.mpr c54
                          have c54b1 : (t155.toList != ([] : List UInt8)) = true := bne_iff_ne.mpr c54
                          obtain rfl := Option.some.inj H
                          go_wp2
                          go_ret
                          exact ⟨by first | rfl | (simp [errW_none, errW_some] <;> rfl) | (simp [*, errW_none, errW_some] <;> rfl), by repeat (first | (with_reducible first | exact HB.out | apply below_alloc | apply pw_below_drewN | apply below_drew1) | exact HB.out)⟩
                    · rw [if_neg c50] at H
                      have c50b0 : (t145 == 0) = false := beq_eq_false_iff_ne.mpr c50
                      have c50b1 : (t145 != 0) = true := bne_iff_ne.mpr c50
                      by_cases c57 : t144.toList = ([] : List UInt8)
                      · rw [if_pos c57] at H
                        have c57b0 : (t144.toList == ([] : List UInt8)) = true := beq_iff_eq.mpr c57
                        have c57b1 : (t144.toList != ([] : List UInt8)) = false := bne_eq_false_iff_eq.mpr c57
                        clear c57
                        by_cases c58 : t156 = 0
                        · rw [if_pos c58] at H
                          have c58b0 : (t156 == 0) = true := beq_iff_eq.mpr c58
                          have c58b1 : (t156 != 0) = false := bne_eq_false_iff_eq.mpr c58
                          clear c58
                          replace H := Option.bind_eq_some_iff.mp H
                          obtain ⟨t163, A590, H⟩ := H
                          replace H : (some t163) = some r := H
                          have A59 := Aside0.mk A590
                          clear A590
                          obtain rfl := Option.some.inj H
                          go_wp2_with (first | (go_at_call 13; (with_reducible refine (colophonlaw15_wakes.calls kj17  t163 _ ?side1 A59.out).mono ?_); (case side1 => exact GW_below hG (by repeat (first | (with_reducible first | exact HB.out | apply below_alloc | apply pw_below_drewN | apply below_drew1) | exact HB.out))); rintro e w60 ⟨rfl, hb⟩; clear A59; have n0_ := Aside0.mk (below_step (by repeat (first | (with_reducible first | exact HB.out | apply below_alloc | apply pw_below_drewN | apply below_drew1) | exact HB.out)) hb); clear HB; have HB := n0_; clear n0_; (try clear hb); (try clear hb2); (try clear hk); (try clear hi)))
                          go_ret
                          exact ⟨by first | rfl | (simp [errW_none, errW_some] <;> rfl) | (simp [*, errW_none, errW_some] <;> rfl), by repeat (first | (with_reducible first | exact HB.out | apply below_alloc | apply pw_below_drewN | apply below_drew1) | exact HB.out)⟩
                        · rw [if_neg c58] at H
                          have c58b0 : (t156 == 0) = false := beq_eq_false_iff_ne.mpr c58
                          have c58b1 : (t156 != 0) = true := bne_iff_ne.mpr c58
                          by_cases c61 : t155.toList = ([] : List UInt8)
                          · rw [if_pos c61] at H
                            have c61b0 : (t155.toList == ([] : List UInt8)) = true := beq_iff_eq.mpr c61
                            have c61b1 : (t155.toList != ([] : List UInt8)) = false := bne_eq_false_iff_eq.mpr c61
                            clear c61
                            replace H := Option.bind_eq_some_iff.mp H
                            obtain ⟨t164, A620, H⟩ := H
                            replace H : (some t164) = some r := H
                            have A62 := Aside0.mk A620
                            clear A620
                            obtain rfl := Option.some.inj H
                            go_wp2_with (first | (go_at_call 13; (with_reducible refine (colophonlaw15_wakes.calls kj17  t164 _ ?side1 A62.out).mono ?_); (case side1 => exact GW_below hG (by repeat (first | (with_reducible first | exact HB.out | apply below_alloc | apply pw_below_drewN | apply below_drew1) | exact HB.out))); rintro e w63 ⟨rfl, hb⟩; clear A62; have n0_ := Aside0.mk (below_step (by repeat (first | (with_reducible first | exact HB.out | apply below_alloc | apply pw_below_drewN | apply below_drew1) | exact HB.out)) hb); clear HB; have HB := n0_; clear n0_; (try clear hb); (try clear hb2); (try clear hk); (try clear hi)))
                            go_ret
                            exact ⟨by first | rfl | (simp [errW_none, errW_some] <;> rfl) | (simp [*, errW_none, errW_some] <;> rfl), by repeat (first | (with_reducible first | exact HB.out | apply below_alloc | apply pw_below_drewN | apply below_drew1) | exact HB.out)⟩
                          · rw [if_neg c61] at H
                            have c61b0 : (t155.toList == ([] : List UInt8)) = false := beq_eq_false_iff_ne.mpr c61
                            have c61b1 : (t155.toList != ([] : List UInt8)) = true := bne_iff_ne.mpr c61
                            obtain rfl := Option.some.inj H
                            go_wp2
                            go_ret
                            exact ⟨by first | rfl | (simp [errW_none, errW_some] <;> rfl) | (simp [*, errW_none, errW_some] <;> rfl), by repeat (first | (with_reducible first | exact HB.out | apply below_alloc | apply pw_below_drewN | apply below_drew1) | exact HB.out)⟩
                      · rw [if_neg c57] at H
                        have c57b0 : (t144.toList == ([] : List UInt8)) = false := beq_eq_false_iff_ne.mpr c57
                        have c57b1 : (t144.toList != ([] : List UInt8)) = true := bne_iff_ne.mpr c57
                        obtain rfl := Option.some.inj H
                        go_wp2
                        go_ret
                        exact ⟨by first | rfl | (simp [errW_none, errW_some] <;> rfl) | (simp [*, errW_none, errW_some] <;> rfl), by repeat (first | (with_reducible first | exact HB.out | apply below_alloc | apply pw_below_drewN | apply below_drew1) | exact HB.out)⟩
                  · rw [if_neg c49] at H
                    have c49b0 : (t139.toList == ([] : List UInt8)) = false := beq_eq_false_iff_ne.mpr c49
                    have c49b1 : (t139.toList != ([] : List UInt8)) = true := bne_iff_ne.mpr c49
                    obtain rfl := Option.some.inj H
                    go_wp2
                    go_ret
                    exact ⟨by first | rfl | (simp [errW_none, errW_some] <;> rfl) | (simp [*, errW_none, errW_some] <;> rfl), by repeat (first | (with_reducible first | exact HB.out | apply below_alloc | apply pw_below_drewN | apply below_drew1) | exact HB.out)⟩
              · replace c33 := Bool.eq_false_iff.mpr c33
                subst c33
                have H1 : (if t139.size + t144.size ≤ 9223372036854775807 then (if t155.toList = (t139 ++ t144).toList then ((colophonlaw15_wakes.f kj17).bind fun t165 => (some t165)) else (some false)) else (none)) = some r := by rw [if_neg (show ¬ (false = true) by decide)] at H; exact H
                clear H
                have H := H1
                clear H1
                by_cases c64 : t139.size + t144.size ≤ 9223372036854775807
                · rw [if_pos c64] at H
                  have c64b0 := eq_true c64
                  have c64b1 : decide (t139.size + t144.size ≤ 9223372036854775807) = true := decide_eq_true c64
                  try have c64b2 : (9223372036854775807 < t139.size + t144.size) = False := eq_false (Nat.not_lt.2 c64)
                  try (have c64b3 := c64b2; simp only [ByteArray.size_append, sz_mk_, List.length_cons, List.length_nil, Nat.zero_add, Nat.reduceAdd] at c64b3)
                  by_cases c65 : t155.toList = (t139 ++ t144).toList
                  · rw [if_pos c65] at H
                    have c65b0 : (t155.toList == (t139 ++ t144).toList) = true := beq_iff_eq.mpr c65
                    have c65b1 : (t155.toList != (t139 ++ t144).toList) = false := bne_eq_false_iff_eq.mpr c65
                    clear c65
                    replace H := Option.bind_eq_some_iff.mp H
                    obtain ⟨t165, A660, H⟩ := H
                    replace H : (some t165) = some r := H
                    have A66 := Aside0.mk A660
                    clear A660
                    obtain rfl := Option.some.inj H
                    go_wp2_with (first | (go_at_call 13; (with_reducible refine (colophonlaw15_wakes.calls kj17  t165 _ ?side1 A66.out).mono ?_); (case side1 => exact GW_below hG (by repeat (first | (with_reducible first | exact HB.out | apply below_alloc | apply pw_below_drewN | apply below_drew1) | exact HB.out))); rintro e w67 ⟨rfl, hb⟩; clear A66; have n0_ := Aside0.mk (below_step (by repeat (first | (with_reducible first | exact HB.out | apply below_alloc | apply pw_below_drewN | apply below_drew1) | exact HB.out)) hb); clear HB; have HB := n0_; clear n0_; (try clear hb); (try clear hb2); (try clear hk); (try clear hi)))
                    go_ret
                    exact ⟨by first | rfl | (simp [errW_none, errW_some] <;> rfl) | (simp [*, errW_none, errW_some] <;> rfl), by repeat (first | (with_reducible first | exact HB.out | apply below_alloc | apply pw_below_drewN | apply below_drew1) | exact HB.out)⟩
                  · rw [if_neg c65] at H
                    have c65b0 : (t155.toList == (t139 ++ t144).toList) = false := beq_eq_false_iff_ne.mpr c65
                    have c65b1 : (t155.toList != (t139 ++ t144).toList) = true := bne_iff_ne.mpr c65
                    obtain rfl := Option.some.inj H
                    go_wp2
                    go_ret
                    exact ⟨by first | rfl | (simp [errW_none, errW_some] <;> rfl) | (simp [*, errW_none, errW_some] <;> rfl), by repeat (first | (with_reducible first | exact HB.out | apply below_alloc | apply pw_below_drewN | apply below_drew1) | exact HB.out)⟩
                · rw [if_neg c64] at H
                  exact absurd H (by simp)
        · rw [if_neg c16] at H
          exact absurd H (by simp)
end Go.Proofs.YtekifiblehmafaaDoor.Z
end
