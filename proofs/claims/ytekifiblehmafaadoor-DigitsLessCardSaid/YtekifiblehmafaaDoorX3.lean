/- Written by a program of this session (wip/tools/xprint.py over the kit's printer): functions of the program as plain Lean functions, each with the proof that the machine's call comes to them. -/
import Derived.Test.YtekifiblehmafaaDoorX0
import Derived.Test.YtekifiblehmafaaDoorX2
import Derived.Test.YtekifiblehmafaaDoorXE3
import Derived.Test.YtekifiblehmafaaDoorXG
namespace Go.Proofs.YtekifiblehmafaaDoor.X
open Go.RowKit Go.Proofs.YtekifiblehmafaaDoorW.PrintWords Go.Proofs.YtekifiblehmafaaDoorW.PrintLast Go.Proofs.YtekifiblehmafaaDoorW.PrintMore
attribute [local go_sem] max2_int min2_int max_two min_two max_three min_three max_four min_four   -- for this text's walks alone
set_option linter.unusedVariables false
set_option linter.unusedSimpArgs false

/-! ### digits_Parse: function 24 -/
def digits_Parse.f (k : Nat) (a0 : ByteArray) : Option (Int × Bool) := (digits_Near.f a0).bind fun bt118 => ((digits_Text.f k bt118.1).bind fun bt120 => (if bt118.2 = 0 then (if bt120.1.toList = a0.toList then (some (bt118.1, true)) else (some (0, false))) else (some (0, false))))
theorem digits_Parse.mono : ∀ a0 k, LeO (digits_Parse.f k a0) (digits_Parse.f (k + 1) a0) := by
  intro a0 k
  unfold digits_Parse.f
  repeat' first
      | (with_reducible exact digits_Text.mono _ _)
      | (with_reducible exact LeO.refl _)
      | (with_reducible exact LeO.none _)
      | (with_reducible refine LeO.ite ?_ ?_)
      | (with_reducible refine LeO.bind ?_ (fun _ => ?_))
      | exact digits_Text.mono _ _
      | exact LeO.none _
      | refine LeO.ite ?_ ?_
      | refine LeO.bind ?_ (fun _ => ?_)
set_option maxHeartbeats 8000000 in
set_option maxRecDepth 100000 in
theorem digits_Parse.calls (k : Nat) (a0 : ByteArray) (r1 : Int) (r2 : Bool) (w : World) (hG : Aside0 (GW w)) (h : digits_Parse.f k a0 = some (r1, r2)) :
    Calls Tryd.prog 24 #[.string a0] w fun e w' => e = .returned (.tuple #[.int .i64 r1, .bool r2]) ∧ Below w.heap.size w w' := by
  have HB := Aside0.mk (Below.refl w.heap.size w)
  have H : ((digits_Near.f a0).bind fun bt118 => ((digits_Text.f k bt118.1).bind fun bt120 => (if bt118.2 = 0 then (if bt120.1.toList = a0.toList then (some (bt118.1, true)) else (some (0, false))) else (some (0, false))))) = some (r1, r2) := h
  clear h
  replace H := Option.bind_eq_some_iff.mp H
  obtain ⟨⟨t118, t119⟩, A20, H⟩ := H
  replace H : ((digits_Text.f k t118).bind fun bt120 => (if t119 = 0 then (if bt120.1.toList = a0.toList then (some (t118, true)) else (some (0, false))) else (some (0, false)))) = some (r1, r2) := H
  have A2 := Aside0.mk A20
  clear A20
  replace H := Option.bind_eq_some_iff.mp H
  obtain ⟨⟨t120, t121⟩, A30, H⟩ := H
  replace H : (if t119 = 0 then (if t120.toList = a0.toList then (some (t118, true)) else (some (0, false))) else (some (0, false))) = some (r1, r2) := H
  have A3 := Aside0.mk A30
  clear A30
  by_cases c4 : t119 = 0
  · rw [if_pos c4] at H
    have c4b0 : (t119 == 0) = true := beq_iff_eq.mpr c4
    have c4b1 : (t119 != 0) = false := bne_eq_false_iff_eq.mpr c4
    clear c4
    by_cases c5 : t120.toList = a0.toList
    · rw [if_pos c5] at H
      have c5b0 : (t120.toList == a0.toList) = true := beq_iff_eq.mpr c5
      have c5b1 : (t120.toList != a0.toList) = false := bne_eq_false_iff_eq.mpr c5
      clear c5
      simp only [Option.some.injEq, Prod.mk.injEq] at H
      obtain ⟨rfl, rfl⟩ := H
      go_enter Tryd.func24, Tryd.ntmps24
      go_wp2_with (first | ((with_reducible refine gate_callee (f := 26) rfl ?_); refine goesL_ (some 10) rfl rfl Tryd.func26 (by kernel_rfl) rfl #[.string a0] rfl (by (try simp only [List.map_toArray, List.map_cons, List.map_nil]); first | done | rfl | (simp only [List.length_drop, List.length_take]; rfl) | (simp only [Array.mk.injEq, List.cons.injEq, Value.int.injEq, and_true, true_and]; (try unfold wrap64); omega)) ?_; (with_reducible refine (digits_Near.calls a0 t118 t119 _ ?side1 A2.out).mono ?_); (case side1 => exact GW_below hG (by repeat (first | (with_reducible first | exact HB.out | apply below_alloc | apply pw_below_drewN | apply below_drew1) | exact HB.out))); rintro e w6 ⟨rfl, hb⟩; refine ⟨_, rfl, ?_⟩; have n0_ := Aside0.mk (below_step (by repeat (first | (with_reducible first | exact HB.out | apply below_alloc | apply pw_below_drewN | apply below_drew1) | exact HB.out)) hb); clear HB; have HB := n0_; clear n0_; (try clear hb); (try clear hb2); (try clear hk); (try clear hi)) | ((with_reducible refine gate_callee (f := 21) rfl ?_); refine goesL_ (some 15) rfl rfl Tryd.func21 (by kernel_rfl) rfl #[.int .i64 t118] rfl (by (try simp only [List.map_toArray, List.map_cons, List.map_nil]); first | done | rfl | (simp only [List.length_drop, List.length_take]; rfl) | (simp only [Array.mk.injEq, List.cons.injEq, Value.int.injEq, and_true, true_and]; (try unfold wrap64); omega)) ?_; (with_reducible refine (digits_Text.calls k t118 t120 t121 _ ?side1 A3.out).mono ?_); (case side1 => exact GW_below hG (by repeat (first | (with_reducible first | exact HB.out | apply below_alloc | apply pw_below_drewN | apply below_drew1) | exact HB.out))); rintro e w7 ⟨rfl, hb⟩; refine ⟨_, rfl, ?_⟩; have n0_ := Aside0.mk (below_step (by repeat (first | (with_reducible first | exact HB.out | apply below_alloc | apply pw_below_drewN | apply below_drew1) | exact HB.out)) hb); clear HB; have HB := n0_; clear n0_; (try clear hb); (try clear hb2); (try clear hk); (try clear hi)))
      go_ret2
      exact ⟨by first | rfl | (simp [errW_none, errW_some] <;> rfl) | (simp [*, errW_none, errW_some] <;> rfl), by repeat (first | (with_reducible first | exact HB.out | apply below_alloc | apply pw_below_drewN | apply below_drew1) | exact HB.out)⟩
    · rw [if_neg c5] at H
      have c5b0 : (t120.toList == a0.toList) = false := beq_eq_false_iff_ne.mpr c5
      have c5b1 : (t120.toList != a0.toList) = true := bne_iff_ne.mpr c5
      simp only [Option.some.injEq, Prod.mk.injEq] at H
      obtain ⟨rfl, rfl⟩ := H
      go_enter Tryd.func24, Tryd.ntmps24
      go_wp2_with (first | ((with_reducible refine gate_callee (f := 26) rfl ?_); refine goesL_ (some 10) rfl rfl Tryd.func26 (by kernel_rfl) rfl #[.string a0] rfl (by (try simp only [List.map_toArray, List.map_cons, List.map_nil]); first | done | rfl | (simp only [List.length_drop, List.length_take]; rfl) | (simp only [Array.mk.injEq, List.cons.injEq, Value.int.injEq, and_true, true_and]; (try unfold wrap64); omega)) ?_; (with_reducible refine (digits_Near.calls a0 t118 t119 _ ?side1 A2.out).mono ?_); (case side1 => exact GW_below hG (by repeat (first | (with_reducible first | exact HB.out | apply below_alloc | apply pw_below_drewN | apply below_drew1) | exact HB.out))); rintro e w8 ⟨rfl, hb⟩; refine ⟨_, rfl, ?_⟩; have n0_ := Aside0.mk (below_step (by repeat (first | (with_reducible first | exact HB.out | apply below_alloc | apply pw_below_drewN | apply below_drew1) | exact HB.out)) hb); clear HB; have HB := n0_; clear n0_; (try clear hb); (try clear hb2); (try clear hk); (try clear hi)) | ((with_reducible refine gate_callee (f := 21) rfl ?_); refine goesL_ (some 15) rfl rfl Tryd.func21 (by kernel_rfl) rfl #[.int .i64 t118] rfl (by (try simp only [List.map_toArray, List.map_cons, List.map_nil]); first | done | rfl | (simp only [List.length_drop, List.length_take]; rfl) | (simp only [Array.mk.injEq, List.cons.injEq, Value.int.injEq, and_true, true_and]; (try unfold wrap64); omega)) ?_; (with_reducible refine (digits_Text.calls k t118 t120 t121 _ ?side1 A3.out).mono ?_); (case side1 => exact GW_below hG (by repeat (first | (with_reducible first | exact HB.out | apply below_alloc | apply pw_below_drewN | apply below_drew1) | exact HB.out))); rintro e w9 ⟨rfl, hb⟩; refine ⟨_, rfl, ?_⟩; have n0_ := Aside0.mk (below_step (by repeat (first | (with_reducible first | exact HB.out | apply below_alloc | apply pw_below_drewN | apply below_drew1) | exact HB.out)) hb); clear HB; have HB := n0_; clear n0_; (try clear hb); (try clear hb2); (try clear hk); (try clear hi)))
      go_ret2
      exact ⟨by first | rfl | (simp [errW_none, errW_some] <;> rfl) | (simp [*, errW_none, errW_some] <;> rfl), by repeat (first | (with_reducible first | exact HB.out | apply below_alloc | apply pw_below_drewN | apply below_drew1) | exact HB.out)⟩
  · rw [if_neg c4] at H
    have c4b0 : (t119 == 0) = false := beq_eq_false_iff_ne.mpr c4
    have c4b1 : (t119 != 0) = true := bne_iff_ne.mpr c4
    simp only [Option.some.injEq, Prod.mk.injEq] at H
    obtain ⟨rfl, rfl⟩ := H
    go_enter Tryd.func24, Tryd.ntmps24
    go_wp2_with (first | ((with_reducible refine gate_callee (f := 26) rfl ?_); refine goesL_ (some 10) rfl rfl Tryd.func26 (by kernel_rfl) rfl #[.string a0] rfl (by (try simp only [List.map_toArray, List.map_cons, List.map_nil]); first | done | rfl | (simp only [List.length_drop, List.length_take]; rfl) | (simp only [Array.mk.injEq, List.cons.injEq, Value.int.injEq, and_true, true_and]; (try unfold wrap64); omega)) ?_; (with_reducible refine (digits_Near.calls a0 t118 t119 _ ?side1 A2.out).mono ?_); (case side1 => exact GW_below hG (by repeat (first | (with_reducible first | exact HB.out | apply below_alloc | apply pw_below_drewN | apply below_drew1) | exact HB.out))); rintro e w10 ⟨rfl, hb⟩; refine ⟨_, rfl, ?_⟩; have n0_ := Aside0.mk (below_step (by repeat (first | (with_reducible first | exact HB.out | apply below_alloc | apply pw_below_drewN | apply below_drew1) | exact HB.out)) hb); clear HB; have HB := n0_; clear n0_; (try clear hb); (try clear hb2); (try clear hk); (try clear hi)) | ((with_reducible refine gate_callee (f := 21) rfl ?_); refine goesL_ (some 15) rfl rfl Tryd.func21 (by kernel_rfl) rfl #[.int .i64 t118] rfl (by (try simp only [List.map_toArray, List.map_cons, List.map_nil]); first | done | rfl | (simp only [List.length_drop, List.length_take]; rfl) | (simp only [Array.mk.injEq, List.cons.injEq, Value.int.injEq, and_true, true_and]; (try unfold wrap64); omega)) ?_; (with_reducible refine (digits_Text.calls k t118 t120 t121 _ ?side1 A3.out).mono ?_); (case side1 => exact GW_below hG (by repeat (first | (with_reducible first | exact HB.out | apply below_alloc | apply pw_below_drewN | apply below_drew1) | exact HB.out))); rintro e w11 ⟨rfl, hb⟩; refine ⟨_, rfl, ?_⟩; have n0_ := Aside0.mk (below_step (by repeat (first | (with_reducible first | exact HB.out | apply below_alloc | apply pw_below_drewN | apply below_drew1) | exact HB.out)) hb); clear HB; have HB := n0_; clear n0_; (try clear hb); (try clear hb2); (try clear hk); (try clear hi)))
    go_ret2
    exact ⟨by first | rfl | (simp [errW_none, errW_some] <;> rfl) | (simp [*, errW_none, errW_some] <;> rfl), by repeat (first | (with_reducible first | exact HB.out | apply below_alloc | apply pw_below_drewN | apply below_drew1) | exact HB.out)⟩

/-! ### colophonlaw02_wakes: function 23 -/
def colophonlaw02_wakes.f (k : Nat)  : Option (Bool) := (digits_Text.f k (-98304)).bind fun bt122 => ((digits_Parse.f k (⟨#[48, 46, 53]⟩ : ByteArray)).bind fun bt124 => (if bt122.2 = true then (if bt122.1.toList = ([45, 49, 46, 53] : List UInt8) then (if bt124.2 = true then (some (bt124.1 == 32768)) else (some false)) else (some false)) else (some false)))
theorem colophonlaw02_wakes.mono : ∀ k, LeO (colophonlaw02_wakes.f k ) (colophonlaw02_wakes.f (k + 1) ) := by
  intro  k
  unfold colophonlaw02_wakes.f
  repeat' first
      | (with_reducible exact digits_Parse.mono _ _)
      | (with_reducible exact digits_Text.mono _ _)
      | (with_reducible exact LeO.refl _)
      | (with_reducible exact LeO.none _)
      | (with_reducible refine LeO.ite ?_ ?_)
      | (with_reducible refine LeO.bind ?_ (fun _ => ?_))
      | exact digits_Parse.mono _ _
      | exact digits_Text.mono _ _
      | exact LeO.none _
      | refine LeO.ite ?_ ?_
      | refine LeO.bind ?_ (fun _ => ?_)
set_option maxHeartbeats 8000000 in
set_option maxRecDepth 100000 in
theorem colophonlaw02_wakes.calls (k : Nat)  (r : Bool) (w : World) (hG : Aside0 (GW w)) (h : colophonlaw02_wakes.f k  = some r) :
    Calls Tryd.prog 23 #[] w fun e w' => e = .returned (.bool r) ∧ Below w.heap.size w w' := by
  have HB := Aside0.mk (Below.refl w.heap.size w)
  have H : ((digits_Text.f k (-98304)).bind fun bt122 => ((digits_Parse.f k (⟨#[48, 46, 53]⟩ : ByteArray)).bind fun bt124 => (if bt122.2 = true then (if bt122.1.toList = ([45, 49, 46, 53] : List UInt8) then (if bt124.2 = true then (some (bt124.1 == 32768)) else (some false)) else (some false)) else (some false)))) = some r := h
  clear h
  replace H := Option.bind_eq_some_iff.mp H
  obtain ⟨⟨t122, t123⟩, A10, H⟩ := H
  replace H : ((digits_Parse.f k (⟨#[48, 46, 53]⟩ : ByteArray)).bind fun bt124 => (if t123 = true then (if t122.toList = ([45, 49, 46, 53] : List UInt8) then (if bt124.2 = true then (some (bt124.1 == 32768)) else (some false)) else (some false)) else (some false))) = some r := H
  have A1 := Aside0.mk A10
  clear A10
  replace H := Option.bind_eq_some_iff.mp H
  obtain ⟨⟨t124, t125⟩, A20, H⟩ := H
  replace H : (if t123 = true then (if t122.toList = ([45, 49, 46, 53] : List UInt8) then (if t125 = true then (some (t124 == 32768)) else (some false)) else (some false)) else (some false)) = some r := H
  have A2 := Aside0.mk A20
  clear A20
  by_cases c3 : t123 = true
  · subst c3
    have H1 : (if t122.toList = ([45, 49, 46, 53] : List UInt8) then (if t125 = true then (some (t124 == 32768)) else (some false)) else (some false)) = some r := by rw [if_pos rfl] at H; exact H
    clear H
    have H := H1
    clear H1
    by_cases c4 : t122.toList = ([45, 49, 46, 53] : List UInt8)
    · rw [if_pos c4] at H
      have c4b0 : (t122.toList == ([45, 49, 46, 53] : List UInt8)) = true := beq_iff_eq.mpr c4
      have c4b1 : (t122.toList != ([45, 49, 46, 53] : List UInt8)) = false := bne_eq_false_iff_eq.mpr c4
      clear c4
      by_cases c5 : t125 = true
      · subst c5
        have H1 : (some (t124 == 32768)) = some r := by rw [if_pos rfl] at H; exact H
        clear H
        have H := H1
        clear H1
        obtain rfl := Option.some.inj H
        go_enter Tryd.func23, Tryd.ntmps23
        go_wp2_with (first | ((with_reducible refine gate_callee (f := 21) rfl ?_); refine goesL_ (some 6) rfl rfl Tryd.func21 (by kernel_rfl) rfl #[.int .i64 (-98304)] rfl (by (try simp only [List.map_toArray, List.map_cons, List.map_nil]); first | done | rfl | (simp only [List.length_drop, List.length_take]; rfl) | (simp only [Array.mk.injEq, List.cons.injEq, Value.int.injEq, and_true, true_and]; (try unfold wrap64); omega)) ?_; (with_reducible refine (digits_Text.calls k (-98304) t122 true _ ?side1 A1.out).mono ?_); (case side1 => exact GW_below hG (by repeat (first | (with_reducible first | exact HB.out | apply below_alloc | apply pw_below_drewN | apply below_drew1) | exact HB.out))); rintro e w6 ⟨rfl, hb⟩; refine ⟨_, rfl, ?_⟩; have n0_ := Aside0.mk (below_step (by repeat (first | (with_reducible first | exact HB.out | apply below_alloc | apply pw_below_drewN | apply below_drew1) | exact HB.out)) hb); clear HB; have HB := n0_; clear n0_; (try clear hb); (try clear hb2); (try clear hk); (try clear hi)) | ((with_reducible refine gate_callee (f := 24) rfl ?_); refine goesL_ (some 10) rfl rfl Tryd.func24 (by kernel_rfl) rfl #[.string (⟨#[48, 46, 53]⟩ : ByteArray)] rfl (by (try simp only [List.map_toArray, List.map_cons, List.map_nil]); first | done | rfl | (simp only [List.length_drop, List.length_take]; rfl) | (simp only [Array.mk.injEq, List.cons.injEq, Value.int.injEq, and_true, true_and]; (try unfold wrap64); omega)) ?_; (with_reducible refine (digits_Parse.calls k (⟨#[48, 46, 53]⟩ : ByteArray) t124 true _ ?side1 A2.out).mono ?_); (case side1 => exact GW_below hG (by repeat (first | (with_reducible first | exact HB.out | apply below_alloc | apply pw_below_drewN | apply below_drew1) | exact HB.out))); rintro e w7 ⟨rfl, hb⟩; refine ⟨_, rfl, ?_⟩; have n0_ := Aside0.mk (below_step (by repeat (first | (with_reducible first | exact HB.out | apply below_alloc | apply pw_below_drewN | apply below_drew1) | exact HB.out)) hb); clear HB; have HB := n0_; clear n0_; (try clear hb); (try clear hb2); (try clear hk); (try clear hi)))
        go_ret
        exact ⟨by first | rfl | (simp [errW_none, errW_some] <;> rfl) | (simp [*, errW_none, errW_some] <;> rfl), by repeat (first | (with_reducible first | exact HB.out | apply below_alloc | apply pw_below_drewN | apply below_drew1) | exact HB.out)⟩
      · replace c5 := Bool.eq_false_iff.mpr c5
        subst c5
        have H1 : (some false) = some r := by rw [if_neg (show ¬ (false = true) by decide)] at H; exact H
        clear H
        have H := H1
        clear H1
        obtain rfl := Option.some.inj H
        go_enter Tryd.func23, Tryd.ntmps23
        go_wp2_with (first | ((with_reducible refine gate_callee (f := 21) rfl ?_); refine goesL_ (some 6) rfl rfl Tryd.func21 (by kernel_rfl) rfl #[.int .i64 (-98304)] rfl (by (try simp only [List.map_toArray, List.map_cons, List.map_nil]); first | done | rfl | (simp only [List.length_drop, List.length_take]; rfl) | (simp only [Array.mk.injEq, List.cons.injEq, Value.int.injEq, and_true, true_and]; (try unfold wrap64); omega)) ?_; (with_reducible refine (digits_Text.calls k (-98304) t122 true _ ?side1 A1.out).mono ?_); (case side1 => exact GW_below hG (by repeat (first | (with_reducible first | exact HB.out | apply below_alloc | apply pw_below_drewN | apply below_drew1) | exact HB.out))); rintro e w8 ⟨rfl, hb⟩; refine ⟨_, rfl, ?_⟩; have n0_ := Aside0.mk (below_step (by repeat (first | (with_reducible first | exact HB.out | apply below_alloc | apply pw_below_drewN | apply below_drew1) | exact HB.out)) hb); clear HB; have HB := n0_; clear n0_; (try clear hb); (try clear hb2); (try clear hk); (try clear hi)) | ((with_reducible refine gate_callee (f := 24) rfl ?_); refine goesL_ (some 10) rfl rfl Tryd.func24 (by kernel_rfl) rfl #[.string (⟨#[48, 46, 53]⟩ : ByteArray)] rfl (by (try simp only [List.map_toArray, List.map_cons, List.map_nil]); first | done | rfl | (simp only [List.length_drop, List.length_take]; rfl) | (simp only [Array.mk.injEq, List.cons.injEq, Value.int.injEq, and_true, true_and]; (try unfold wrap64); omega)) ?_; (with_reducible refine (digits_Parse.calls k (⟨#[48, 46, 53]⟩ : ByteArray) t124 false _ ?side1 A2.out).mono ?_); (case side1 => exact GW_below hG (by repeat (first | (with_reducible first | exact HB.out | apply below_alloc | apply pw_below_drewN | apply below_drew1) | exact HB.out))); rintro e w9 ⟨rfl, hb⟩; refine ⟨_, rfl, ?_⟩; have n0_ := Aside0.mk (below_step (by repeat (first | (with_reducible first | exact HB.out | apply below_alloc | apply pw_below_drewN | apply below_drew1) | exact HB.out)) hb); clear HB; have HB := n0_; clear n0_; (try clear hb); (try clear hb2); (try clear hk); (try clear hi)))
        go_ret
        exact ⟨by first | rfl | (simp [errW_none, errW_some] <;> rfl) | (simp [*, errW_none, errW_some] <;> rfl), by repeat (first | (with_reducible first | exact HB.out | apply below_alloc | apply pw_below_drewN | apply below_drew1) | exact HB.out)⟩
    · rw [if_neg c4] at H
      have c4b0 : (t122.toList == ([45, 49, 46, 53] : List UInt8)) = false := beq_eq_false_iff_ne.mpr c4
      have c4b1 : (t122.toList != ([45, 49, 46, 53] : List UInt8)) = true := bne_iff_ne.mpr c4
      obtain rfl := Option.some.inj H
      go_enter Tryd.func23, Tryd.ntmps23
      go_wp2_with (first | ((with_reducible refine gate_callee (f := 21) rfl ?_); refine goesL_ (some 6) rfl rfl Tryd.func21 (by kernel_rfl) rfl #[.int .i64 (-98304)] rfl (by (try simp only [List.map_toArray, List.map_cons, List.map_nil]); first | done | rfl | (simp only [List.length_drop, List.length_take]; rfl) | (simp only [Array.mk.injEq, List.cons.injEq, Value.int.injEq, and_true, true_and]; (try unfold wrap64); omega)) ?_; (with_reducible refine (digits_Text.calls k (-98304) t122 true _ ?side1 A1.out).mono ?_); (case side1 => exact GW_below hG (by repeat (first | (with_reducible first | exact HB.out | apply below_alloc | apply pw_below_drewN | apply below_drew1) | exact HB.out))); rintro e w10 ⟨rfl, hb⟩; refine ⟨_, rfl, ?_⟩; have n0_ := Aside0.mk (below_step (by repeat (first | (with_reducible first | exact HB.out | apply below_alloc | apply pw_below_drewN | apply below_drew1) | exact HB.out)) hb); clear HB; have HB := n0_; clear n0_; (try clear hb); (try clear hb2); (try clear hk); (try clear hi)) | ((with_reducible refine gate_callee (f := 24) rfl ?_); refine goesL_ (some 10) rfl rfl Tryd.func24 (by kernel_rfl) rfl #[.string (⟨#[48, 46, 53]⟩ : ByteArray)] rfl (by (try simp only [List.map_toArray, List.map_cons, List.map_nil]); first | done | rfl | (simp only [List.length_drop, List.length_take]; rfl) | (simp only [Array.mk.injEq, List.cons.injEq, Value.int.injEq, and_true, true_and]; (try unfold wrap64); omega)) ?_; (with_reducible refine (digits_Parse.calls k (⟨#[48, 46, 53]⟩ : ByteArray) t124 t125 _ ?side1 A2.out).mono ?_); (case side1 => exact GW_below hG (by repeat (first | (with_reducible first | exact HB.out | apply below_alloc | apply pw_below_drewN | apply below_drew1) | exact HB.out))); rintro e w11 ⟨rfl, hb⟩; refine ⟨_, rfl, ?_⟩; have n0_ := Aside0.mk (below_step (by repeat (first | (with_reducible first | exact HB.out | apply below_alloc | apply pw_below_drewN | apply below_drew1) | exact HB.out)) hb); clear HB; have HB := n0_; clear n0_; (try clear hb); (try clear hb2); (try clear hk); (try clear hi)))
      go_ret
      exact ⟨by first | rfl | (simp [errW_none, errW_some] <;> rfl) | (simp [*, errW_none, errW_some] <;> rfl), by repeat (first | (with_reducible first | exact HB.out | apply below_alloc | apply pw_below_drewN | apply below_drew1) | exact HB.out)⟩
  · replace c3 := Bool.eq_false_iff.mpr c3
    subst c3
    have H1 : (some false) = some r := by rw [if_neg (show ¬ (false = true) by decide)] at H; exact H
    clear H
    have H := H1
    clear H1
    obtain rfl := Option.some.inj H
    go_enter Tryd.func23, Tryd.ntmps23
    go_wp2_with (first | ((with_reducible refine gate_callee (f := 21) rfl ?_); refine goesL_ (some 6) rfl rfl Tryd.func21 (by kernel_rfl) rfl #[.int .i64 (-98304)] rfl (by (try simp only [List.map_toArray, List.map_cons, List.map_nil]); first | done | rfl | (simp only [List.length_drop, List.length_take]; rfl) | (simp only [Array.mk.injEq, List.cons.injEq, Value.int.injEq, and_true, true_and]; (try unfold wrap64); omega)) ?_; (with_reducible refine (digits_Text.calls k (-98304) t122 false _ ?side1 A1.out).mono ?_); (case side1 => exact GW_below hG (by repeat (first | (with_reducible first | exact HB.out | apply below_alloc | apply pw_below_drewN | apply below_drew1) | exact HB.out))); rintro e w12 ⟨rfl, hb⟩; refine ⟨_, rfl, ?_⟩; have n0_ := Aside0.mk (below_step (by repeat (first | (with_reducible first | exact HB.out | apply below_alloc | apply pw_below_drewN | apply below_drew1) | exact HB.out)) hb); clear HB; have HB := n0_; clear n0_; (try clear hb); (try clear hb2); (try clear hk); (try clear hi)) | ((with_reducible refine gate_callee (f := 24) rfl ?_); refine goesL_ (some 10) rfl rfl Tryd.func24 (by kernel_rfl) rfl #[.string (⟨#[48, 46, 53]⟩ : ByteArray)] rfl (by (try simp only [List.map_toArray, List.map_cons, List.map_nil]); first | done | rfl | (simp only [List.length_drop, List.length_take]; rfl) | (simp only [Array.mk.injEq, List.cons.injEq, Value.int.injEq, and_true, true_and]; (try unfold wrap64); omega)) ?_; (with_reducible refine (digits_Parse.calls k (⟨#[48, 46, 53]⟩ : ByteArray) t124 t125 _ ?side1 A2.out).mono ?_); (case side1 => exact GW_below hG (by repeat (first | (with_reducible first | exact HB.out | apply below_alloc | apply pw_below_drewN | apply below_drew1) | exact HB.out))); rintro e w13 ⟨rfl, hb⟩; refine ⟨_, rfl, ?_⟩; have n0_ := Aside0.mk (below_step (by repeat (first | (with_reducible first | exact HB.out | apply below_alloc | apply pw_below_drewN | apply below_drew1) | exact HB.out)) hb); clear HB; have HB := n0_; clear n0_; (try clear hb); (try clear hb2); (try clear hk); (try clear hi)))
    go_ret
    exact ⟨by first | rfl | (simp [errW_none, errW_some] <;> rfl) | (simp [*, errW_none, errW_some] <;> rfl), by repeat (first | (with_reducible first | exact HB.out | apply below_alloc | apply pw_below_drewN | apply below_drew1) | exact HB.out)⟩

/-! ### colophonlaw02_DigitsTexts: function 6 -/
def colophonlaw02_DigitsTexts.f (k : Nat) (a0 : Int) : Option (Bool) := (digits_Text.f k a0).bind fun bt126 => ((colophonref02_Text.f k a0).bind fun bt128 => (if bt126.1.toList = bt128.1.toList then (if (bt126.2 == bt128.2) = true then ((colophonlaw02_wakes.f k).bind fun t130 => (some t130)) else (some false)) else (some false)))
theorem colophonlaw02_DigitsTexts.mono : ∀ a0 k, LeO (colophonlaw02_DigitsTexts.f k a0) (colophonlaw02_DigitsTexts.f (k + 1) a0) := by
  intro a0 k
  unfold colophonlaw02_DigitsTexts.f
  repeat' first
      | (with_reducible exact colophonlaw02_wakes.mono _)
      | (with_reducible exact colophonref02_Text.mono _ _)
      | (with_reducible exact digits_Text.mono _ _)
      | (with_reducible exact LeO.refl _)
      | (with_reducible exact LeO.none _)
      | (with_reducible refine LeO.ite ?_ ?_)
      | (with_reducible refine LeO.bind ?_ (fun _ => ?_))
      | exact colophonlaw02_wakes.mono _
      | exact colophonref02_Text.mono _ _
      | exact digits_Text.mono _ _
      | exact LeO.none _
      | refine LeO.ite ?_ ?_
      | refine LeO.bind ?_ (fun _ => ?_)
set_option maxHeartbeats 8000000 in
set_option maxRecDepth 100000 in
theorem colophonlaw02_DigitsTexts.calls (k : Nat) (a0 : Int) (r : Bool) (w : World) (hG : Aside0 (GW w)) (h : colophonlaw02_DigitsTexts.f k a0 = some r) :
    Calls Tryd.prog 6 #[.int .i64 a0] w fun e w' => e = .returned (.bool r) ∧ Below w.heap.size w w' := by
  have HB := Aside0.mk (Below.refl w.heap.size w)
  have H : ((digits_Text.f k a0).bind fun bt126 => ((colophonref02_Text.f k a0).bind fun bt128 => (if bt126.1.toList = bt128.1.toList then (if (bt126.2 == bt128.2) = true then ((colophonlaw02_wakes.f k).bind fun t130 => (some t130)) else (some false)) else (some false)))) = some r := h
  clear h
  replace H := Option.bind_eq_some_iff.mp H
  obtain ⟨⟨t126, t127⟩, A20, H⟩ := H
  replace H : ((colophonref02_Text.f k a0).bind fun bt128 => (if t126.toList = bt128.1.toList then (if (t127 == bt128.2) = true then ((colophonlaw02_wakes.f k).bind fun t130 => (some t130)) else (some false)) else (some false))) = some r := H
  have A2 := Aside0.mk A20
  clear A20
  replace H := Option.bind_eq_some_iff.mp H
  obtain ⟨⟨t128, t129⟩, A30, H⟩ := H
  replace H : (if t126.toList = t128.toList then (if (t127 == t129) = true then ((colophonlaw02_wakes.f k).bind fun t130 => (some t130)) else (some false)) else (some false)) = some r := H
  have A3 := Aside0.mk A30
  clear A30
  by_cases c4 : t126.toList = t128.toList
  · rw [if_pos c4] at H
    have c4b0 : (t126.toList == t128.toList) = true := beq_iff_eq.mpr c4
    have c4b1 : (t126.toList != t128.toList) = false := bne_eq_false_iff_eq.mpr c4
    clear c4
    by_cases c5 : (t127 == t129) = true
    · rw [if_pos c5] at H
      have c5b0 : (t127 == t129) = true := c5
      (try (have c5b1 : decide (t127 = t129) = true := by simpa using c5))
      (try (have c5b2 : (t127 == t129) = true := by simpa using c5))
      clear c5
      replace H := Option.bind_eq_some_iff.mp H
      obtain ⟨t130, A60, H⟩ := H
      replace H : (some t130) = some r := H
      have A6 := Aside0.mk A60
      clear A60
      obtain rfl := Option.some.inj H
      go_enter Tryd.func6, Tryd.ntmps6
      go_wp2_with (first | ((with_reducible refine gate_callee (f := 21) rfl ?_); refine goesL_ (some 9) rfl rfl Tryd.func21 (by kernel_rfl) rfl #[.int .i64 a0] rfl (by (try simp only [List.map_toArray, List.map_cons, List.map_nil]); first | done | rfl | (simp only [List.length_drop, List.length_take]; rfl) | (simp only [Array.mk.injEq, List.cons.injEq, Value.int.injEq, and_true, true_and]; (try unfold wrap64); omega)) ?_; (with_reducible refine (digits_Text.calls k a0 t126 t127 _ ?side1 A2.out).mono ?_); (case side1 => exact GW_below hG (by repeat (first | (with_reducible first | exact HB.out | apply below_alloc | apply pw_below_drewN | apply below_drew1) | exact HB.out))); rintro e w7 ⟨rfl, hb⟩; refine ⟨_, rfl, ?_⟩; have n0_ := Aside0.mk (below_step (by repeat (first | (with_reducible first | exact HB.out | apply below_alloc | apply pw_below_drewN | apply below_drew1) | exact HB.out)) hb); clear HB; have HB := n0_; clear n0_; (try clear hb); (try clear hb2); (try clear hk); (try clear hi)) | ((with_reducible refine gate_callee (f := 22) rfl ?_); refine goesL_ (some 14) rfl rfl Tryd.func22 (by kernel_rfl) rfl #[.int .i64 a0] rfl (by (try simp only [List.map_toArray, List.map_cons, List.map_nil]); first | done | rfl | (simp only [List.length_drop, List.length_take]; rfl) | (simp only [Array.mk.injEq, List.cons.injEq, Value.int.injEq, and_true, true_and]; (try unfold wrap64); omega)) ?_; (with_reducible refine (colophonref02_Text.calls k a0 t128 t129 _ A3.out).mono ?_); rintro e w8 ⟨rfl, hb⟩; refine ⟨_, rfl, ?_⟩; have n0_ := Aside0.mk (below_step (by repeat (first | (with_reducible first | exact HB.out | apply below_alloc | apply pw_below_drewN | apply below_drew1) | exact HB.out)) hb); clear HB; have HB := n0_; clear n0_; (try clear hb); (try clear hb2); (try clear hk); (try clear hi)) | (go_at_call 23; (with_reducible refine (colophonlaw02_wakes.calls k  t130 _ ?side1 A6.out).mono ?_); (case side1 => exact GW_below hG (by repeat (first | (with_reducible first | exact HB.out | apply below_alloc | apply pw_below_drewN | apply below_drew1) | exact HB.out))); rintro e w9 ⟨rfl, hb⟩; have n0_ := Aside0.mk (below_step (by repeat (first | (with_reducible first | exact HB.out | apply below_alloc | apply pw_below_drewN | apply below_drew1) | exact HB.out)) hb); clear HB; have HB := n0_; clear n0_; (try clear hb); (try clear hb2); (try clear hk); (try clear hi)))
      go_ret
      exact ⟨by first | rfl | (simp [errW_none, errW_some] <;> rfl) | (simp [*, errW_none, errW_some] <;> rfl), by repeat (first | (with_reducible first | exact HB.out | apply below_alloc | apply pw_below_drewN | apply below_drew1) | exact HB.out)⟩
    · rw [if_neg c5] at H
      have c5b0 : (t127 == t129) = false := by simpa using c5
      (try (have c5b1 : decide (t127 = t129) = false := by simpa using c5))
      (try (have c5b2 : (t127 == t129) = false := by simpa using c5))
      (try (have c5b3 : ¬ (t127 = t129) := by simpa using c5))
      clear c5
      obtain rfl := Option.some.inj H
      go_enter Tryd.func6, Tryd.ntmps6
      go_wp2_with (first | ((with_reducible refine gate_callee (f := 21) rfl ?_); refine goesL_ (some 9) rfl rfl Tryd.func21 (by kernel_rfl) rfl #[.int .i64 a0] rfl (by (try simp only [List.map_toArray, List.map_cons, List.map_nil]); first | done | rfl | (simp only [List.length_drop, List.length_take]; rfl) | (simp only [Array.mk.injEq, List.cons.injEq, Value.int.injEq, and_true, true_and]; (try unfold wrap64); omega)) ?_; (with_reducible refine (digits_Text.calls k a0 t126 t127 _ ?side1 A2.out).mono ?_); (case side1 => exact GW_below hG (by repeat (first | (with_reducible first | exact HB.out | apply below_alloc | apply pw_below_drewN | apply below_drew1) | exact HB.out))); rintro e w10 ⟨rfl, hb⟩; refine ⟨_, rfl, ?_⟩; have n0_ := Aside0.mk (below_step (by repeat (first | (with_reducible first | exact HB.out | apply below_alloc | apply pw_below_drewN | apply below_drew1) | exact HB.out)) hb); clear HB; have HB := n0_; clear n0_; (try clear hb); (try clear hb2); (try clear hk); (try clear hi)) | ((with_reducible refine gate_callee (f := 22) rfl ?_); refine goesL_ (some 14) rfl rfl Tryd.func22 (by kernel_rfl) rfl #[.int .i64 a0] rfl (by (try simp only [List.map_toArray, List.map_cons, List.map_nil]); first | done | rfl | (simp only [List.length_drop, List.length_take]; rfl) | (simp only [Array.mk.injEq, List.cons.injEq, Value.int.injEq, and_true, true_and]; (try unfold wrap64); omega)) ?_; (with_reducible refine (colophonref02_Text.calls k a0 t128 t129 _ A3.out).mono ?_); rintro e w11 ⟨rfl, hb⟩; refine ⟨_, rfl, ?_⟩; have n0_ := Aside0.mk (below_step (by repeat (first | (with_reducible first | exact HB.out | apply below_alloc | apply pw_below_drewN | apply below_drew1) | exact HB.out)) hb); clear HB; have HB := n0_; clear n0_; (try clear hb); (try clear hb2); (try clear hk); (try clear hi)))
      go_ret
      exact ⟨by first | rfl | (simp [errW_none, errW_some] <;> rfl) | (simp [*, errW_none, errW_some] <;> rfl), by repeat (first | (with_reducible first | exact HB.out | apply below_alloc | apply pw_below_drewN | apply below_drew1) | exact HB.out)⟩
  · rw [if_neg c4] at H
    have c4b0 : (t126.toList == t128.toList) = false := beq_eq_false_iff_ne.mpr c4
    have c4b1 : (t126.toList != t128.toList) = true := bne_iff_ne.mpr c4
    obtain rfl := Option.some.inj H
    go_enter Tryd.func6, Tryd.ntmps6
    go_wp2_with (first | ((with_reducible refine gate_callee (f := 21) rfl ?_); refine goesL_ (some 9) rfl rfl Tryd.func21 (by kernel_rfl) rfl #[.int .i64 a0] rfl (by (try simp only [List.map_toArray, List.map_cons, List.map_nil]); first | done | rfl | (simp only [List.length_drop, List.length_take]; rfl) | (simp only [Array.mk.injEq, List.cons.injEq, Value.int.injEq, and_true, true_and]; (try unfold wrap64); omega)) ?_; (with_reducible refine (digits_Text.calls k a0 t126 t127 _ ?side1 A2.out).mono ?_); (case side1 => exact GW_below hG (by repeat (first | (with_reducible first | exact HB.out | apply below_alloc | apply pw_below_drewN | apply below_drew1) | exact HB.out))); rintro e w12 ⟨rfl, hb⟩; refine ⟨_, rfl, ?_⟩; have n0_ := Aside0.mk (below_step (by repeat (first | (with_reducible first | exact HB.out | apply below_alloc | apply pw_below_drewN | apply below_drew1) | exact HB.out)) hb); clear HB; have HB := n0_; clear n0_; (try clear hb); (try clear hb2); (try clear hk); (try clear hi)) | ((with_reducible refine gate_callee (f := 22) rfl ?_); refine goesL_ (some 14) rfl rfl Tryd.func22 (by kernel_rfl) rfl #[.int .i64 a0] rfl (by (try simp only [List.map_toArray, List.map_cons, List.map_nil]); first | done | rfl | (simp only [List.length_drop, List.length_take]; rfl) | (simp only [Array.mk.injEq, List.cons.injEq, Value.int.injEq, and_true, true_and]; (try unfold wrap64); omega)) ?_; (with_reducible refine (colophonref02_Text.calls k a0 t128 t129 _ A3.out).mono ?_); rintro e w13 ⟨rfl, hb⟩; refine ⟨_, rfl, ?_⟩; have n0_ := Aside0.mk (below_step (by repeat (first | (with_reducible first | exact HB.out | apply below_alloc | apply pw_below_drewN | apply below_drew1) | exact HB.out)) hb); clear HB; have HB := n0_; clear n0_; (try clear hb); (try clear hb2); (try clear hk); (try clear hi)))
    go_ret
    exact ⟨by first | rfl | (simp [errW_none, errW_some] <;> rfl) | (simp [*, errW_none, errW_some] <;> rfl), by repeat (first | (with_reducible first | exact HB.out | apply below_alloc | apply pw_below_drewN | apply below_drew1) | exact HB.out)⟩

/-! ### colophonref02_digits: function 79 -/
def colophonref02_digits.l0 : Nat → ByteArray → Int → Int → Option (Int)
  | 0, _, _, _ => none
  | k + 1, x0, x1, x5 => if (wrap64 (x1 + x5)) < (x0.size : Int) then (if 0 ≤ (wrap64 (x1 + x5)) then (if (bt x0 (wrap64 (x1 + x5))) ≥ 48 then (if (bt x0 (wrap64 (x1 + x5))) ≤ 57 then (colophonref02_digits.l0 k x0 x1 (wrap64 (x5 + 1))) else (some x5)) else (some x5)) else (none)) else (some x5)
def colophonref02_digits.f (k : Nat) (a0 : ByteArray) (a1 : Int) : Option (Int) := colophonref02_digits.l0 k a0 a1 0
theorem colophonref02_digits.mono_l : ∀ k, (∀ y0 y1 y2, LeO (colophonref02_digits.l0 k y0 y1 y2) (colophonref02_digits.l0 (k + 1) y0 y1 y2))
  | 0 => fun _ _ _ r h => by simp [colophonref02_digits.l0] at h
  | k + 1 => by
    have ih0 := colophonref02_digits.mono_l k
    · intro y0 y1 y2
      unfold colophonref02_digits.l0
      repeat' first
      | (with_reducible exact ih0 _ _ _)
      | (with_reducible exact LeO.refl _)
      | (with_reducible exact LeO.none _)
      | (with_reducible refine LeO.ite ?_ ?_)
      | (with_reducible refine LeO.bind ?_ (fun _ => ?_))
      | exact ih0 _ _ _
      | exact LeO.none _
      | refine LeO.ite ?_ ?_
      | refine LeO.bind ?_ (fun _ => ?_)
theorem colophonref02_digits.mono : ∀ a0 a1 k, LeO (colophonref02_digits.f k a0 a1) (colophonref02_digits.f (k + 1) a0 a1) := by
  intro a0 a1 k
  have ih0 := colophonref02_digits.mono_l k
  unfold colophonref02_digits.f
  repeat' first
      | (with_reducible exact ih0 _ _ _)
      | (with_reducible exact LeO.refl _)
      | (with_reducible exact LeO.none _)
      | (with_reducible refine LeO.ite ?_ ?_)
      | (with_reducible refine LeO.bind ?_ (fun _ => ?_))
      | exact ih0 _ _ _
      | exact LeO.none _
      | refine LeO.ite ?_ ?_
      | refine LeO.bind ?_ (fun _ => ?_)
set_option maxHeartbeats 8000000 in
set_option maxRecDepth 100000 in
theorem colophonref02_digits.calls (k : Nat) (a0 : ByteArray) (a1 : Int) (r : Int) (w : World) (h : colophonref02_digits.f k a0 a1 = some r) :
    Calls Tryd.prog 79 #[.string a0, .int .i64 a1] w fun e w' => e = .returned (.int .i64 r) ∧ Drawn0 w w' := by
  have H : (colophonref02_digits.l0 k a0 a1 0) = some r := h
  clear h
  have H' := Aside0.mk H
  clear H
  go_enter Tryd.func79, Tryd.ntmps79
  go_wp2
  go_loopg [5] k (fun kq v5 w' => ∃ (x5_1 : Int), v5 = .int .i64 x5_1 ∧ Aside0 (colophonref02_digits.l0 kq a0 a1 x5_1 = some r) ∧ Aside0 (kq ≤ k) ∧ Drawn0 w w')
  case atStart => exact ⟨(0), (by first | rfl | (simp; done) | (simp [*]; done) | (simp [ne_nil_]; done)), H', ⟨Nat.le_refl _⟩, by repeat (first | exact Drawn0.refl _ | apply Drawn0.step)⟩
  case round =>
    clear H'
    try clear p2
    obtain ⟨x5_1, rfl, HA, HK1, ⟨m1, rfl⟩⟩ := hrel
    cases gk with
    | zero => exact absurd HA.out (by simp [colophonref02_digits.l0])
    | succ k1 =>
      have H := HA.out
      clear HA
      simp only [colophonref02_digits.l0] at H
      by_cases c3 : (wrap64 (a1 + x5_1)) < (a0.size : Int)
      · rw [if_pos c3] at H
        have c3b0 : decide ((wrap64 (a1 + x5_1)) < (a0.size : Int)) = true := decide_eq_true c3
        clear c3
        obtain ⟨ji4, hji4⟩ : ∃ j_ : Int, (wrap64 (a1 + x5_1)) = j_ := ⟨_, rfl⟩
        replace H : (if 0 ≤ (ji4) then (if (bt a0 (ji4)) ≥ 48 then (if (bt a0 (ji4)) ≤ 57 then (colophonref02_digits.l0 k1 a0 a1 (wrap64 (x5_1 + 1))) else (some x5_1)) else (some x5_1)) else (none)) = some r := by first | (rw [hji4] at H; exact H) | (simp only [hji4] at H ⊢; exact H)
        (try rw [hji4] at c3b0)
        have hji4w : (IntKind.i64.wrap (a1 + x5_1)) = ji4 := (i64_w _).trans hji4
        by_cases c5 : 0 ≤ (ji4)
        · rw [if_pos c5] at H
          have c5b0 : decide (0 ≤ (ji4)) = true := decide_eq_true c5
          clear c5
          by_cases c7 : (bt a0 (ji4)) ≥ 48
          · rw [if_pos c7] at H
            have c7b0 : decide (48 ≤ (bt a0 (ji4))) = true := decide_eq_true c7
            clear c7
            by_cases c9 : (bt a0 (ji4)) ≤ 57
            · rw [if_pos c9] at H
              have c9b0 : decide ((bt a0 (ji4)) ≤ 57) = true := decide_eq_true c9
              clear c9
              have H' := Aside0.mk H
              clear H
              have p6 : 0 ≤ ((ji4) : Int) := of_decide_eq_true (by first | (with_reducible assumption) | assumption)
              have q6 : (ji4) < (a0.size : Int) := of_decide_eq_true (by first | (with_reducible assumption) | assumption)
              have hx6 := bt_at a0 (ji4)
              replace p6 := eq_true p6
              replace q6 := eq_true q6
              have p8 : 0 ≤ ((ji4) : Int) := of_decide_eq_true (by first | (with_reducible assumption) | assumption)
              have q8 : (ji4) < (a0.size : Int) := of_decide_eq_true (by first | (with_reducible assumption) | assumption)
              have hx8 := bt_at a0 (ji4)
              replace p8 := eq_true p8
              replace q8 := eq_true q8
              go_wp2
              go_roundg k1
              case measure => have := HK1.out; omega
              case rel => exact ⟨(wrap64 (x5_1 + 1)), (by first | rfl | (simp; done) | (simp [*]; done) | (simp [ne_nil_]; done)), H', ⟨by have := HK1.out; omega⟩, by repeat (first | exact Drawn0.refl _ | apply Drawn0.step)⟩
            · rw [if_neg c9] at H
              have c9b0 : decide ((bt a0 (ji4)) ≤ 57) = false := decide_eq_false c9
              clear c9
              obtain rfl := Option.some.inj H
              have p6 : 0 ≤ ((ji4) : Int) := of_decide_eq_true (by first | (with_reducible assumption) | assumption)
              have q6 : (ji4) < (a0.size : Int) := of_decide_eq_true (by first | (with_reducible assumption) | assumption)
              have hx6 := bt_at a0 (ji4)
              replace p6 := eq_true p6
              replace q6 := eq_true q6
              have p8 : 0 ≤ ((ji4) : Int) := of_decide_eq_true (by first | (with_reducible assumption) | assumption)
              have q8 : (ji4) < (a0.size : Int) := of_decide_eq_true (by first | (with_reducible assumption) | assumption)
              have hx8 := bt_at a0 (ji4)
              replace p8 := eq_true p8
              replace q8 := eq_true q8
              go_wp2
              go_ret
              exact ⟨by first | rfl | (simp; done) | (simp only [← hji4] <;> (first | rfl | simp)) | (simp [*]; done), by repeat (first | exact Drawn0.refl _ | apply Drawn0.step)⟩
          · rw [if_neg c7] at H
            have c7b0 : decide (48 ≤ (bt a0 (ji4))) = false := decide_eq_false c7
            clear c7
            obtain rfl := Option.some.inj H
            have p6 : 0 ≤ ((ji4) : Int) := of_decide_eq_true (by first | (with_reducible assumption) | assumption)
            have q6 : (ji4) < (a0.size : Int) := of_decide_eq_true (by first | (with_reducible assumption) | assumption)
            have hx6 := bt_at a0 (ji4)
            replace p6 := eq_true p6
            replace q6 := eq_true q6
            go_wp2
            go_ret
            exact ⟨by first | rfl | (simp; done) | (simp only [← hji4] <;> (first | rfl | simp)) | (simp [*]; done), by repeat (first | exact Drawn0.refl _ | apply Drawn0.step)⟩
        · rw [if_neg c5] at H
          exact absurd H (by simp)
      · rw [if_neg c3] at H
        have c3b0 : decide ((wrap64 (a1 + x5_1)) < (a0.size : Int)) = false := decide_eq_false c3
        clear c3
        obtain rfl := Option.some.inj H
        go_wp2
        go_ret
        exact ⟨by first | rfl | (simp; done) | (simp [*]; done), by repeat (first | exact Drawn0.refl _ | apply Drawn0.step)⟩

/-! ### colophonref02_Form: function 53 -/
mutual
def colophonref02_Form.j0 : Nat → ByteArray → Int → Bool → Option (Int × Int × Int × Bool)
  | 0, _, _, _ => none
  | k + 1, x0, x6, x15 => if x15 = true then (colophonref02_Form.j1 k x0 1) else (colophonref02_Form.j1 k x0 x6)
def colophonref02_Form.j1 : Nat → ByteArray → Int → Option (Int × Int × Int × Bool)
  | 0, _, _ => none
  | k + 1, x0, x6 => (colophonref02_digits.f k x0 x6).bind fun t131 => (if (wrap64 (x6 + t131)) = x6 then (some (0, 0, 0, false)) else (if (wrap64 (x6 + t131)) = (x0.size : Int) then (some (x6, wrap64 (x6 + t131), wrap64 (x6 + t131), true)) else (if 0 ≤ (wrap64 (x6 + t131)) then (if (wrap64 (x6 + t131)) < (x0.size : Int) then (if (bt x0 (wrap64 (x6 + t131))) = 46 then ((colophonref02_digits.f k x0 (wrap64 ((wrap64 (x6 + t131)) + 1))).bind fun t132 => (if t132 = 0 then (some (0, 0, 0, false)) else (if (wrap64 ((wrap64 ((wrap64 (x6 + t131)) + 1)) + t132)) = (x0.size : Int) then (some (x6, wrap64 (x6 + t131), wrap64 ((wrap64 (x6 + t131)) + 1), true)) else (some (0, 0, 0, false))))) else (some (0, 0, 0, false))) else (none)) else (none))))
end
def colophonref02_Form.f (k : Nat) (a0 : ByteArray) : Option (Int × Int × Int × Bool) := if (a0.size : Int) > 0 then (if 0 < (a0.size : Int) then (colophonref02_Form.j0 k a0 0 ((bt a0 0) == 45)) else (none)) else (colophonref02_Form.j0 k a0 0 false)
theorem colophonref02_Form.mono_l : ∀ k, (∀ y0 y1 y2, LeO (colophonref02_Form.j0 k y0 y1 y2) (colophonref02_Form.j0 (k + 1) y0 y1 y2)) ∧ (∀ y0 y1, LeO (colophonref02_Form.j1 k y0 y1) (colophonref02_Form.j1 (k + 1) y0 y1))
  | 0 => ⟨fun _ _ _ r h => by simp [colophonref02_Form.j0] at h, fun _ _ r h => by simp [colophonref02_Form.j1] at h⟩
  | k + 1 => by
    obtain ⟨ih0, ih1⟩ := colophonref02_Form.mono_l k
    refine ⟨?_, ?_⟩
    · intro y0 y1 y2
      unfold colophonref02_Form.j0
      repeat' first
      | (with_reducible exact ih0 _ _ _)
      | (with_reducible exact ih1 _ _)
      | (with_reducible exact colophonref02_digits.mono _ _ _)
      | (with_reducible exact LeO.refl _)
      | (with_reducible exact LeO.none _)
      | (with_reducible refine LeO.ite ?_ ?_)
      | (with_reducible refine LeO.bind ?_ (fun _ => ?_))
      | exact ih0 _ _ _
      | exact ih1 _ _
      | exact colophonref02_digits.mono _ _ _
      | exact LeO.none _
      | refine LeO.ite ?_ ?_
      | refine LeO.bind ?_ (fun _ => ?_)
    · intro y0 y1
      unfold colophonref02_Form.j1
      repeat' first
      | (with_reducible exact ih0 _ _ _)
      | (with_reducible exact ih1 _ _)
      | (with_reducible exact colophonref02_digits.mono _ _ _)
      | (with_reducible exact LeO.refl _)
      | (with_reducible exact LeO.none _)
      | (with_reducible refine LeO.ite ?_ ?_)
      | (with_reducible refine LeO.bind ?_ (fun _ => ?_))
      | exact ih0 _ _ _
      | exact ih1 _ _
      | exact colophonref02_digits.mono _ _ _
      | exact LeO.none _
      | refine LeO.ite ?_ ?_
      | refine LeO.bind ?_ (fun _ => ?_)
theorem colophonref02_Form.mono : ∀ a0 k, LeO (colophonref02_Form.f k a0) (colophonref02_Form.f (k + 1) a0) := by
  intro a0 k
  obtain ⟨ih0, ih1⟩ := colophonref02_Form.mono_l k
  unfold colophonref02_Form.f
  repeat' first
      | (with_reducible exact ih0 _ _ _)
      | (with_reducible exact ih1 _ _)
      | (with_reducible exact colophonref02_digits.mono _ _ _)
      | (with_reducible exact LeO.refl _)
      | (with_reducible exact LeO.none _)
      | (with_reducible refine LeO.ite ?_ ?_)
      | (with_reducible refine LeO.bind ?_ (fun _ => ?_))
      | exact ih0 _ _ _
      | exact ih1 _ _
      | exact colophonref02_digits.mono _ _ _
      | exact LeO.none _
      | refine LeO.ite ?_ ?_
      | refine LeO.bind ?_ (fun _ => ?_)
set_option maxHeartbeats 8000000 in
set_option maxRecDepth 100000 in
theorem colophonref02_Form.calls (k : Nat) (a0 : ByteArray) (r1 : Int) (r2 : Int) (r3 : Int) (r4 : Bool) (w : World) (h : colophonref02_Form.f k a0 = some (r1, r2, r3, r4)) :
    Calls Tryd.prog 53 #[.string a0] w fun e w' => e = .returned (.tuple #[.int .i64 r1, .int .i64 r2, .int .i64 r3, .bool r4]) ∧ Drawn0 w w' := by
  have H : (if (a0.size : Int) > 0 then (if 0 < (a0.size : Int) then (colophonref02_Form.j0 k a0 0 ((bt a0 0) == 45)) else (none)) else (colophonref02_Form.j0 k a0 0 false)) = some (r1, r2, r3, r4) := h
  clear h
  have HC2 := Aside0.mk H
  clear H
  go_enter Tryd.func53, Tryd.ntmps53
  go_upto_region 2 with (fail)
  go_cut [15] (fun v15 wc => ∃ (kq : Nat) (x15_1 : Bool), v15 = .bool x15_1 ∧ Aside0 (colophonref02_Form.j0 kq a0 0 x15_1 = some (r1, r2, r3, r4)) ∧ Aside0 (kq ≤ k) ∧ Drawn0 w wc)
  case first =>
    have H := HC2.out
    clear HC2
    by_cases c3 : (a0.size : Int) > 0
    · rw [if_pos c3] at H
      have c3b0 : decide (0 < (a0.size : Int)) = true := decide_eq_true c3
      have c3b1 : decide (0 < a0.size) = true := decide_eq_true (by omega)
      clear c3
      (first | rw [c3b0] | (simp only [i64_w, i32_w]; rw [c3b0]) | skip)
      by_cases c4 : 0 < (a0.size : Int)
      · rw [if_pos c4] at H
        have c4b0 : decide (0 < (a0.size : Int)) = true := decide_eq_true c4
        have c4b1 : decide (0 < a0.size) = true := decide_eq_true (by omega)
        clear c4
        have H' := Aside0.mk H
        clear H
        have p5 : 0 ≤ (0 : Int) := (by omega)
        have q5 : 0 < a0.size := (by have : (0 : Int) < (a0.size : Int) := of_decide_eq_true (by first | (with_reducible assumption) | assumption); omega)
        have hx5 : ∀ h : 0 < a0.size, ((a0[0]'h).toNat : Int) = bt a0 0 := bt_at a0 0
        clear p5
        have qi5 : (0 < (a0.size : Int)) = True := eq_true (of_decide_eq_true (by first | (with_reducible assumption) | assumption))
        replace q5 := eq_true q5
        go_wp2
        go_meet
        case rel => exact ⟨_, (((bt a0 0) == 45)), (by first | rfl | (simp; done) | (simp [*]; done) | (simp [ne_nil_]; done)), H', ⟨by first | omega | exact Nat.le_refl _⟩, by repeat (first | exact Drawn0.refl _ | apply Drawn0.step)⟩
      · rw [if_neg c4] at H
        exact absurd H (by simp)
    · rw [if_neg c3] at H
      have c3b0 : decide (0 < (a0.size : Int)) = false := decide_eq_false c3
      have c3b1 : decide (0 < a0.size) = false := decide_eq_false (by omega)
      clear c3
      (first | rw [c3b0] | (simp only [i64_w, i32_w]; rw [c3b0]) | skip)
      have H' := Aside0.mk H
      clear H
      go_wp2
      go_meet
      case rel => exact ⟨_, (false), (by first | rfl | (simp; done) | (simp [*]; done) | (simp [ne_nil_]; done)), H', ⟨by first | omega | exact Nat.le_refl _⟩, by repeat (first | exact Drawn0.refl _ | apply Drawn0.step)⟩
  case rest =>
    clear HC2
    try clear p2
    try clear c3
    try clear c3b0
    try clear c3b1
    try clear c4
    try clear c4b0
    try clear c4b1
    try clear c5
    try clear p5
    try clear q5
    try clear hx5
    try clear qi5
    try clear p5
    try clear q5
    obtain ⟨kq, x15_1, rfl, HA, HJ1, ⟨mc1, rfl⟩⟩ := hcut
    cases kq with
    | zero => exact absurd HA.out (by simp [colophonref02_Form.j0])
    | succ kj1 =>
      have H := HA.out
      clear HA
      simp only [colophonref02_Form.j0] at H
      have HC6 := Aside0.mk H
      clear H
      go_upto_if 15 with (fail)
      go_cut [6] (fun v6 wc => ∃ (kq : Nat) (x6_5 : Int), v6 = .int .i64 x6_5 ∧ Aside0 (colophonref02_Form.j1 kq a0 x6_5 = some (r1, r2, r3, r4)) ∧ Aside0 (kq ≤ kj1) ∧ Drawn0 w wc)
      case first =>
        have H := HC6.out
        clear HC6
        by_cases c7 : x15_1 = true
        · subst c7
          have H1 : (colophonref02_Form.j1 kj1 a0 1) = some (r1, r2, r3, r4) := by rw [if_pos rfl] at H; exact H
          clear H
          have H := H1
          clear H1
          have H' := Aside0.mk H
          clear H
          go_wp2
          go_meet
          case rel => exact ⟨_, (1), (by first | rfl | (simp; done) | (simp [*]; done) | (simp [ne_nil_]; done)), H', ⟨by have := HJ1.out; first | omega | exact Nat.le_refl _⟩, by repeat (first | exact Drawn0.refl _ | apply Drawn0.step)⟩
        · replace c7 := Bool.eq_false_iff.mpr c7
          subst c7
          have H1 : (colophonref02_Form.j1 kj1 a0 0) = some (r1, r2, r3, r4) := by rw [if_neg (show ¬ (false = true) by decide)] at H; exact H
          clear H
          have H := H1
          clear H1
          have H' := Aside0.mk H
          clear H
          go_wp2
          go_meet
          case rel => exact ⟨_, (0), (by first | rfl | (simp; done) | (simp [*]; done) | (simp [ne_nil_]; done)), H', ⟨by have := HJ1.out; first | omega | exact Nat.le_refl _⟩, by repeat (first | exact Drawn0.refl _ | apply Drawn0.step)⟩
      case rest =>
        clear HC6
        try clear c1
        try clear p2
        try clear c3
        try clear c3b0
        try clear c3b1
        try clear c4
        try clear c4b0
        try clear c4b1
        try clear c5
        try clear p5
        try clear q5
        try clear hx5
        try clear qi5
        try clear c7
        try clear p2
        try clear p5
        try clear q5
        obtain ⟨kq, x6_5, rfl, HA, HJ5, ⟨mc5, rfl⟩⟩ := hcut
        cases kq with
        | zero => exact absurd HA.out (by simp [colophonref02_Form.j1])
        | succ kj5 =>
          have H := HA.out
          clear HA
          simp only [colophonref02_Form.j1] at H
          replace H := Option.bind_eq_some_iff.mp H
          obtain ⟨t131, A80, H⟩ := H
          replace H : (if (wrap64 (x6_5 + t131)) = x6_5 then (some (0, 0, 0, false)) else (if (wrap64 (x6_5 + t131)) = (a0.size : Int) then (some (x6_5, wrap64 (x6_5 + t131), wrap64 (x6_5 + t131), true)) else (if 0 ≤ (wrap64 (x6_5 + t131)) then (if (wrap64 (x6_5 + t131)) < (a0.size : Int) then (if (bt a0 (wrap64 (x6_5 + t131))) = 46 then ((colophonref02_digits.f kj5 a0 (wrap64 ((wrap64 (x6_5 + t131)) + 1))).bind fun t132 => (if t132 = 0 then (some (0, 0, 0, false)) else (if (wrap64 ((wrap64 ((wrap64 (x6_5 + t131)) + 1)) + t132)) = (a0.size : Int) then (some (x6_5, wrap64 (x6_5 + t131), wrap64 ((wrap64 (x6_5 + t131)) + 1), true)) else (some (0, 0, 0, false))))) else (some (0, 0, 0, false))) else (none)) else (none)))) = some (r1, r2, r3, r4) := H
          have A8 := Aside0.mk A80
          clear A80
          by_cases c9 : (wrap64 (x6_5 + t131)) = x6_5
          · rw [if_pos c9] at H
            have c9b0 : ((wrap64 (x6_5 + t131)) == x6_5) = true := beq_iff_eq.mpr c9
            have c9b1 : ((wrap64 (x6_5 + t131)) != x6_5) = false := bne_eq_false_iff_eq.mpr c9
            clear c9
            simp only [Option.some.injEq, Prod.mk.injEq] at H
            obtain ⟨rfl, rfl, rfl, rfl⟩ := H
            go_wp2_with (first | ((with_reducible refine gate_callee (f := 79) rfl ?_); refine goesL_ (some 19) rfl rfl Tryd.func79 (by kernel_rfl) rfl #[.string a0, .int .i64 x6_5] rfl (by (try simp only [List.map_toArray, List.map_cons, List.map_nil]); first | done | rfl | (simp only [List.length_drop, List.length_take]; rfl) | (simp only [Array.mk.injEq, List.cons.injEq, Value.int.injEq, and_true, true_and]; (try unfold wrap64); omega)) ?_; (with_reducible refine (colophonref02_digits.calls kj5 a0 x6_5 t131 _ A8.out).mono ?_); rintro e w' ⟨rfl, ⟨nd, rfl⟩⟩; refine ⟨_, rfl, ?_⟩))
            refine bodyPost_ret (results_list (rs := [.tmp 2, .tmp 3, .tmp 4, .tmp 5]) rfl (by simp) (.tmp (.tmp (.tmp (.tmp .nil))))) rfl ?_
            exact ⟨by first | rfl | (simp; done) | (simp [*]; done), by repeat (first | exact Drawn0.refl _ | apply Drawn0.step)⟩
          · rw [if_neg c9] at H
            have c9b0 : ((wrap64 (x6_5 + t131)) == x6_5) = false := beq_eq_false_iff_ne.mpr c9
            have c9b1 : ((wrap64 (x6_5 + t131)) != x6_5) = true := bne_iff_ne.mpr c9
            by_cases c10 : (wrap64 (x6_5 + t131)) = (a0.size : Int)
            · rw [if_pos c10] at H
              have c10b0 : ((wrap64 (x6_5 + t131)) == (a0.size : Int)) = true := beq_iff_eq.mpr c10
              have c10b1 : ((wrap64 (x6_5 + t131)) != (a0.size : Int)) = false := bne_eq_false_iff_eq.mpr c10
              clear c10
              simp only [Option.some.injEq, Prod.mk.injEq] at H
              obtain ⟨rfl, rfl, rfl, rfl⟩ := H
              go_wp2_with (first | ((with_reducible refine gate_callee (f := 79) rfl ?_); refine goesL_ (some 19) rfl rfl Tryd.func79 (by kernel_rfl) rfl #[.string a0, .int .i64 x6_5] rfl (by (try simp only [List.map_toArray, List.map_cons, List.map_nil]); first | done | rfl | (simp only [List.length_drop, List.length_take]; rfl) | (simp only [Array.mk.injEq, List.cons.injEq, Value.int.injEq, and_true, true_and]; (try unfold wrap64); omega)) ?_; (with_reducible refine (colophonref02_digits.calls kj5 a0 x6_5 t131 _ A8.out).mono ?_); rintro e w' ⟨rfl, ⟨nd, rfl⟩⟩; refine ⟨_, rfl, ?_⟩))
              refine bodyPost_ret (results_list (rs := [.tmp 2, .tmp 3, .tmp 4, .tmp 5]) rfl (by simp) (.tmp (.tmp (.tmp (.tmp .nil))))) rfl ?_
              exact ⟨by first | rfl | (simp; done) | (simp [*]; done), by repeat (first | exact Drawn0.refl _ | apply Drawn0.step)⟩
            · rw [if_neg c10] at H
              have c10b0 : ((wrap64 (x6_5 + t131)) == (a0.size : Int)) = false := beq_eq_false_iff_ne.mpr c10
              have c10b1 : ((wrap64 (x6_5 + t131)) != (a0.size : Int)) = true := bne_iff_ne.mpr c10
              obtain ⟨ji11, hji11⟩ : ∃ j_ : Int, (wrap64 (x6_5 + t131)) = j_ := ⟨_, rfl⟩
              replace H : (if 0 ≤ (ji11) then (if (ji11) < (a0.size : Int) then (if (bt a0 (ji11)) = 46 then ((colophonref02_digits.f kj5 a0 (wrap64 ((ji11) + 1))).bind fun t132 => (if t132 = 0 then (some (0, 0, 0, false)) else (if (wrap64 ((wrap64 ((ji11) + 1)) + t132)) = (a0.size : Int) then (some (x6_5, ji11, wrap64 ((ji11) + 1), true)) else (some (0, 0, 0, false))))) else (some (0, 0, 0, false))) else (none)) else (none)) = some (r1, r2, r3, r4) := by first | (rw [hji11] at H; exact H) | (simp only [hji11] at H ⊢; exact H)
              (try rw [hji11] at c9b0)
              (try rw [hji11] at c9b1)
              (try rw [hji11] at c10b0)
              (try rw [hji11] at c10b1)
              (try rw [hji11] at A8)
              have hji11w : (IntKind.i64.wrap (x6_5 + t131)) = ji11 := (i64_w _).trans hji11
              by_cases c12 : 0 ≤ (ji11)
              · rw [if_pos c12] at H
                have c12b0 : decide (0 ≤ (ji11)) = true := decide_eq_true c12
                clear c12
                by_cases c13 : (ji11) < (a0.size : Int)
                · rw [if_pos c13] at H
                  have c13b0 : decide ((ji11) < (a0.size : Int)) = true := decide_eq_true c13
                  clear c13
                  by_cases c15 : (bt a0 (ji11)) = 46
                  · rw [if_pos c15] at H
                    have c15b0 : ((bt a0 (ji11)) == 46) = true := beq_iff_eq.mpr c15
                    have c15b1 : ((bt a0 (ji11)) != 46) = false := bne_eq_false_iff_eq.mpr c15
                    clear c15
                    replace H := Option.bind_eq_some_iff.mp H
                    obtain ⟨t132, A160, H⟩ := H
                    replace H : (if t132 = 0 then (some (0, 0, 0, false)) else (if (wrap64 ((wrap64 ((ji11) + 1)) + t132)) = (a0.size : Int) then (some (x6_5, ji11, wrap64 ((ji11) + 1), true)) else (some (0, 0, 0, false)))) = some (r1, r2, r3, r4) := H
                    have A16 := Aside0.mk A160
                    clear A160
                    by_cases c17 : t132 = 0
                    · rw [if_pos c17] at H
                      have c17b0 : (t132 == 0) = true := beq_iff_eq.mpr c17
                      have c17b1 : (t132 != 0) = false := bne_eq_false_iff_eq.mpr c17
                      clear c17
                      simp only [Option.some.injEq, Prod.mk.injEq] at H
                      obtain ⟨rfl, rfl, rfl, rfl⟩ := H
                      go_wp2_with (first | ((with_reducible refine gate_callee (f := 79) rfl ?_); refine goesL_ (some 19) rfl rfl Tryd.func79 (by kernel_rfl) rfl #[.string a0, .int .i64 x6_5] rfl (by (try simp only [List.map_toArray, List.map_cons, List.map_nil]); first | done | rfl | (simp only [List.length_drop, List.length_take]; rfl) | (simp only [Array.mk.injEq, List.cons.injEq, Value.int.injEq, and_true, true_and]; (try unfold wrap64); omega)) ?_; (with_reducible refine (colophonref02_digits.calls kj5 a0 x6_5 t131 _ A8.out).mono ?_); rintro e w' ⟨rfl, ⟨nd, rfl⟩⟩; refine ⟨_, rfl, ?_⟩; have p14 : 0 ≤ ((ji11) : Int) := of_decide_eq_true (by first | (with_reducible assumption) | assumption); have q14 : (ji11) < (a0.size : Int) := of_decide_eq_true (by first | (with_reducible assumption) | assumption); have hx14 := bt_at a0 (ji11); replace p14 := eq_true p14; replace q14 := eq_true q14) | (go_at_call 79; (with_reducible refine (colophonref02_digits.calls kj5 a0 (wrap64 ((ji11) + 1)) t132 _ A16.out).mono ?_); rintro e w' ⟨rfl, ⟨nd, rfl⟩⟩))
                      refine bodyPost_ret (results_list (rs := [.tmp 2, .tmp 3, .tmp 4, .tmp 5]) rfl (by simp) (.tmp (.tmp (.tmp (.tmp .nil))))) rfl ?_
                      exact ⟨by first | rfl | (simp; done) | (simp only [← hji11] <;> (first | rfl | simp)) | (simp [*]; done), by repeat (first | exact Drawn0.refl _ | apply Drawn0.step)⟩
                    · rw [if_neg c17] at H
                      have c17b0 : (t132 == 0) = false := beq_eq_false_iff_ne.mpr c17
                      have c17b1 : (t132 != 0) = true := bne_iff_ne.mpr c17
                      by_cases c18 : (wrap64 ((wrap64 ((ji11) + 1)) + t132)) = (a0.size : Int)
                      · rw [if_pos c18] at H
                        have c18b0 : ((wrap64 ((wrap64 ((ji11) + 1)) + t132)) == (a0.size : Int)) = true := beq_iff_eq.mpr c18
                        have c18b1 : ((wrap64 ((wrap64 ((ji11) + 1)) + t132)) != (a0.size : Int)) = false := bne_eq_false_iff_eq.mpr c18
                        clear c18
                        simp only [Option.some.injEq, Prod.mk.injEq] at H
                        obtain ⟨rfl, rfl, rfl, rfl⟩ := H
                        go_wp2_with (first | ((with_reducible refine gate_callee (f := 79) rfl ?_); refine goesL_ (some 19) rfl rfl Tryd.func79 (by kernel_rfl) rfl #[.string a0, .int .i64 x6_5] rfl (by (try simp only [List.map_toArray, List.map_cons, List.map_nil]); first | done | rfl | (simp only [List.length_drop, List.length_take]; rfl) | (simp only [Array.mk.injEq, List.cons.injEq, Value.int.injEq, and_true, true_and]; (try unfold wrap64); omega)) ?_; (with_reducible refine (colophonref02_digits.calls kj5 a0 x6_5 t131 _ A8.out).mono ?_); rintro e w' ⟨rfl, ⟨nd, rfl⟩⟩; refine ⟨_, rfl, ?_⟩; have p14 : 0 ≤ ((ji11) : Int) := of_decide_eq_true (by first | (with_reducible assumption) | assumption); have q14 : (ji11) < (a0.size : Int) := of_decide_eq_true (by first | (with_reducible assumption) | assumption); have hx14 := bt_at a0 (ji11); replace p14 := eq_true p14; replace q14 := eq_true q14) | (go_at_call 79; (with_reducible refine (colophonref02_digits.calls kj5 a0 (wrap64 ((ji11) + 1)) t132 _ A16.out).mono ?_); rintro e w' ⟨rfl, ⟨nd, rfl⟩⟩))
                        refine bodyPost_ret (results_list (rs := [.tmp 2, .tmp 3, .tmp 4, .tmp 5]) rfl (by simp) (.tmp (.tmp (.tmp (.tmp .nil))))) rfl ?_
                        exact ⟨by first | rfl | (simp; done) | (simp only [← hji11] <;> (first | rfl | simp)) | (simp [*]; done), by repeat (first | exact Drawn0.refl _ | apply Drawn0.step)⟩
                      · rw [if_neg c18] at H
                        have c18b0 : ((wrap64 ((wrap64 ((ji11) + 1)) + t132)) == (a0.size : Int)) = false := beq_eq_false_iff_ne.mpr c18
                        have c18b1 : ((wrap64 ((wrap64 ((ji11) + 1)) + t132)) != (a0.size : Int)) = true := bne_iff_ne.mpr c18
                        simp only [Option.some.injEq, Prod.mk.injEq] at H
                        obtain ⟨rfl, rfl, rfl, rfl⟩ := H
                        go_wp2_with (first | ((with_reducible refine gate_callee (f := 79) rfl ?_); refine goesL_ (some 19) rfl rfl Tryd.func79 (by kernel_rfl) rfl #[.string a0, .int .i64 x6_5] rfl (by (try simp only [List.map_toArray, List.map_cons, List.map_nil]); first | done | rfl | (simp only [List.length_drop, List.length_take]; rfl) | (simp only [Array.mk.injEq, List.cons.injEq, Value.int.injEq, and_true, true_and]; (try unfold wrap64); omega)) ?_; (with_reducible refine (colophonref02_digits.calls kj5 a0 x6_5 t131 _ A8.out).mono ?_); rintro e w' ⟨rfl, ⟨nd, rfl⟩⟩; refine ⟨_, rfl, ?_⟩; have p14 : 0 ≤ ((ji11) : Int) := of_decide_eq_true (by first | (with_reducible assumption) | assumption); have q14 : (ji11) < (a0.size : Int) := of_decide_eq_true (by first | (with_reducible assumption) | assumption); have hx14 := bt_at a0 (ji11); replace p14 := eq_true p14; replace q14 := eq_true q14) | (go_at_call 79; (with_reducible refine (colophonref02_digits.calls kj5 a0 (wrap64 ((ji11) + 1)) t132 _ A16.out).mono ?_); rintro e w' ⟨rfl, ⟨nd, rfl⟩⟩))
                        refine bodyPost_ret (results_list (rs := [.tmp 2, .tmp 3, .tmp 4, .tmp 5]) rfl (by simp) (.tmp (.tmp (.tmp (.tmp .nil))))) rfl ?_
                        exact ⟨by first | rfl | (simp; done) | (simp only [← hji11] <;> (first | rfl | simp)) | (simp [*]; done), by repeat (first | exact Drawn0.refl _ | apply Drawn0.step)⟩
                  · rw [if_neg c15] at H
                    have c15b0 : ((bt a0 (ji11)) == 46) = false := beq_eq_false_iff_ne.mpr c15
                    have c15b1 : ((bt a0 (ji11)) != 46) = true := bne_iff_ne.mpr c15
                    simp only [Option.some.injEq, Prod.mk.injEq] at H
                    obtain ⟨rfl, rfl, rfl, rfl⟩ := H
                    go_wp2_with (first | ((with_reducible refine gate_callee (f := 79) rfl ?_); refine goesL_ (some 19) rfl rfl Tryd.func79 (by kernel_rfl) rfl #[.string a0, .int .i64 x6_5] rfl (by (try simp only [List.map_toArray, List.map_cons, List.map_nil]); first | done | rfl | (simp only [List.length_drop, List.length_take]; rfl) | (simp only [Array.mk.injEq, List.cons.injEq, Value.int.injEq, and_true, true_and]; (try unfold wrap64); omega)) ?_; (with_reducible refine (colophonref02_digits.calls kj5 a0 x6_5 t131 _ A8.out).mono ?_); rintro e w' ⟨rfl, ⟨nd, rfl⟩⟩; refine ⟨_, rfl, ?_⟩; have p14 : 0 ≤ ((ji11) : Int) := of_decide_eq_true (by first | (with_reducible assumption) | assumption); have q14 : (ji11) < (a0.size : Int) := of_decide_eq_true (by first | (with_reducible assumption) | assumption); have hx14 := bt_at a0 (ji11); replace p14 := eq_true p14; replace q14 := eq_true q14))
                    refine bodyPost_ret (results_list (rs := [.tmp 2, .tmp 3, .tmp 4, .tmp 5]) rfl (by simp) (.tmp (.tmp (.tmp (.tmp .nil))))) rfl ?_
                    exact ⟨by first | rfl | (simp; done) | (simp only [← hji11] <;> (first | rfl | simp)) | (simp [*]; done), by repeat (first | exact Drawn0.refl _ | apply Drawn0.step)⟩
                · rw [if_neg c13] at H
                  exact absurd H (by simp)
              · rw [if_neg c12] at H
                exact absurd H (by simp)

end Go.Proofs.YtekifiblehmafaaDoor.X
