/- Part 3 of a proof: what it needs of the program's functions as plain Lean functions, with the proof that the machine's calls come to them, and of plain laws; put together out of smaller texts. No conditions besides those that each statement names. -/
import Derived.Deep.RegionHeld3
import Derived.Laws.IdiomStrings
import Derived.Lib.ItoaMem
import Derived.StillTailTactics
import Derived.Test.YtekifiblehmafaaDoorEw2
section
namespace Go.Proofs.YtekifiblehmafaaDoor.X
open Go.RowKit Go.Proofs.YtekifiblehmafaaDoorW.PrintWords Go.Proofs.YtekifiblehmafaaDoorW.PrintLast Go.Proofs.YtekifiblehmafaaDoorW.PrintMore
attribute [local go_sem] max2_int min2_int max_two min_two max_three min_three max_four min_four   -- for this text's walks alone
set_option linter.unusedVariables false
set_option linter.unusedSimpArgs false
def digits_Text.j0 : Nat → Int → ByteArray → Option (ByteArray × Bool)
  | 0, _, _ => none
  | k + 1, x0, x4 => (strconv_Itoa.f (x0 / 65536)).bind fun t102 => (if x4.size + t102.size ≤ 9223372036854775807 then (if (Go.bits .and .i64 x0 65535) = 0 then (some (x4 ++ t102, true)) else ((strconv_Itoa.f (wrap64 ((Go.bits .and .i64 x0 65535) * 152587890625))).bind fun t103 => ((strings_Repeat.f (⟨#[48]⟩ : ByteArray) (wrap64 (16 - (t103.size : Int)))).bind fun t104 => (if t104.size + t103.size ≤ 9223372036854775807 then ((strings_TrimRight.f (t104 ++ t103) (⟨#[48]⟩ : ByteArray)).bind fun t105 => (if 1 + t105.size ≤ 9223372036854775807 then (if (x4 ++ t102).size + ((⟨#[46]⟩ : ByteArray) ++ t105).size ≤ 9223372036854775807 then (some ((x4 ++ t102) ++ ((⟨#[46]⟩ : ByteArray) ++ t105), true)) else (none)) else (none))) else (none))))) else (none))
def digits_Text.f (k : Nat) (a0 : Int) : Option (ByteArray × Bool) := (fixed_In.f a0).bind fun t101 => (if t101 = true then (if a0 < 0 then (digits_Text.j0 k (wrap64 (-a0)) (⟨#[45]⟩ : ByteArray)) else (digits_Text.j0 k a0 (⟨#[]⟩ : ByteArray))) else (some ((⟨#[]⟩ : ByteArray), false)))
theorem digits_Text.mono_l : ∀ k, (∀ y0 y1, LeO (digits_Text.j0 k y0 y1) (digits_Text.j0 (k + 1) y0 y1))
  | 0 => fun _ _ r h => by simp [digits_Text.j0] at h
  | k + 1 => by
    have ih0 := digits_Text.mono_l k
    · intro y0 y1
      unfold digits_Text.j0
      repeat' first
      | (with_reducible exact ih0 _ _)
      | (with_reducible exact LeO.refl _)
      | (with_reducible exact LeO.none _)
      | (with_reducible refine LeO.ite ?_ ?_)
      | (with_reducible refine LeO.bind ?_ (fun _ => ?_))
      | exact ih0 _ _
      | exact LeO.none _
      | refine LeO.ite ?_ ?_
      | refine LeO.bind ?_ (fun _ => ?_)
theorem digits_Text.mono : ∀ a0 k, LeO (digits_Text.f k a0) (digits_Text.f (k + 1) a0) := by
  intro a0 k
  have ih0 := digits_Text.mono_l k
  unfold digits_Text.f
  repeat' first
      | (with_reducible exact ih0 _ _)
      | (with_reducible exact LeO.refl _)
      | (with_reducible exact LeO.none _)
      | (with_reducible refine LeO.ite ?_ ?_)
      | (with_reducible refine LeO.bind ?_ (fun _ => ?_))
      | exact ih0 _ _
      | exact LeO.none _
      | refine LeO.ite ?_ ?_
      | refine LeO.bind ?_ (fun _ => ?_)
set_option maxHeartbeats 8000000 in
set_option maxRecDepth 100000 in
theorem digits_Text.calls (k : Nat) (a0 : Int) (r1 : ByteArray) (r2 : Bool) (w : World) (hG : Aside0 (GW w)) (h : digits_Text.f k a0 = some (r1, r2)) :
    Calls Tryd.prog 21 #[.int .i64 a0] w fun e w' => e = .returned (.tuple #[.string r1, .bool r2]) ∧ Below w.heap.size w w' := by
  have HB := Aside0.mk (Below.refl w.heap.size w)
  have H : ((fixed_In.f a0).bind fun t101 => (if t101 = true then (if a0 < 0 then (digits_Text.j0 k (wrap64 (-a0)) (⟨#[45]⟩ : ByteArray)) else (digits_Text.j0 k a0 (⟨#[]⟩ : ByteArray))) else (some ((⟨#[]⟩ : ByteArray), false)))) = some (r1, r2) := h
  clear h
  replace H := Option.bind_eq_some_iff.mp H
  obtain ⟨t101, A20, H⟩ := H
  replace H : (if t101 = true then (if a0 < 0 then (digits_Text.j0 k (wrap64 (-a0)) (⟨#[45]⟩ : ByteArray)) else (digits_Text.j0 k a0 (⟨#[]⟩ : ByteArray))) else (some ((⟨#[]⟩ : ByteArray), false))) = some (r1, r2) := H
  have A2 := Aside0.mk A20
  clear A20
  by_cases c3 : t101 = true
  · subst c3
    have H1 : (if a0 < 0 then (digits_Text.j0 k (wrap64 (-a0)) (⟨#[45]⟩ : ByteArray)) else (digits_Text.j0 k a0 (⟨#[]⟩ : ByteArray))) = some (r1, r2) := by rw [if_pos rfl] at H; exact H
    clear H
    have H := H1
    clear H1
    have HC4 := Aside0.mk H
    clear H
    go_enter Tryd.func21, Tryd.ntmps21
    go_upto_if 12 with (first | ((with_reducible refine gate_callee (f := 43) rfl ?_); refine goesL_ (some 9) rfl rfl Tryd.func43 (by kernel_rfl) rfl #[.int .i64 a0] rfl (by (try simp only [List.map_toArray, List.map_cons, List.map_nil]); first | done | rfl | (simp only [List.length_drop, List.length_take]; rfl) | (simp only [Array.mk.injEq, List.cons.injEq, Value.int.injEq, and_true, true_and]; (try unfold wrap64); omega)) ?_; (with_reducible refine (fixed_In.calls a0 true _ A2.out).mono ?_); rintro e w' ⟨rfl, ⟨nd, rfl⟩⟩; refine ⟨_, rfl, ?_⟩))
    (try simp only [Act.put, List.setIfInBounds_toArray, List.set_cons_zero, List.set_cons_succ])
    go_cut [0, 4] (fun v0 v4 wc => ∃ (kq : Nat) (x0_3 : Int) (x4_3 : ByteArray), v0 = .int .i64 x0_3 ∧ v4 = .string x4_3 ∧ Aside0 (digits_Text.j0 kq x0_3 x4_3 = some (r1, r2)) ∧ Aside0 (kq ≤ k) ∧ Aside0 (Below w.heap.size w wc))
    case first =>
      have H := HC4.out
      clear HC4
      by_cases c5 : a0 < 0
      · rw [if_pos c5] at H
        have c5b0 : decide (a0 < 0) = true := decide_eq_true c5
        clear c5
        (first | rw [c5b0] | (simp only [i64_w, i32_w]; rw [c5b0]) | skip)
        have H' := Aside0.mk H
        clear H
        go_wp2
        go_meet
        case rel => exact ⟨_, (wrap64 (-a0)), ((⟨#[45]⟩ : ByteArray)), (by first | rfl | (simp; done) | (simp [*]; done) | (simp [ne_nil_]; done)), (by first | rfl | (simp; done) | (simp [*]; done) | (simp [ne_nil_]; done)), H', ⟨by first | omega | exact Nat.le_refl _⟩, ⟨by repeat (first | (with_reducible first | exact HB.out | apply below_alloc | apply pw_below_drewN | apply below_drew1) | exact HB.out)⟩⟩
      · rw [if_neg c5] at H
        have c5b0 : decide (a0 < 0) = false := decide_eq_false c5
        clear c5
        (first | rw [c5b0] | (simp only [i64_w, i32_w]; rw [c5b0]) | skip)
        have H' := Aside0.mk H
        clear H
        go_wp2
        go_meet
        case rel => exact ⟨_, (a0), ((⟨#[]⟩ : ByteArray)), (by first | rfl | (simp; done) | (simp [*]; done) | (simp [ne_nil_]; done)), (by first | rfl | (simp; done) | (simp [*]; done) | (simp [ne_nil_]; done)), H', ⟨by first | omega | exact Nat.le_refl _⟩, ⟨by repeat (first | (with_reducible first | exact HB.out | apply below_alloc | apply pw_below_drewN | apply below_drew1) | exact HB.out)⟩⟩
    case rest =>
      clear HC4
      try clear c2
      try clear p2
      try clear c3
      try clear c4
      try clear c5
      try clear c5b0
      obtain ⟨kq, x0_3, x4_3, rfl, rfl, HA, HJ3, HB⟩ := hcut
      cases kq with
      | zero => exact absurd HA.out (by simp [digits_Text.j0])
      | succ kj3 =>
        have H := HA.out
        clear HA
        simp only [digits_Text.j0] at H
        replace H := Option.bind_eq_some_iff.mp H
        obtain ⟨t102, A60, H⟩ := H
        replace H : (if x4_3.size + t102.size ≤ 9223372036854775807 then (if (Go.bits .and .i64 x0_3 65535) = 0 then (some (x4_3 ++ t102, true)) else ((strconv_Itoa.f (wrap64 ((Go.bits .and .i64 x0_3 65535) * 152587890625))).bind fun t103 => ((strings_Repeat.f (⟨#[48]⟩ : ByteArray) (wrap64 (16 - (t103.size : Int)))).bind fun t104 => (if t104.size + t103.size ≤ 9223372036854775807 then ((strings_TrimRight.f (t104 ++ t103) (⟨#[48]⟩ : ByteArray)).bind fun t105 => (if 1 + t105.size ≤ 9223372036854775807 then (if (x4_3 ++ t102).size + ((⟨#[46]⟩ : ByteArray) ++ t105).size ≤ 9223372036854775807 then (some ((x4_3 ++ t102) ++ ((⟨#[46]⟩ : ByteArray) ++ t105), true)) else (none)) else (none))) else (none))))) else (none)) = some (r1, r2) := H
        have A6 := Aside0.mk A60
        clear A60
        by_cases c7 : x4_3.size + t102.size ≤ 9223372036854775807
        · rw [if_pos c7] at H
          have c7b0 := eq_true c7
          have c7b1 : decide (x4_3.size + t102.size ≤ 9223372036854775807) = true := decide_eq_true c7
          try have c7b2 : (9223372036854775807 < x4_3.size + t102.size) = False := eq_false (Nat.not_lt.2 c7)
          try (have c7b3 := c7b2; simp only [ByteArray.size_append, sz_mk_, List.length_cons, List.length_nil, Nat.zero_add, Nat.reduceAdd] at c7b3)
          clear c7
          by_cases c8 : (Go.bits .and .i64 x0_3 65535) = 0
          · rw [if_pos c8] at H
            have c8b0 : ((Go.bits .and .i64 x0_3 65535) == 0) = true := beq_iff_eq.mpr c8
            have c8b1 : ((Go.bits .and .i64 x0_3 65535) != 0) = false := bne_eq_false_iff_eq.mpr c8
            clear c8
            simp only [Option.some.injEq, Prod.mk.injEq] at H
            obtain ⟨rfl, rfl⟩ := H
            go_wp2_with (first | ((with_reducible refine gate_callee (f := 44) rfl ?_); refine goesL_ (some 18) rfl rfl Tryd.func44 (by kernel_rfl) rfl #[.int .i64 (x0_3 / 65536)] rfl (by (try simp only [List.map_toArray, List.map_cons, List.map_nil]); first | done | rfl | (simp only [List.length_drop, List.length_take]; rfl) | (simp only [Array.mk.injEq, List.cons.injEq, Value.int.injEq, and_true, true_and]; (try unfold wrap64); omega)) ?_; (with_reducible refine (strconv_Itoa.calls (x0_3 / 65536) t102 _ ?side1 A6.out).mono ?_); (case side1 => exact GW_below hG (by repeat (first | (with_reducible first | exact HB.out | apply below_alloc | apply pw_below_drewN | apply below_drew1) | exact HB.out))); rintro e w9 ⟨rfl, hb⟩; refine ⟨_, rfl, ?_⟩; have n0_ := Aside0.mk (below_step (by repeat (first | (with_reducible first | exact HB.out | apply below_alloc | apply pw_below_drewN | apply below_drew1) | exact HB.out)) hb); clear HB; have HB := n0_; clear n0_; (try clear hb); (try clear hb2); (try clear hk); (try clear hi)))
            go_ret2
            exact ⟨by first | rfl | (simp [errW_none, errW_some] <;> rfl) | (simp [*, errW_none, errW_some] <;> rfl), by repeat (first | (with_reducible first | exact HB.out | apply below_alloc | apply pw_below_drewN | apply below_drew1) | exact HB.out)⟩
          · rw [if_neg c8] at H
            have c8b0 : ((Go.bits .and .i64 x0_3 65535) == 0) = false := beq_eq_false_iff_ne.mpr c8
            have c8b1 : ((Go.bits .and .i64 x0_3 65535) != 0) = true := bne_iff_ne.mpr c8
            replace H := Option.bind_eq_some_iff.mp H
            obtain ⟨t103, A100, H⟩ := H
            replace H : ((strings_Repeat.f (⟨#[48]⟩ : ByteArray) (wrap64 (16 - (t103.size : Int)))).bind fun t104 => (if t104.size + t103.size ≤ 9223372036854775807 then ((strings_TrimRight.f (t104 ++ t103) (⟨#[48]⟩ : ByteArray)).bind fun t105 => (if 1 + t105.size ≤ 9223372036854775807 then (if (x4_3 ++ t102).size + ((⟨#[46]⟩ : ByteArray) ++ t105).size ≤ 9223372036854775807 then (some ((x4_3 ++ t102) ++ ((⟨#[46]⟩ : ByteArray) ++ t105), true)) else (none)) else (none))) else (none))) = some (r1, r2) := H
            have A10 := Aside0.mk A100
            clear A100
            replace H := Option.bind_eq_some_iff.mp H
            obtain ⟨t104, A110, H⟩ := H
            replace H : (if t104.size + t103.size ≤ 9223372036854775807 then ((strings_TrimRight.f (t104 ++ t103) (⟨#[48]⟩ : ByteArray)).bind fun t105 => (if 1 + t105.size ≤ 9223372036854775807 then (if (x4_3 ++ t102).size + ((⟨#[46]⟩ : ByteArray) ++ t105).size ≤ 9223372036854775807 then (some ((x4_3 ++ t102) ++ ((⟨#[46]⟩ : ByteArray) ++ t105), true)) else (none)) else (none))) else (none)) = some (r1, r2) := H
            have A11 := Aside0.mk A110
            clear A110
            by_cases c12 : t104.size + t103.size ≤ 9223372036854775807
            · rw [if_pos c12] at H
              have c12b0 := eq_true c12
              have c12b1 : decide (t104.size + t103.size ≤ 9223372036854775807) = true := decide_eq_true c12
              try have c12b2 : (9223372036854775807 < t104.size + t103.size) = False := eq_false (Nat.not_lt.2 c12)
              try (have c12b3 := c12b2; simp only [ByteArray.size_append, sz_mk_, List.length_cons, List.length_nil, Nat.zero_add, Nat.reduceAdd] at c12b3)
              clear c12
              replace H := Option.bind_eq_some_iff.mp H
              obtain ⟨t105, A130, H⟩ := H
              replace H : (if 1 + t105.size ≤ 9223372036854775807 then (if (x4_3 ++ t102).size + ((⟨#[46]⟩ : ByteArray) ++ t105).size ≤ 9223372036854775807 then (some ((x4_3 ++ t102) ++ ((⟨#[46]⟩ : ByteArray) ++ t105), true)) else (none)) else (none)) = some (r1, r2) := H
              have A13 := Aside0.mk A130
              clear A130
              by_cases c14 : 1 + t105.size ≤ 9223372036854775807
              · rw [if_pos c14] at H
                have c14b0 := eq_true c14
                have c14b1 : decide (1 + t105.size ≤ 9223372036854775807) = true := decide_eq_true c14
                try have c14b2 : (9223372036854775807 < 1 + t105.size) = False := eq_false (Nat.not_lt.2 c14)
                try (have c14b3 := c14b2; simp only [ByteArray.size_append, sz_mk_, List.length_cons, List.length_nil, Nat.zero_add, Nat.reduceAdd] at c14b3)
                clear c14
                by_cases c15 : (x4_3 ++ t102).size + ((⟨#[46]⟩ : ByteArray) ++ t105).size ≤ 9223372036854775807
                · rw [if_pos c15] at H
                  have c15b0 := eq_true c15
                  have c15b1 : decide ((x4_3 ++ t102).size + ((⟨#[46]⟩ : ByteArray) ++ t105).size ≤ 9223372036854775807) = true := decide_eq_true c15
                  try have c15b2 : (9223372036854775807 < (x4_3 ++ t102).size + ((⟨#[46]⟩ : ByteArray) ++ t105).size) = False := eq_false (Nat.not_lt.2 c15)
                  try (have c15b3 := c15b2; simp only [ByteArray.size_append, sz_mk_, List.length_cons, List.length_nil, Nat.zero_add, Nat.reduceAdd] at c15b3)
                  clear c15
                  simp only [Option.some.injEq, Prod.mk.injEq] at H
                  obtain ⟨rfl, rfl⟩ := H
                  go_wp2_with (first | ((with_reducible refine gate_callee (f := 44) rfl ?_); refine goesL_ (some 18) rfl rfl Tryd.func44 (by kernel_rfl) rfl #[.int .i64 (x0_3 / 65536)] rfl (by (try simp only [List.map_toArray, List.map_cons, List.map_nil]); first | done | rfl | (simp only [List.length_drop, List.length_take]; rfl) | (simp only [Array.mk.injEq, List.cons.injEq, Value.int.injEq, and_true, true_and]; (try unfold wrap64); omega)) ?_; (with_reducible refine (strconv_Itoa.calls (x0_3 / 65536) t102 _ ?side1 A6.out).mono ?_); (case side1 => exact GW_below hG (by repeat (first | (with_reducible first | exact HB.out | apply below_alloc | apply pw_below_drewN | apply below_drew1) | exact HB.out))); rintro e w16 ⟨rfl, hb⟩; refine ⟨_, rfl, ?_⟩; have n0_ := Aside0.mk (below_step (by repeat (first | (with_reducible first | exact HB.out | apply below_alloc | apply pw_below_drewN | apply below_drew1) | exact HB.out)) hb); clear HB; have HB := n0_; clear n0_; (try clear hb); (try clear hb2); (try clear hk); (try clear hi)) | ((with_reducible refine gate_callee (f := 44) rfl ?_); refine goesL_ (some 26) rfl rfl Tryd.func44 (by kernel_rfl) rfl #[.int .i64 (wrap64 ((Go.bits .and .i64 x0_3 65535) * 152587890625))] rfl (by (try simp only [List.map_toArray, List.map_cons, List.map_nil]); first | done | rfl | (simp only [List.length_drop, List.length_take]; rfl) | (simp only [Array.mk.injEq, List.cons.injEq, Value.int.injEq, and_true, true_and]; (try unfold wrap64); omega)) ?_; (with_reducible refine (strconv_Itoa.calls (wrap64 ((Go.bits .and .i64 x0_3 65535) * 152587890625)) t103 _ ?side1 A10.out).mono ?_); (case side1 => exact GW_below hG (by repeat (first | (with_reducible first | exact HB.out | apply below_alloc | apply pw_below_drewN | apply below_drew1) | exact HB.out))); rintro e w17 ⟨rfl, hb⟩; refine ⟨_, rfl, ?_⟩; have n0_ := Aside0.mk (below_step (by repeat (first | (with_reducible first | exact HB.out | apply below_alloc | apply pw_below_drewN | apply below_drew1) | exact HB.out)) hb); clear HB; have HB := n0_; clear n0_; (try clear hb); (try clear hb2); (try clear hk); (try clear hi)) | ((with_reducible refine gate_callee (f := 46) rfl ?_); refine goesL_ (some 31) rfl rfl Tryd.func46 (by kernel_rfl) rfl #[.string (⟨#[48]⟩ : ByteArray), .int .i64 (wrap64 (16 - (t103.size : Int)))] rfl (by (try simp only [List.map_toArray, List.map_cons, List.map_nil]); first | done | rfl | (simp only [List.length_drop, List.length_take]; rfl) | (simp only [Array.mk.injEq, List.cons.injEq, Value.int.injEq, and_true, true_and]; (try unfold wrap64); omega)) ?_; (with_reducible refine (strings_Repeat.calls (⟨#[48]⟩ : ByteArray) (wrap64 (16 - (t103.size : Int))) t104 _ A11.out).mono ?_); rintro e w18 ⟨rfl, hb⟩; refine ⟨_, rfl, ?_⟩; have n0_ := Aside0.mk (below_step (by repeat (first | (with_reducible first | exact HB.out | apply below_alloc | apply pw_below_drewN | apply below_drew1) | exact HB.out)) hb); clear HB; have HB := n0_; clear n0_; (try clear hb); (try clear hb2); (try clear hk); (try clear hi)) | ((with_reducible refine gate_callee (f := 45) rfl ?_); refine goesL_ (some 34) rfl rfl Tryd.func45 (by kernel_rfl) rfl #[.string (t104 ++ t103), .string (⟨#[48]⟩ : ByteArray)] rfl (by (try simp only [List.map_toArray, List.map_cons, List.map_nil]); first | done | rfl | (simp only [List.length_drop, List.length_take]; rfl) | (simp only [Array.mk.injEq, List.cons.injEq, Value.int.injEq, and_true, true_and]; (try unfold wrap64); omega)) ?_; (with_reducible refine (strings_TrimRight.calls (t104 ++ t103) (⟨#[48]⟩ : ByteArray) t105 _ A13.out).mono ?_); rintro e w' ⟨rfl, ⟨nd, rfl⟩⟩; refine ⟨_, rfl, ?_⟩))
                  go_ret2
                  exact ⟨by first | rfl | (simp [errW_none, errW_some] <;> rfl) | (simp [*, errW_none, errW_some] <;> rfl), by repeat (first | (with_reducible first | exact HB.out | apply below_alloc | apply pw_below_drewN | apply below_drew1) | exact HB.out)⟩
                · rw [if_neg c15] at H
                  exact absurd H (by simp)
              · rw [if_neg c14] at H
                exact absurd H (by simp)
            · rw [if_neg c12] at H
              exact absurd H (by simp)
        · rw [if_neg c7] at H
          exact absurd H (by simp)
  · replace c3 := Bool.eq_false_iff.mpr c3
    subst c3
    have H1 : (some ((⟨#[]⟩ : ByteArray), false)) = some (r1, r2) := by rw [if_neg (show ¬ (false = true) by decide)] at H; exact H
    clear H
    have H := H1
    clear H1
    simp only [Option.some.injEq, Prod.mk.injEq] at H
    obtain ⟨rfl, rfl⟩ := H
    go_enter Tryd.func21, Tryd.ntmps21
    go_wp2_with (first | ((with_reducible refine gate_callee (f := 43) rfl ?_); refine goesL_ (some 9) rfl rfl Tryd.func43 (by kernel_rfl) rfl #[.int .i64 a0] rfl (by (try simp only [List.map_toArray, List.map_cons, List.map_nil]); first | done | rfl | (simp only [List.length_drop, List.length_take]; rfl) | (simp only [Array.mk.injEq, List.cons.injEq, Value.int.injEq, and_true, true_and]; (try unfold wrap64); omega)) ?_; (with_reducible refine (fixed_In.calls a0 false _ A2.out).mono ?_); rintro e w' ⟨rfl, ⟨nd, rfl⟩⟩; refine ⟨_, rfl, ?_⟩))
    go_ret2
    exact ⟨by first | rfl | (simp [errW_none, errW_some] <;> rfl) | (simp [*, errW_none, errW_some] <;> rfl), by repeat (first | (with_reducible first | exact HB.out | apply below_alloc | apply pw_below_drewN | apply below_drew1) | exact HB.out)⟩
def colophonref02_Decimal.f : Nat → Int → Option (ByteArray)
  | 0, _ => none
  | k + 1, a0 => if a0 < 10 then (some (strOfNums (([(wrap64 (48 + a0)) % 256] : List Int)))) else ((colophonref02_Decimal.f k (wrap64 (Int.tdiv a0 10))).bind fun t109 => ((some (([(wrap64 (48 + (Int.tmod a0 10))) % 256] : List Int) : List Int)).bind fun y110 => (if t109.size + (strOfNums y110).size ≤ 9223372036854775807 then (some (t109 ++ (strOfNums y110))) else (none))))
theorem colophonref02_Decimal.mono_l : ∀ k, (∀ y0, LeO (colophonref02_Decimal.f k y0) (colophonref02_Decimal.f (k + 1) y0))
  | 0 => fun _ r h => by simp [colophonref02_Decimal.f] at h
  | k + 1 => by
    have ih0 := colophonref02_Decimal.mono_l k
    · intro y0
      unfold colophonref02_Decimal.f
      repeat' first
      | (with_reducible exact ih0 _)
      | (with_reducible exact LeO.refl _)
      | (with_reducible exact LeO.none _)
      | (with_reducible refine LeO.ite ?_ ?_)
      | (with_reducible refine LeO.bind ?_ (fun _ => ?_))
      | exact ih0 _
      | exact LeO.none _
      | refine LeO.ite ?_ ?_
      | refine LeO.bind ?_ (fun _ => ?_)
theorem colophonref02_Decimal.mono : ∀ a0 k, LeO (colophonref02_Decimal.f k a0) (colophonref02_Decimal.f (k + 1) a0) := by
  intro a0 k
  have ih0 := colophonref02_Decimal.mono_l k
  exact ih0 a0
def colophonref02_Decimal.T3 : Bool × List (List Nat × List Nat) := (true, [([], []), ([0], [0]), ([1], [1]), ([], []), ([3], [3]), ([4], [4]), ([5], [5]), ([6], [6]), ([7], [7]), ([2, 8], [2, 8]), ([9, 2, 0, 1, 2, 3, 4, 5, 6, 7, 8, 9], [9])])
def colophonref02_Decimal.B3 : List Nat := [0, 1, 3, 0, 8, 24, 56, 120, 248, 511, 1023]
theorem colophonref02_Decimal.tab3 : rtab .any (opsOf Tryd.f33 3) = colophonref02_Decimal.T3 := by kernel_rfl
theorem colophonref02_Decimal.bits3 : waitsOk colophonref02_Decimal.T3.2 colophonref02_Decimal.B3 = true := by kernel_rfl
set_option maxHeartbeats 8000000 in
set_option maxRecDepth 100000 in
theorem colophonref02_Decimal.calls (k : Nat) : ∀ (a0 : Int) (r : ByteArray) (w : World) (h : colophonref02_Decimal.f k a0 = some r),
    Calls Tryd.prog 33 #[.int .i64 a0] w fun e w' => e = .returned (.string r) ∧ Below w.heap.size w w' := by
  induction k using Nat.strongRecOn with
  | _ k ih =>
  intro a0 r w h
  cases k with
  | zero => exact absurd h (by simp [colophonref02_Decimal.f])
  | succ k =>
  simp only [colophonref02_Decimal.f] at h
  have HB := Aside0.mk (Below.refl w.heap.size w)
  have H : (if a0 < 10 then (some (strOfNums (([(wrap64 (48 + a0)) % 256] : List Int)))) else ((colophonref02_Decimal.f k (wrap64 (Int.tdiv a0 10))).bind fun t109 => ((some (([(wrap64 (48 + (Int.tmod a0 10))) % 256] : List Int) : List Int)).bind fun y110 => (if t109.size + (strOfNums y110).size ≤ 9223372036854775807 then (some (t109 ++ (strOfNums y110))) else (none))))) = some r := h
  clear h
  by_cases c2 : a0 < 10
  · rw [if_pos c2] at H
    have c2b0 : decide (a0 < 10) = true := decide_eq_true c2
    clear c2
    obtain ⟨y106, hy106⟩ : ∃ y_ : List Int, y_ = (([(wrap64 (48 + a0)) % 256] : List Int)) := ⟨_, rfl⟩
    replace H : (some (strOfNums y106)) = some r := by first | (rw [hy106]; with_reducible exact H) | (have H2_ := (Option.bind_some _ _).symm.trans H; rw [hy106]; with_reducible exact H2_) | (have H2_ := (Option.bind_some _ _).symm.trans H; with_reducible exact H2_) | with_reducible exact H | (rw [hy106]; exact H) | exact H
    have Ny106 := Aside0.mk hy106
    clear hy106
    obtain rfl := Option.some.inj H
    go_enter Tryd.func33, Tryd.ntmps33
    go_wp2_with (first | ((with_reducible refine gate_dst (N := 8) rfl ?_); refine Kd.R_lit (Kd.int .u8) _ 5 ?hg (N := 8) ?hd (xs := ([(wrap64 (48 + a0)) % 256] : List Int)) (inner := [.int .u8 ((wrap64 (48 + a0)) % 256)]) (ok := fun _ => True) (okp := fun _ => True) ?hr ?hp (fun _ hk => hk) trivial (Below.refl _ _) (Nat.le_refl _) (by simp) ?_; (case hd => rfl); (case hg => rfl); (case hr => first | (go_simp; done) | (go_simp; rfl)); (case hp => exact (Reps.one (show Kd.M (Kd.int .u8) _ _ _ ((wrap64 (48 + a0)) % 256) [.int .u8 ((wrap64 (48 + a0)) % 256)] from rfl) (Reps.none _ _))); intro v107 w3 ho4 hb hg_ hnew_; clear hg_ hnew_; (first | rw [← Ny106.out] at ho4 | (simp only [Int.reduceToNat] at ho4; rw [← Ny106.out] at ho4)); have n0_ := Aside0.mk (Kd.R_lower ho4 (below_size (by repeat (first | (with_reducible first | exact HB.out | apply below_alloc | apply pw_below_drewN | apply below_drew1) | exact HB.out)))); have n1_ := Aside0.mk (below_step (by repeat (first | (with_reducible first | exact HB.out | apply below_alloc | apply pw_below_drewN | apply below_drew1) | exact HB.out)) hb); clear HB; have HO108 := n0_; have HB := n1_; clear n0_ n1_; clear hb ho4; have hcv5 := own_string (P := Tryd.prog) Tryd.underlying54 Tryd.underlying5 Tryd.underlying9 (Kd.own_of_R HO108.out)))
    go_ret
    exact ⟨by first | rfl | (simp [errW_none, errW_some] <;> rfl) | (simp [*, errW_none, errW_some] <;> rfl), by repeat (first | (with_reducible first | exact HB.out | apply below_alloc | apply pw_below_drewN | apply below_drew1) | exact HB.out)⟩
  · rw [if_neg c2] at H
    have c2b0 : decide (a0 < 10) = false := decide_eq_false c2
    clear c2
    replace H := Option.bind_eq_some_iff.mp H
    obtain ⟨t109, A60, H⟩ := H
    replace H : ((some (([(wrap64 (48 + (Int.tmod a0 10))) % 256] : List Int) : List Int)).bind fun y110 => (if t109.size + (strOfNums y110).size ≤ 9223372036854775807 then (some (t109 ++ (strOfNums y110))) else (none))) = some r := H
    have A6 := Aside0.mk A60
    clear A60
    obtain ⟨y110, hy110⟩ : ∃ y_ : List Int, y_ = (([(wrap64 (48 + (Int.tmod a0 10))) % 256] : List Int)) := ⟨_, rfl⟩
    replace H : (if t109.size + (strOfNums y110).size ≤ 9223372036854775807 then (some (t109 ++ (strOfNums y110))) else (none)) = some r := by first | (rw [hy110]; with_reducible exact H) | (have H2_ := (Option.bind_some _ _).symm.trans H; rw [hy110]; with_reducible exact H2_) | (have H2_ := (Option.bind_some _ _).symm.trans H; with_reducible exact H2_) | with_reducible exact H | (rw [hy110]; exact H) | exact H
    have Ny110 := Aside0.mk hy110
    clear hy110
    by_cases c7 : t109.size + (strOfNums y110).size ≤ 9223372036854775807
    · rw [if_pos c7] at H
      have c7b0 := eq_true c7
      have c7b1 : decide (t109.size + (strOfNums y110).size ≤ 9223372036854775807) = true := decide_eq_true c7
      try have c7b2 : (9223372036854775807 < t109.size + (strOfNums y110).size) = False := eq_false (Nat.not_lt.2 c7)
      try (have c7b3 := c7b2; simp only [ByteArray.size_append, sz_mk_, List.length_cons, List.length_nil, Nat.zero_add, Nat.reduceAdd] at c7b3)
      obtain rfl := Option.some.inj H
      go_enter Tryd.func33, Tryd.ntmps33
      try go_wp2
      have n0_ := Aside0.mk (below_drew1 HB.out)
      clear HB
      have HB := n0_
      clear n0_
      refine start_ (n := 11) (S := fun w' => True) (ds := []) #[false, false, false, false, false, false, false, false, false, false, false] (by kernel_rfl) rfl rfl trivial (fun hHeld => ?_); refine with_tabW colophonref02_Decimal.tab3 colophonref02_Decimal.bits3 (fun HT_ HW_ => ?_)
      generalize w.drew = w8 at HB hHeld ⊢
      refine pure_ (i := 0) (N := some 10) (v := ?_) (a' := ?_) #[true, false, false, false, false, false, false, false, false, false, false] rfl rfl (any_of HT_.out (by kernel_rfl)) (fun _ _ _ h => h) (Or.inl ⟨by rfl, ?_⟩) ?_ ?_
      rotate_left
      · intro w'
        go_simp
        with_reducible rfl
      rotate_left
      · simp only [Act.put, List.setIfInBounds_toArray, List.set_cons_zero, List.set_cons_succ, i64_w, i32_w]
        rfl
      refine pure_ (i := 1) (N := some 11) (v := ?_) (a' := ?_) #[true, true, false, false, false, false, false, false, false, false, false] rfl rfl (any_of HT_.out (by kernel_rfl)) (fun _ _ _ h => h) (Or.inl ⟨by rfl, ?_⟩) ?_ ?_
      rotate_left
      · intro w'
        go_simp
        with_reducible rfl
      rotate_left
      · simp only [Act.put, List.setIfInBounds_toArray, List.set_cons_zero, List.set_cons_succ, i64_w, i32_w]
        rfl
      refine pure_ (i := 3) (N := some 13) (v := ?_) (a' := ?_) #[true, true, false, true, false, false, false, false, false, false, false] rfl rfl (any_of HT_.out (by kernel_rfl)) (fun _ _ _ h => h) (Or.inl ⟨by rfl, ?_⟩) ?_ ?_
      rotate_left
      · intro w'
        go_simp
        with_reducible rfl
      rotate_left
      · simp only [Act.put, List.setIfInBounds_toArray, List.set_cons_zero, List.set_cons_succ, i64_w, i32_w]
        rfl
      refine pure_ (i := 4) (N := some 14) (v := ?_) (a' := ?_) #[true, true, false, true, true, false, false, false, false, false, false] rfl rfl (any_of HT_.out (by kernel_rfl)) (fun _ _ _ h => h) (Or.inl ⟨by rfl, ?_⟩) ?_ ?_
      rotate_left
      · intro w'
        go_simp
        with_reducible rfl
      rotate_left
      · simp only [Act.put, List.setIfInBounds_toArray, List.set_cons_zero, List.set_cons_succ, i64_w, i32_w]
        rfl
      refine pure_ (i := 5) (N := some 15) (v := ?_) (a' := ?_) #[true, true, false, true, true, true, false, false, false, false, false] rfl rfl (any_of HT_.out (by kernel_rfl)) (fun _ _ _ h => h) (Or.inl ⟨by rfl, ?_⟩) ?_ ?_
      rotate_left
      · intro w'
        go_simp
        with_reducible rfl
      rotate_left
      · simp only [Act.put, List.setIfInBounds_toArray, List.set_cons_zero, List.set_cons_succ, i64_w, i32_w]
        rfl
      refine pure_ (i := 6) (N := some 16) (v := ?_) (a' := ?_) #[true, true, false, true, true, true, true, false, false, false, false] rfl rfl (any_of HT_.out (by kernel_rfl)) (fun _ _ _ h => h) (Or.inl ⟨by rfl, ?_⟩) ?_ ?_
      rotate_left
      · intro w'
        go_simp
        with_reducible rfl
      rotate_left
      · simp only [Act.put, List.setIfInBounds_toArray, List.set_cons_zero, List.set_cons_succ, i64_w, i32_w]
        rfl
      refine join_ (σ := Value) 2 #[true, true, true, true, true, true, true, true, true, false, false] (fun s_ => [(12, .string t109), (17, s_), (18, .string (strOfNums y110))]) (fun s_ w' => (Kd.R (Kd.int .u8) 5 w' w.heap.size (fun _ => True) s_ y110) ∧ (Below w.heap.size w w')) ?_ ?_
      rotate_left
      · intro hCont
        refine two_ (i := 2) (j := 7) (Ni := some 12) (Nj := some 17) #[true, true, true, true, true, true, true, false, false, false, false] #[true, true, false, true, true, true, true, true, false, false, false] rfl rfl rfl rfl (two_of HT_.out (by kernel_rfl)) (by decide) (by decide) (fun K hK => ?_) (fun K hK => ?_)
        · skip
          refine goes_ Tryd.func33 (by kernel_rfl) rfl #[.int .i64 (wrap64 (Int.tdiv a0 10))] (by rfl) rfl rfl (by (try simp only [List.map_toArray, List.map_cons, List.map_nil]); first | done | rfl | (simp only [List.length_drop, List.length_take]; rfl) | (simp only [Array.mk.injEq, List.cons.injEq, Value.int.injEq, and_true, true_and]; (try unfold wrap64); omega)) ?_
          with_reducible refine (ih k (by omega) (wrap64 (Int.tdiv a0 10)) t109 _ A6.out).mono ?_
          rintro e w9 ⟨rfl, hb⟩
          refine ⟨_, rfl, ?_⟩
          have n0_ := Aside0.mk (below_step (by repeat (first | (with_reducible first | exact HB.out | apply below_alloc | apply pw_below_drewN | apply below_drew1) | exact HB.out)) hb)
          clear HB
          have HB := n0_
          clear n0_
          (try clear hb)
          (try clear hb2)
          (try clear hk)
          (try clear hi)
          refine hK.out _ _ trivial (fun hHeld => ?_)
          clear hK K
          refine norm_ (a' := ?_) ?_ ?_
          rotate_left
          · show Act.put _ (some 12) _ = _
            simp only [Act.put, List.setIfInBounds_toArray, List.set_cons_zero, List.set_cons_succ, i64_w, i32_w]
            rfl
          refine one_ (i := 7) (N := some 17) #[true, true, true, true, true, true, true, true, false, false, false] rfl rfl (one_of HT_.out (by kernel_rfl)) (by decide) (fun K hK => ?_)
          refine Kd.R_lit_step (Kd.int .u8) _ 5 ?hg (N := 17) ?hd (xs := ([(wrap64 (48 + (Int.tmod a0 10))) % 256] : List Int)) (inner := [.int .u8 ((wrap64 (48 + (Int.tmod a0 10))) % 256)]) (ok := fun _ => True) (okp := fun _ => True) ?hr ?hp (fun _ hk => hk) trivial (Below.refl _ _) (Nat.le_refl _) (by simp) ?_; (case hd => rfl); (case hg => rfl); (case hr => first | (go_simp; done) | (go_simp; rfl)); (case hp => exact (Reps.one (show Kd.M (Kd.int .u8) _ _ _ ((wrap64 (48 + (Int.tmod a0 10))) % 256) [.int .u8 ((wrap64 (48 + (Int.tmod a0 10))) % 256)] from rfl) (Reps.none _ _)))
          intro v111 w10 ho11 hb hg_ hnew_
          clear hg_ hnew_
          (first | rw [← Ny110.out] at ho11 | (simp only [Int.reduceToNat] at ho11; rw [← Ny110.out] at ho11))
          have n0_ := Aside0.mk (Kd.R_lower ho11 (below_size (by repeat (first | (with_reducible first | exact HB.out | apply below_alloc | apply pw_below_drewN | apply below_drew1) | exact HB.out))))
          have n1_ := Aside0.mk (below_step (by repeat (first | (with_reducible first | exact HB.out | apply below_alloc | apply pw_below_drewN | apply below_drew1) | exact HB.out)) hb)
          clear HB
          have HO112 := n0_
          have HB := n1_
          clear n0_ n1_
          clear hb ho11
          refine hK.out _ _ trivial (fun hHeld => ?_)
          clear hK K
          refine norm_ (a' := ?_) ?_ ?_
          rotate_left
          · show Act.put _ (some 17) _ = _
            simp only [Act.put, List.setIfInBounds_toArray, List.set_cons_zero, List.set_cons_succ, i64_w, i32_w]
            rfl
          refine one_ (i := 8) (N := some 18) #[true, true, true, true, true, true, true, true, true, false, false] rfl rfl (one_of HT_.out (by kernel_rfl)) (by decide) (fun K hK => ?_)
          have hcv12 := own_string (P := Tryd.prog) Tryd.underlying54 Tryd.underlying5 Tryd.underlying9 (Kd.own_of_R HO112.out)
          refine value_ (w1 := ?_) (v := ?_) (by rfl) rfl ?_ ?_
          rotate_left 2
          · go_simp
            constructor
            · rfl
            · rfl
          clear hcv12
          refine hK.out _ _ trivial (fun hHeld => ?_)
          clear hK K
          refine norm_ (a' := ?_) ?_ ?_
          rotate_left
          · show Act.put _ (some 18) _ = _
            simp only [Act.put, List.setIfInBounds_toArray, List.set_cons_zero, List.set_cons_succ, i64_w, i32_w]
            rfl
          exact norm_ (by simp only [putAll, Act.put, List.setIfInBounds_toArray, List.set_cons_zero, List.set_cons_succ]) (hCont (v111) _ ⟨(by (with_reducible repeat (first | apply Kd.R_alloc | apply Kd.R_drewN | apply Kd.R_drew)); exact HO112.out), (by repeat (first | (with_reducible first | exact HB.out | apply below_alloc | apply pw_below_drewN | apply below_drew1) | exact HB.out))⟩)
        · skip
          refine Kd.R_lit_step (Kd.int .u8) _ 5 ?hg (N := 17) ?hd (xs := ([(wrap64 (48 + (Int.tmod a0 10))) % 256] : List Int)) (inner := [.int .u8 ((wrap64 (48 + (Int.tmod a0 10))) % 256)]) (ok := fun _ => True) (okp := fun _ => True) ?hr ?hp (fun _ hk => hk) trivial (Below.refl _ _) (Nat.le_refl _) (by simp) ?_; (case hd => rfl); (case hg => rfl); (case hr => first | (go_simp; done) | (go_simp; rfl)); (case hp => exact (Reps.one (show Kd.M (Kd.int .u8) _ _ _ ((wrap64 (48 + (Int.tmod a0 10))) % 256) [.int .u8 ((wrap64 (48 + (Int.tmod a0 10))) % 256)] from rfl) (Reps.none _ _)))
          intro v111 w9 ho10 hb hg_ hnew_
          clear hg_ hnew_
          (first | rw [← Ny110.out] at ho10 | (simp only [Int.reduceToNat] at ho10; rw [← Ny110.out] at ho10))
          have n0_ := Aside0.mk (Kd.R_lower ho10 (below_size (by repeat (first | (with_reducible first | exact HB.out | apply below_alloc | apply pw_below_drewN | apply below_drew1) | exact HB.out))))
          have n1_ := Aside0.mk (below_step (by repeat (first | (with_reducible first | exact HB.out | apply below_alloc | apply pw_below_drewN | apply below_drew1) | exact HB.out)) hb)
          clear HB
          have HO112 := n0_
          have HB := n1_
          clear n0_ n1_
          clear hb ho10
          refine hK.out _ _ trivial (fun hHeld => ?_)
          clear hK K
          refine norm_ (a' := ?_) ?_ ?_
          rotate_left
          · show Act.put _ (some 17) _ = _
            simp only [Act.put, List.setIfInBounds_toArray, List.set_cons_zero, List.set_cons_succ, i64_w, i32_w]
            rfl
          refine two_ (i := 2) (j := 8) (Ni := some 12) (Nj := some 18) #[true, true, true, true, true, true, true, true, false, false, false] #[true, true, false, true, true, true, true, true, true, false, false] rfl rfl rfl rfl (two_of HT_.out (by kernel_rfl)) (by decide) (by decide) (fun K hK => ?_) (fun K hK => ?_)
          · skip
            refine goes_ Tryd.func33 (by kernel_rfl) rfl #[.int .i64 (wrap64 (Int.tdiv a0 10))] (by rfl) rfl rfl (by (try simp only [List.map_toArray, List.map_cons, List.map_nil]); first | done | rfl | (simp only [List.length_drop, List.length_take]; rfl) | (simp only [Array.mk.injEq, List.cons.injEq, Value.int.injEq, and_true, true_and]; (try unfold wrap64); omega)) ?_
            with_reducible refine (ih k (by omega) (wrap64 (Int.tdiv a0 10)) t109 _ A6.out).mono ?_
            rintro e w11 ⟨rfl, hb⟩
            refine ⟨_, rfl, ?_⟩
            have n0_ := Aside0.mk (Kd.R_below (by (with_reducible repeat (first | apply Kd.R_alloc | apply Kd.R_drewN | apply Kd.R_drew)); exact HO112.out) hb)
            have n1_ := Aside0.mk (below_step (by repeat (first | (with_reducible first | exact HB.out | apply below_alloc | apply pw_below_drewN | apply below_drew1) | exact HB.out)) hb)
            clear HO112
            clear HB
            have HO112 := n0_
            have HB := n1_
            clear n0_ n1_
            (try clear hb)
            (try clear hb2)
            (try clear hk)
            (try clear hi)
            refine hK.out _ _ trivial (fun hHeld => ?_)
            clear hK K
            refine norm_ (a' := ?_) ?_ ?_
            rotate_left
            · show Act.put _ (some 12) _ = _
              simp only [Act.put, List.setIfInBounds_toArray, List.set_cons_zero, List.set_cons_succ, i64_w, i32_w]
              rfl
            refine one_ (i := 8) (N := some 18) #[true, true, true, true, true, true, true, true, true, false, false] rfl rfl (one_of HT_.out (by kernel_rfl)) (by decide) (fun K hK => ?_)
            have hcv12 := own_string (P := Tryd.prog) Tryd.underlying54 Tryd.underlying5 Tryd.underlying9 (Kd.own_of_R HO112.out)
            refine value_ (w1 := ?_) (v := ?_) (by rfl) rfl ?_ ?_
            rotate_left 2
            · go_simp
              constructor
              · rfl
              · rfl
            clear hcv12
            refine hK.out _ _ trivial (fun hHeld => ?_)
            clear hK K
            refine norm_ (a' := ?_) ?_ ?_
            rotate_left
            · show Act.put _ (some 18) _ = _
              simp only [Act.put, List.setIfInBounds_toArray, List.set_cons_zero, List.set_cons_succ, i64_w, i32_w]
              rfl
            exact norm_ (by simp only [putAll, Act.put, List.setIfInBounds_toArray, List.set_cons_zero, List.set_cons_succ]) (hCont (v111) _ ⟨(by (with_reducible repeat (first | apply Kd.R_alloc | apply Kd.R_drewN | apply Kd.R_drew)); exact HO112.out), (by repeat (first | (with_reducible first | exact HB.out | apply below_alloc | apply pw_below_drewN | apply below_drew1) | exact HB.out))⟩)
          · skip
            have hcv11 := own_string (P := Tryd.prog) Tryd.underlying54 Tryd.underlying5 Tryd.underlying9 (Kd.own_of_R HO112.out)
            refine value_ (w1 := ?_) (v := ?_) (by rfl) rfl ?_ ?_
            rotate_left 2
            · go_simp
              constructor
              · rfl
              · rfl
            clear hcv11
            refine hK.out _ _ trivial (fun hHeld => ?_)
            clear hK K
            refine norm_ (a' := ?_) ?_ ?_
            rotate_left
            · show Act.put _ (some 18) _ = _
              simp only [Act.put, List.setIfInBounds_toArray, List.set_cons_zero, List.set_cons_succ, i64_w, i32_w]
              rfl
            refine one_ (i := 2) (N := some 12) #[true, true, true, true, true, true, true, true, true, false, false] rfl rfl (one_of HT_.out (by kernel_rfl)) (by decide) (fun K hK => ?_)
            refine goes_ Tryd.func33 (by kernel_rfl) rfl #[.int .i64 (wrap64 (Int.tdiv a0 10))] (by rfl) rfl rfl (by (try simp only [List.map_toArray, List.map_cons, List.map_nil]); first | done | rfl | (simp only [List.length_drop, List.length_take]; rfl) | (simp only [Array.mk.injEq, List.cons.injEq, Value.int.injEq, and_true, true_and]; (try unfold wrap64); omega)) ?_
            with_reducible refine (ih k (by omega) (wrap64 (Int.tdiv a0 10)) t109 _ A6.out).mono ?_
            rintro e w12 ⟨rfl, hb⟩
            refine ⟨_, rfl, ?_⟩
            have n0_ := Aside0.mk (Kd.R_below (by (with_reducible repeat (first | apply Kd.R_alloc | apply Kd.R_drewN | apply Kd.R_drew)); exact HO112.out) hb)
            have n1_ := Aside0.mk (below_step (by repeat (first | (with_reducible first | exact HB.out | apply below_alloc | apply pw_below_drewN | apply below_drew1) | exact HB.out)) hb)
            clear HO112
            clear HB
            have HO112 := n0_
            have HB := n1_
            clear n0_ n1_
            (try clear hb)
            (try clear hb2)
            (try clear hk)
            (try clear hi)
            refine hK.out _ _ trivial (fun hHeld => ?_)
            clear hK K
            refine norm_ (a' := ?_) ?_ ?_
            rotate_left
            · show Act.put _ (some 12) _ = _
              simp only [Act.put, List.setIfInBounds_toArray, List.set_cons_zero, List.set_cons_succ, i64_w, i32_w]
              rfl
            exact norm_ (by simp only [putAll, Act.put, List.setIfInBounds_toArray, List.set_cons_zero, List.set_cons_succ]) (hCont (v111) _ ⟨(by (with_reducible repeat (first | apply Kd.R_alloc | apply Kd.R_drewN | apply Kd.R_drew)); exact HO112.out), (by repeat (first | (with_reducible first | exact HB.out | apply below_alloc | apply pw_below_drewN | apply below_drew1) | exact HB.out))⟩)
      rintro v111 w13 ⟨h0_, h1_⟩
      have n0_ : Aside0 (Kd.R (Kd.int .u8) 5 w13 w.heap.size (fun _ => True) v111 y110) := ⟨h0_⟩
      have n1_ : Aside0 (Below w.heap.size w w13) := ⟨h1_⟩
      clear HB
      clear h0_ h1_
      have HO112 := n0_
      have HB := n1_
      clear n0_ n1_
      have hHeld := trivial
      refine norm_ (a' := ?_) ?_ ?_
      rotate_left
      · simp only [putAll, Act.put, List.setIfInBounds_toArray, List.set_cons_zero, List.set_cons_succ]
        rfl
      refine pure_ (i := 9) (N := some 19) (v := ?_) (a' := ?_) #[true, true, true, true, true, true, true, true, true, true, false] rfl rfl (any_of HT_.out (by kernel_rfl)) (fun _ _ _ h => h) (Or.inl ⟨by rfl, ?_⟩) ?_ ?_
      rotate_left
      · intro w'
        go_simp
        with_reducible rfl
      rotate_left
      · simp only [Act.put, List.setIfInBounds_toArray, List.set_cons_zero, List.set_cons_succ, i64_w, i32_w]
        rfl
      refine pure_ (i := 10) (N := some 2) (v := ?_) (a' := ?_) #[true, true, true, true, true, true, true, true, true, true, true] rfl rfl (any_of HT_.out (by kernel_rfl)) (fun _ _ _ h => h) (Or.inl ⟨by rfl, ?_⟩) ?_ ?_
      rotate_left
      · intro w'
        go_simp
        with_reducible rfl
      rotate_left
      · simp only [Act.put, List.setIfInBounds_toArray, List.set_cons_zero, List.set_cons_succ, i64_w, i32_w]
        rfl
      refine done_ (done_of HT_.out (by kernel_rfl)) ?_
      try go_wp2
      go_ret
      exact ⟨by first | rfl | (simp [errW_none, errW_some] <;> rfl) | (simp [*, errW_none, errW_some] <;> rfl), by repeat (first | (with_reducible first | exact HB.out | apply below_alloc | apply pw_below_drewN | apply below_drew1) | exact HB.out)⟩
    · rw [if_neg c7] at H
      exact absurd H (by simp)
def colophonref01_In.f (a0 : Int) : Option (Bool) := if a0 ≥ (-1099511627776) then (some (decide (a0 ≤ 1099511627776))) else (some false)
set_option maxHeartbeats 8000000 in
set_option maxRecDepth 100000 in
theorem colophonref01_In.calls (a0 : Int) (r : Bool) (w : World) (h : colophonref01_In.f a0 = some r) :
    Calls Tryd.prog 47 #[.int .i64 a0] w fun e w' => e = .returned (.bool r) ∧ Drawn0 w w' := by
  have H : (if a0 ≥ (-1099511627776) then (some (decide (a0 ≤ 1099511627776))) else (some false)) = some r := h
  clear h
  by_cases c2 : a0 ≥ (-1099511627776)
  · rw [if_pos c2] at H
    have c2b0 : decide ((-1099511627776) ≤ a0) = true := decide_eq_true c2
    clear c2
    obtain rfl := Option.some.inj H
    go_enter Tryd.func47, Tryd.ntmps47
    go_wp2
    go_ret
    exact ⟨by first | rfl | (simp; done) | (simp [*]; done), by repeat (first | exact Drawn0.refl _ | apply Drawn0.step)⟩
  · rw [if_neg c2] at H
    have c2b0 : decide ((-1099511627776) ≤ a0) = false := decide_eq_false c2
    clear c2
    obtain rfl := Option.some.inj H
    go_enter Tryd.func47, Tryd.ntmps47
    go_wp2
    go_ret
    exact ⟨by first | rfl | (simp; done) | (simp [*]; done), by repeat (first | exact Drawn0.refl _ | apply Drawn0.step)⟩
mutual
def colophonref02_Text.j0 : Nat → Int → ByteArray → Option (ByteArray × Bool)
  | 0, _, _ => none
  | k + 1, x0, x4 => (colophonref02_Decimal.f k (wrap64 (Int.tdiv x0 65536))).bind fun t114 => (if x4.size + t114.size ≤ 9223372036854775807 then (if (Int.tmod x0 65536) = 0 then (colophonref02_Text.j1 k (x4 ++ t114) (Int.tmod x0 65536)) else (if (x4 ++ t114).size + 1 ≤ 9223372036854775807 then (colophonref02_Text.j1 k ((x4 ++ t114) ++ (⟨#[46]⟩ : ByteArray)) (Int.tmod x0 65536)) else (none))) else (none))
def colophonref02_Text.j1 : Nat → ByteArray → Int → Option (ByteArray × Bool)
  | 0, _, _ => none
  | k + 1, x4, x5 => colophonref02_Text.l0 k x4 x5
def colophonref02_Text.l0 : Nat → ByteArray → Int → Option (ByteArray × Bool)
  | 0, _, _ => none
  | k + 1, x4, x5 => if x5 = 0 then (some (x4, true)) else ((some (([(wrap64 (48 + (wrap64 (Int.tdiv (wrap64 (x5 * 10)) 65536)))) % 256] : List Int) : List Int)).bind fun y115 => (if x4.size + (strOfNums y115).size ≤ 9223372036854775807 then (colophonref02_Text.l0 k (x4 ++ (strOfNums y115)) (Int.tmod (wrap64 (x5 * 10)) 65536)) else (none)))
end
def colophonref02_Text.f (k : Nat) (a0 : Int) : Option (ByteArray × Bool) := (colophonref01_In.f a0).bind fun t113 => (if t113 = true then (if a0 < 0 then (colophonref02_Text.j0 k (wrap64 (-a0)) (⟨#[45]⟩ : ByteArray)) else (colophonref02_Text.j0 k a0 (⟨#[]⟩ : ByteArray))) else (some ((⟨#[]⟩ : ByteArray), false)))
theorem colophonref02_Text.mono_l : ∀ k, (∀ y0 y1, LeO (colophonref02_Text.j0 k y0 y1) (colophonref02_Text.j0 (k + 1) y0 y1)) ∧ (∀ y0 y1, LeO (colophonref02_Text.j1 k y0 y1) (colophonref02_Text.j1 (k + 1) y0 y1)) ∧ (∀ y0 y1, LeO (colophonref02_Text.l0 k y0 y1) (colophonref02_Text.l0 (k + 1) y0 y1))
  | 0 => ⟨fun _ _ r h => by simp [colophonref02_Text.j0] at h, fun _ _ r h => by simp [colophonref02_Text.j1] at h, fun _ _ r h => by simp [colophonref02_Text.l0] at h⟩
  | k + 1 => by
    obtain ⟨ih0, ih1, ih2⟩ := colophonref02_Text.mono_l k
    refine ⟨?_, ?_, ?_⟩
    · intro y0 y1
      unfold colophonref02_Text.j0
      repeat' first
      | (with_reducible exact ih0 _ _)
      | (with_reducible exact ih1 _ _)
      | (with_reducible exact ih2 _ _)
      | (with_reducible exact colophonref02_Decimal.mono _ _)
      | (with_reducible exact LeO.refl _)
      | (with_reducible exact LeO.none _)
      | (with_reducible refine LeO.ite ?_ ?_)
      | (with_reducible refine LeO.bind ?_ (fun _ => ?_))
      | exact ih0 _ _
      | exact ih1 _ _
      | exact ih2 _ _
      | exact colophonref02_Decimal.mono _ _
      | exact LeO.none _
      | refine LeO.ite ?_ ?_
      | refine LeO.bind ?_ (fun _ => ?_)
    · intro y0 y1
      unfold colophonref02_Text.j1
      repeat' first
      | (with_reducible exact ih0 _ _)
      | (with_reducible exact ih1 _ _)
      | (with_reducible exact ih2 _ _)
      | (with_reducible exact colophonref02_Decimal.mono _ _)
      | (with_reducible exact LeO.refl _)
      | (with_reducible exact LeO.none _)
      | (with_reducible refine LeO.ite ?_ ?_)
      | (with_reducible refine LeO.bind ?_ (fun _ => ?_))
      | exact ih0 _ _
      | exact ih1 _ _
      | exact ih2 _ _
      | exact colophonref02_Decimal.mono _ _
      | exact LeO.none _
      | refine LeO.ite ?_ ?_
      | refine LeO.bind ?_ (fun _ => ?_)
    · intro y0 y1
      unfold colophonref02_Text.l0
      repeat' first
      | (with_reducible exact ih0 _ _)
      | (with_reducible exact ih1 _ _)
      | (with_reducible exact ih2 _ _)
      | (with_reducible exact colophonref02_Decimal.mono _ _)
      | (with_reducible exact LeO.refl _)
      | (with_reducible exact LeO.none _)
      | (with_reducible refine LeO.ite ?_ ?_)
      | (with_reducible refine LeO.bind ?_ (fun _ => ?_))
      | exact ih0 _ _
      | exact ih1 _ _
      | exact ih2 _ _
      | exact colophonref02_Decimal.mono _ _
      | exact LeO.none _
      | refine LeO.ite ?_ ?_
      | refine LeO.bind ?_ (fun _ => ?_)
theorem colophonref02_Text.mono : ∀ a0 k, LeO (colophonref02_Text.f k a0) (colophonref02_Text.f (k + 1) a0) := by
  intro a0 k
  obtain ⟨ih0, ih1, ih2⟩ := colophonref02_Text.mono_l k
  unfold colophonref02_Text.f
  repeat' first
      | (with_reducible exact ih0 _ _)
      | (with_reducible exact ih1 _ _)
      | (with_reducible exact ih2 _ _)
      | (with_reducible exact colophonref02_Decimal.mono _ _)
      | (with_reducible exact LeO.refl _)
      | (with_reducible exact LeO.none _)
      | (with_reducible refine LeO.ite ?_ ?_)
      | (with_reducible refine LeO.bind ?_ (fun _ => ?_))
      | exact ih0 _ _
      | exact ih1 _ _
      | exact ih2 _ _
      | exact colophonref02_Decimal.mono _ _
      | exact LeO.none _
      | refine LeO.ite ?_ ?_
      | refine LeO.bind ?_ (fun _ => ?_)
set_option maxHeartbeats 8000000 in
set_option maxRecDepth 100000 in
theorem colophonref02_Text.calls (k : Nat) (a0 : Int) (r1 : ByteArray) (r2 : Bool) (w : World) (h : colophonref02_Text.f k a0 = some (r1, r2)) :
    Calls Tryd.prog 22 #[.int .i64 a0] w fun e w' => e = .returned (.tuple #[.string r1, .bool r2]) ∧ Below w.heap.size w w' := by
  have HB := Aside0.mk (Below.refl w.heap.size w)
  have H : ((colophonref01_In.f a0).bind fun t113 => (if t113 = true then (if a0 < 0 then (colophonref02_Text.j0 k (wrap64 (-a0)) (⟨#[45]⟩ : ByteArray)) else (colophonref02_Text.j0 k a0 (⟨#[]⟩ : ByteArray))) else (some ((⟨#[]⟩ : ByteArray), false)))) = some (r1, r2) := h
  clear h
  replace H := Option.bind_eq_some_iff.mp H
  obtain ⟨t113, A20, H⟩ := H
  replace H : (if t113 = true then (if a0 < 0 then (colophonref02_Text.j0 k (wrap64 (-a0)) (⟨#[45]⟩ : ByteArray)) else (colophonref02_Text.j0 k a0 (⟨#[]⟩ : ByteArray))) else (some ((⟨#[]⟩ : ByteArray), false))) = some (r1, r2) := H
  have A2 := Aside0.mk A20
  clear A20
  by_cases c3 : t113 = true
  · subst c3
    have H1 : (if a0 < 0 then (colophonref02_Text.j0 k (wrap64 (-a0)) (⟨#[45]⟩ : ByteArray)) else (colophonref02_Text.j0 k a0 (⟨#[]⟩ : ByteArray))) = some (r1, r2) := by rw [if_pos rfl] at H; exact H
    clear H
    have H := H1
    clear H1
    have HC4 := Aside0.mk H
    clear H
    go_enter Tryd.func22, Tryd.ntmps22
    go_upto_if 10 with (first | ((with_reducible refine gate_callee (f := 47) rfl ?_); refine goesL_ (some 7) rfl rfl Tryd.func47 (by kernel_rfl) rfl #[.int .i64 a0] rfl (by (try simp only [List.map_toArray, List.map_cons, List.map_nil]); first | done | rfl | (simp only [List.length_drop, List.length_take]; rfl) | (simp only [Array.mk.injEq, List.cons.injEq, Value.int.injEq, and_true, true_and]; (try unfold wrap64); omega)) ?_; (with_reducible refine (colophonref01_In.calls a0 true _ A2.out).mono ?_); rintro e w' ⟨rfl, ⟨nd, rfl⟩⟩; refine ⟨_, rfl, ?_⟩))
    (try simp only [Act.put, List.setIfInBounds_toArray, List.set_cons_zero, List.set_cons_succ])
    go_cut [0, 4] (fun v0 v4 wc => ∃ (kq : Nat) (x0_3 : Int) (x4_3 : ByteArray), v0 = .int .i64 x0_3 ∧ v4 = .string x4_3 ∧ Aside0 (colophonref02_Text.j0 kq x0_3 x4_3 = some (r1, r2)) ∧ Aside0 (kq ≤ k) ∧ Aside0 (Below w.heap.size w wc))
    case first =>
      have H := HC4.out
      clear HC4
      by_cases c5 : a0 < 0
      · rw [if_pos c5] at H
        have c5b0 : decide (a0 < 0) = true := decide_eq_true c5
        clear c5
        (first | rw [c5b0] | (simp only [i64_w, i32_w]; rw [c5b0]) | skip)
        have H' := Aside0.mk H
        clear H
        go_wp2
        go_meet
        case rel => exact ⟨_, (wrap64 (-a0)), ((⟨#[45]⟩ : ByteArray)), (by first | rfl | (simp; done) | (simp [*]; done) | (simp [ne_nil_]; done)), (by first | rfl | (simp; done) | (simp [*]; done) | (simp [ne_nil_]; done)), H', ⟨by first | omega | exact Nat.le_refl _⟩, ⟨by repeat (first | (with_reducible first | exact HB.out | apply below_alloc | apply pw_below_drewN | apply below_drew1) | exact HB.out)⟩⟩
      · rw [if_neg c5] at H
        have c5b0 : decide (a0 < 0) = false := decide_eq_false c5
        clear c5
        (first | rw [c5b0] | (simp only [i64_w, i32_w]; rw [c5b0]) | skip)
        have H' := Aside0.mk H
        clear H
        go_wp2
        go_meet
        case rel => exact ⟨_, (a0), ((⟨#[]⟩ : ByteArray)), (by first | rfl | (simp; done) | (simp [*]; done) | (simp [ne_nil_]; done)), (by first | rfl | (simp; done) | (simp [*]; done) | (simp [ne_nil_]; done)), H', ⟨by first | omega | exact Nat.le_refl _⟩, ⟨by repeat (first | (with_reducible first | exact HB.out | apply below_alloc | apply pw_below_drewN | apply below_drew1) | exact HB.out)⟩⟩
    case rest =>
      clear HC4
      try clear c2
      try clear p2
      try clear c3
      try clear c4
      try clear c5
      try clear c5b0
      obtain ⟨kq, x0_3, x4_3, rfl, rfl, HA, HJ3, HB⟩ := hcut
      cases kq with
      | zero => exact absurd HA.out (by simp [colophonref02_Text.j0])
      | succ kj3 =>
        have H := HA.out
        clear HA
        simp only [colophonref02_Text.j0] at H
        replace H := Option.bind_eq_some_iff.mp H
        obtain ⟨t114, A60, H⟩ := H
        replace H : (if x4_3.size + t114.size ≤ 9223372036854775807 then (if (Int.tmod x0_3 65536) = 0 then (colophonref02_Text.j1 kj3 (x4_3 ++ t114) (Int.tmod x0_3 65536)) else (if (x4_3 ++ t114).size + 1 ≤ 9223372036854775807 then (colophonref02_Text.j1 kj3 ((x4_3 ++ t114) ++ (⟨#[46]⟩ : ByteArray)) (Int.tmod x0_3 65536)) else (none))) else (none)) = some (r1, r2) := H
        have A6 := Aside0.mk A60
        clear A60
        by_cases c7 : x4_3.size + t114.size ≤ 9223372036854775807
        · rw [if_pos c7] at H
          have c7b0 := eq_true c7
          have c7b1 : decide (x4_3.size + t114.size ≤ 9223372036854775807) = true := decide_eq_true c7
          try have c7b2 : (9223372036854775807 < x4_3.size + t114.size) = False := eq_false (Nat.not_lt.2 c7)
          try (have c7b3 := c7b2; simp only [ByteArray.size_append, sz_mk_, List.length_cons, List.length_nil, Nat.zero_add, Nat.reduceAdd] at c7b3)
          have HC8 := Aside0.mk H
          clear H
          go_upto_if 21 with (first | ((with_reducible refine gate_callee (f := 33) rfl ?_); refine goesL_ (some 16) rfl rfl Tryd.func33 (by kernel_rfl) rfl #[.int .i64 (wrap64 (Int.tdiv x0_3 65536))] rfl (by (try simp only [List.map_toArray, List.map_cons, List.map_nil]); first | done | rfl | (simp only [List.length_drop, List.length_take]; rfl) | (simp only [Array.mk.injEq, List.cons.injEq, Value.int.injEq, and_true, true_and]; (try unfold wrap64); omega)) ?_; (with_reducible refine (colophonref02_Decimal.calls kj3 (wrap64 (Int.tdiv x0_3 65536)) t114 _ A6.out).mono ?_); rintro e w9 ⟨rfl, hb⟩; refine ⟨_, rfl, ?_⟩; have n0_ := Aside0.mk (below_step (by repeat (first | (with_reducible first | exact HB.out | apply below_alloc | apply pw_below_drewN | apply below_drew1) | exact HB.out)) hb); clear HB; have HB := n0_; clear n0_; (try clear hb); (try clear hb2); (try clear hk); (try clear hi)))
          (try simp only [Act.put, List.setIfInBounds_toArray, List.set_cons_zero, List.set_cons_succ])
          go_cut [4] (fun v4 wc => ∃ (kq : Nat) (x4_7 : ByteArray), v4 = .string x4_7 ∧ Aside0 (colophonref02_Text.j1 kq x4_7 (Int.tmod x0_3 65536) = some (r1, r2)) ∧ Aside0 (kq ≤ kj3) ∧ Aside0 (Below w.heap.size w wc))
          case first =>
            have H := HC8.out
            clear HC8
            by_cases c10 : (Int.tmod x0_3 65536) = 0
            · rw [if_pos c10] at H
              have c10b0 : ((Int.tmod x0_3 65536) == 0) = true := beq_iff_eq.mpr c10
              have c10b1 : ((Int.tmod x0_3 65536) != 0) = false := bne_eq_false_iff_eq.mpr c10
              clear c10
              (first | rw [c10b0] | (simp only [i64_w, i32_w]; rw [c10b0]) | skip)
              have H' := Aside0.mk H
              clear H
              go_wp2
              go_meet
              case rel => exact ⟨_, (x4_3 ++ t114), (by first | rfl | (simp; done) | (simp [*]; done) | (simp [ne_nil_]; done)), H', ⟨by have := HJ3.out; first | omega | exact Nat.le_refl _⟩, ⟨by repeat (first | (with_reducible first | exact HB.out | apply below_alloc | apply pw_below_drewN | apply below_drew1) | exact HB.out)⟩⟩
            · rw [if_neg c10] at H
              have c10b0 : ((Int.tmod x0_3 65536) == 0) = false := beq_eq_false_iff_ne.mpr c10
              have c10b1 : ((Int.tmod x0_3 65536) != 0) = true := bne_iff_ne.mpr c10
              (first | rw [c10b0] | (simp only [i64_w, i32_w]; rw [c10b0]) | skip)
              by_cases c11 : (x4_3 ++ t114).size + 1 ≤ 9223372036854775807
              · rw [if_pos c11] at H
                have c11b0 := eq_true c11
                have c11b1 : decide ((x4_3 ++ t114).size + 1 ≤ 9223372036854775807) = true := decide_eq_true c11
                try have c11b2 : (9223372036854775807 < (x4_3 ++ t114).size + 1) = False := eq_false (Nat.not_lt.2 c11)
                try (have c11b3 := c11b2; simp only [ByteArray.size_append, sz_mk_, List.length_cons, List.length_nil, Nat.zero_add, Nat.reduceAdd] at c11b3)
                have H' := Aside0.mk H
                clear H
                go_wp2
                go_meet
                case rel => exact ⟨_, ((x4_3 ++ t114) ++ (⟨#[46]⟩ : ByteArray)), (by first | rfl | (simp; done) | (simp [*]; done) | (simp [ne_nil_]; done)), H', ⟨by have := HJ3.out; first | omega | exact Nat.le_refl _⟩, ⟨by repeat (first | (with_reducible first | exact HB.out | apply below_alloc | apply pw_below_drewN | apply below_drew1) | exact HB.out)⟩⟩
              · rw [if_neg c11] at H
                exact absurd H (by simp)
          case rest =>
            clear HC8
            try clear c1
            try clear c2
            try clear p2
            try clear c3
            try clear c4
            try clear c5
            try clear c5b0
            try clear p6
            try clear c7
            try clear c7b0
            try clear c7b1
            try clear c7b2
            try clear c10
            try clear c10b0
            try clear c10b1
            try clear c11
            try clear c11b0
            try clear c11b1
            try clear c11b2
            try clear p2
            obtain ⟨kq, x4_7, rfl, HA, HJ7, HB⟩ := hcut
            cases kq with
            | zero => exact absurd HA.out (by simp [colophonref02_Text.j1])
            | succ kj7 =>
              have H := HA.out
              clear HA
              simp only [colophonref02_Text.j1] at H
              have H' := Aside0.mk H
              clear H
              go_wp2
              go_loopg [4, 5] kj7 (fun kq v4 v5 w' => ∃ (x4_3 : ByteArray) (x5_3 : Int), v4 = .string x4_3 ∧ v5 = .int .i64 x5_3 ∧ Aside0 (colophonref02_Text.l0 kq x4_3 x5_3 = some (r1, r2)) ∧ Aside0 (kq ≤ kj7) ∧ Aside0 (Below w.heap.size w w'))
              case atStart => exact ⟨(x4_7), ((Int.tmod x0_3 65536)), (by first | rfl | (simp; done) | (simp [*]; done) | (simp [ne_nil_]; done)), (by first | rfl | (simp; done) | (simp [*]; done) | (simp [ne_nil_]; done)), H', ⟨Nat.le_refl _⟩, ⟨by repeat (first | (with_reducible first | exact HB.out | apply below_alloc | apply pw_below_drewN | apply below_drew1) | exact HB.out)⟩⟩
              case round =>
                clear H'
                try clear c1
                try clear c2
                try clear p2
                try clear c3
                try clear c4
                try clear c5
                try clear c5b0
                try clear p6
                try clear c7
                try clear c7b0
                try clear c7b1
                try clear c7b2
                try clear c10
                try clear c10b0
                try clear c10b1
                try clear c11
                try clear c11b0
                try clear c11b1
                try clear c11b2
                try clear p2
                try clear p6
                obtain ⟨x4_3, x5_3, rfl, rfl, HA, HK3, HB⟩ := hrel
                cases gk with
                | zero => exact absurd HA.out (by simp [colophonref02_Text.l0])
                | succ k3 =>
                  have H := HA.out
                  clear HA
                  simp only [colophonref02_Text.l0] at H
                  by_cases c12 : x5_3 = 0
                  · rw [if_pos c12] at H
                    have c12b0 : (x5_3 == 0) = true := beq_iff_eq.mpr c12
                    have c12b1 : (x5_3 != 0) = false := bne_eq_false_iff_eq.mpr c12
                    clear c12
                    simp only [Option.some.injEq, Prod.mk.injEq] at H
                    obtain ⟨rfl, rfl⟩ := H
                    go_wp2
                    go_ret2
                    exact ⟨by first | rfl | (simp [errW_none, errW_some] <;> rfl) | (simp [*, errW_none, errW_some] <;> rfl), by repeat (first | (with_reducible first | exact HB.out | apply below_alloc | apply pw_below_drewN | apply below_drew1) | exact HB.out)⟩
                  · rw [if_neg c12] at H
                    have c12b0 : (x5_3 == 0) = false := beq_eq_false_iff_ne.mpr c12
                    have c12b1 : (x5_3 != 0) = true := bne_iff_ne.mpr c12
                    obtain ⟨y115, hy115⟩ : ∃ y_ : List Int, y_ = (([(wrap64 (48 + (wrap64 (Int.tdiv (wrap64 (x5_3 * 10)) 65536)))) % 256] : List Int)) := ⟨_, rfl⟩
                    replace H : (if x4_3.size + (strOfNums y115).size ≤ 9223372036854775807 then (colophonref02_Text.l0 k3 (x4_3 ++ (strOfNums y115)) (Int.tmod (wrap64 (x5_3 * 10)) 65536)) else (none)) = some (r1, r2) := by first | (rw [hy115]; with_reducible exact H) | (have H2_ := (Option.bind_some _ _).symm.trans H; rw [hy115]; with_reducible exact H2_) | (have H2_ := (Option.bind_some _ _).symm.trans H; with_reducible exact H2_) | with_reducible exact H | (rw [hy115]; exact H) | exact H
                    have Ny115 := Aside0.mk hy115
                    clear hy115
                    by_cases c13 : x4_3.size + (strOfNums y115).size ≤ 9223372036854775807
                    · rw [if_pos c13] at H
                      have c13b0 := eq_true c13
                      have c13b1 : decide (x4_3.size + (strOfNums y115).size ≤ 9223372036854775807) = true := decide_eq_true c13
                      try have c13b2 : (9223372036854775807 < x4_3.size + (strOfNums y115).size) = False := eq_false (Nat.not_lt.2 c13)
                      try (have c13b3 := c13b2; simp only [ByteArray.size_append, sz_mk_, List.length_cons, List.length_nil, Nat.zero_add, Nat.reduceAdd] at c13b3)
                      have H' := Aside0.mk H
                      clear H
                      go_wp2_with (first | ((with_reducible refine gate_dst (N := 33) rfl ?_); refine Kd.R_lit (Kd.int .u8) _ 5 ?hg (N := 33) ?hd (xs := ([(wrap64 (48 + (wrap64 (Int.tdiv (wrap64 (x5_3 * 10)) 65536)))) % 256] : List Int)) (inner := [.int .u8 ((wrap64 (48 + (wrap64 (Int.tdiv (wrap64 (x5_3 * 10)) 65536)))) % 256)]) (ok := fun _ => True) (okp := fun _ => True) ?hr ?hp (fun _ hk => hk) trivial (Below.refl _ _) (Nat.le_refl _) (by simp) ?_; (case hd => rfl); (case hg => rfl); (case hr => first | (go_simp; done) | (go_simp; rfl)); (case hp => exact (Reps.one (show Kd.M (Kd.int .u8) _ _ _ ((wrap64 (48 + (wrap64 (Int.tdiv (wrap64 (x5_3 * 10)) 65536)))) % 256) [.int .u8 ((wrap64 (48 + (wrap64 (Int.tdiv (wrap64 (x5_3 * 10)) 65536)))) % 256)] from rfl) (Reps.none _ _))); intro v116 w14 ho15 hb hg_ hnew_; clear hg_ hnew_; (first | rw [← Ny115.out] at ho15 | (simp only [Int.reduceToNat] at ho15; rw [← Ny115.out] at ho15)); have n0_ := Aside0.mk (Kd.R_lower ho15 (below_size (by repeat (first | (with_reducible first | exact HB.out | apply below_alloc | apply pw_below_drewN | apply below_drew1) | exact HB.out)))); have n1_ := Aside0.mk (below_step (by repeat (first | (with_reducible first | exact HB.out | apply below_alloc | apply pw_below_drewN | apply below_drew1) | exact HB.out)) hb); clear HB; have HO117 := n0_; have HB := n1_; clear n0_ n1_; clear hb ho15; have hcv16 := own_string (P := Tryd.prog) Tryd.underlying54 Tryd.underlying5 Tryd.underlying9 (Kd.own_of_R HO117.out)))
                      go_roundg k3
                      case measure => have := HJ3.out; have := HJ7.out; have := HK3.out; omega
                      case rel => exact ⟨(x4_3 ++ (strOfNums y115)), (Int.tmod (wrap64 (x5_3 * 10)) 65536), (by first | rfl | (simp; done) | (simp [*]; done) | (simp [ne_nil_]; done)), (by first | rfl | (simp; done) | (simp [*]; done) | (simp [ne_nil_]; done)), H', ⟨by have := HJ3.out; have := HJ7.out; have := HK3.out; omega⟩, ⟨by repeat (first | (with_reducible first | exact HB.out | apply below_alloc | apply pw_below_drewN | apply below_drew1) | exact HB.out)⟩⟩
                    · rw [if_neg c13] at H
                      exact absurd H (by simp)
        · rw [if_neg c7] at H
          exact absurd H (by simp)
  · replace c3 := Bool.eq_false_iff.mpr c3
    subst c3
    have H1 : (some ((⟨#[]⟩ : ByteArray), false)) = some (r1, r2) := by rw [if_neg (show ¬ (false = true) by decide)] at H; exact H
    clear H
    have H := H1
    clear H1
    simp only [Option.some.injEq, Prod.mk.injEq] at H
    obtain ⟨rfl, rfl⟩ := H
    go_enter Tryd.func22, Tryd.ntmps22
    go_wp2_with (first | ((with_reducible refine gate_callee (f := 47) rfl ?_); refine goesL_ (some 7) rfl rfl Tryd.func47 (by kernel_rfl) rfl #[.int .i64 a0] rfl (by (try simp only [List.map_toArray, List.map_cons, List.map_nil]); first | done | rfl | (simp only [List.length_drop, List.length_take]; rfl) | (simp only [Array.mk.injEq, List.cons.injEq, Value.int.injEq, and_true, true_and]; (try unfold wrap64); omega)) ?_; (with_reducible refine (colophonref01_In.calls a0 false _ A2.out).mono ?_); rintro e w' ⟨rfl, ⟨nd, rfl⟩⟩; refine ⟨_, rfl, ?_⟩))
    go_ret2
    exact ⟨by first | rfl | (simp [errW_none, errW_some] <;> rfl) | (simp [*, errW_none, errW_some] <;> rfl), by repeat (first | (with_reducible first | exact HB.out | apply below_alloc | apply pw_below_drewN | apply below_drew1) | exact HB.out)⟩
end Go.Proofs.YtekifiblehmafaaDoor.X
end
section
namespace Go.Proofs.YtekifiblehmafaaDoor.X
open Go.RowKit Go.Proofs.YtekifiblehmafaaDoorW.PrintWords
set_option linter.unusedVariables false
set_option linter.unusedSimpArgs false
def asU (l : List Nat) : List UInt8 := l.map fun d => UInt8.ofNat (48 + d)
theorem asU_append (a b : List Nat) : asU (a ++ b) = asU a ++ asU b := by simp [asU]
theorem asU_length (a : List Nat) : (asU a).length = a.length := by simp [asU]
theorem bs_append (a b : List UInt8) : bs a ++ bs b = bs (a ++ b) := Go.WideShapes.bytes_inj (by
  show (bs a ++ bs b).data.toList = _
  rw [ByteArray.data_append, Array.toList_append]; rfl)
theorem strOfNums_one (n : Int) : strOfNums [n] = bs [UInt8.ofNat n.toNat] := rfl
theorem decDigits_asU (u : Nat) : Lib.decDigits u = asU (natDigits u) := by
  induction u using Nat.strongRecOn with
  | _ u ih =>
    rw [Lib.decDigits]
    by_cases h : u < 10
    · rw [dif_pos h, natDigits_small h]; rfl
    · rw [dif_neg h, natDigits_big h, asU_append, ih (u / 10) (by omega)]; rfl
theorem itoa_f (u : Nat) (h : u < 9000000000000000000) : strconv_Itoa.f (u : Int) = some (bs (asU (natDigits u))) := by
  unfold strconv_Itoa.f
  rw [if_pos ⟨by omega, by omega⟩, Lib.itoa_nonneg, decDigits_asU]; rfl
def textBody (u : Nat) : List UInt8 := asU (natDigits (u / 65536)) ++ if u % 65536 = 0 then [] else 46 :: asU (fracD 16 (u % 65536))
def textOut (x : Int) : ByteArray × Bool :=
  if -1099511627776 ≤ x ∧ x ≤ 1099511627776 then (bs ((if x < 0 then [45] else []) ++ textBody x.natAbs), true) else (bs [], false)
theorem and16 (n : Nat) (h : n < 4611686018427387904) : Go.bits .and .i64 (n : Int) 65535 = ((n % 65536 : Nat) : Int) := by
  have := bits_mask .i64 62 (by decide) (fun m h0 h1 => by rw [IntKind.wrap_i64]; omega) 16 (by decide) (n : Int) (by omega) (by omega)
  simpa using this
theorem trimRight_asU (l : List Nat) (h : ∀ d ∈ l, d < 10) : Lib.trimRightB (asU l) 48 = asU (trimZ l) := by
  unfold Lib.trimRightB trimZ asU
  rw [← List.map_reverse]
  have h' : ∀ d ∈ l.reverse, d < 10 := fun d hd => h d (List.mem_reverse.1 hd)
  generalize l.reverse = m at h' ⊢
  rw [List.map_reverse]
  congr 1
  induction m with
  | nil => rfl
  | cons a m ih =>
    have ha := h' a List.mem_cons_self
    simp only [List.map_cons, List.dropWhile_cons]
    have e : (UInt8.ofNat (48 + a) == 48) = (a == 0) := by
      rw [Bool.eq_iff_iff, beq_iff_eq, beq_iff_eq]
      constructor
      · intro h1
        have := congrArg UInt8.toNat h1
        simp at this; omega
      · rintro rfl; rfl
    rw [e]
    split
    · exact ih (fun d hd => h' d (List.mem_cons_of_mem _ hd))
    · rfl
theorem repeat_asU (n : Nat) : Lib.repeatL [48] n = asU (List.replicate n 0) := by
  induction n with
  | zero => rfl
  | succ n ih => rw [Lib.repeatL, ih]; rfl
theorem padded (r : Nat) (hr : r < 65536) : List.replicate (16 - (natDigits (r * 152587890625)).length) 0 ++ natDigits (r * 152587890625) = full 16 r := by
  have hl : (natDigits (r * 152587890625)).length ≤ 16 := natDigits_length 15 _ (by omega)
  apply val_inj
  · rw [List.length_append, List.length_replicate, full_length]; omega
  · intro d hd
    rcases List.mem_append.1 hd with h | h
    · rw [List.eq_of_mem_replicate h]; omega
    · exact natDigits_digits _ d h
  · exact full_digits 16 r hr
  · rw [val_replicate, val_natDigits, (rem16 r hr).2]
theorem part_len (r : Nat) (hr : r < 65536) : (natDigits (r * 152587890625)).length ≤ 16 := natDigits_length 15 _ (by omega)
theorem part_wrap (r : Nat) (hr : r < 65536) : wrap64 ((r : Int) * 152587890625) = ((r * 152587890625 : Nat) : Int) := by unfold wrap64; omega
theorem part_lt (r : Nat) (hr : r < 65536) : r * 152587890625 < 9000000000000000000 := by omega
theorem pad_wrap (n : Nat) (h : n ≤ 16) : wrap64 (16 - (n : Int)) = ((16 - n : Nat) : Int) := by unfold wrap64; omega
theorem text_j0 (u : Nat) (hu : u ≤ 1099511627776) (p : List UInt8) (hp : p.length ≤ 1) (k : Nat) : digits_Text.j0 (k + 1) (u : Int) (bs p) = some (bs (p ++ textBody u), true) := by
  have hl1 : (natDigits (u / 65536)).length ≤ 8 := natDigits_length 7 _ (by omega)
  have e1 : (u : Int) / 65536 = ((u / 65536 : Nat) : Int) := by omega
  simp only [digits_Text.j0]
  rw [e1, itoa_f _ (by omega), and16 u (by omega)]
  simp only [Option.bind_some, bs_size, asU_length, bs_append]
  rw [if_pos (by omega)]
  by_cases h0 : u % 65536 = 0
  · rw [if_pos (by omega)]
    unfold textBody
    rw [if_pos h0, List.append_nil]
  · rw [if_neg (by omega)]
    have hr : u % 65536 < 65536 := Nat.mod_lt _ (by omega)
    unfold textBody
    rw [if_neg h0]
    generalize u % 65536 = r at hr ⊢
    have hpad := padded r hr
    have hl := part_len r hr
    have hl0 := natDigits_pos (r * 152587890625)
    rw [part_wrap r hr, itoa_f _ (part_lt r hr)]
    generalize natDigits (r * 152587890625) = D at hpad hl hl0 ⊢
    generalize natDigits (u / 65536) = W at hl1 ⊢
    have hl3 := fracD_length 16 r
    have e4 : strings_Repeat.f (⟨#[48]⟩ : ByteArray) ((16 - D.length : Nat) : Int) = some (bs (asU (List.replicate (16 - D.length) 0))) := by
      unfold strings_Repeat.f
      rw [if_pos ⟨by omega, by omega, by show 1 * _ ≤ _; omega⟩, Int.toNat_natCast]
      show some (bs (Lib.repeatL [48] _)) = _
      rw [repeat_asU]
    have e5 : strings_TrimRight.f (bs (asU (full 16 r))) (⟨#[48]⟩ : ByteArray) = some (bs (asU (fracD 16 r))) := by
      show (if (48 : UInt8).toNat < 128 ∧ (bs (asU (full 16 r))).size ≤ 9223372036854775807 then some (bs (Lib.trimRightB (asU (full 16 r)) 48)) else none) = _
      rw [if_pos ⟨by decide, by rw [bs_size, asU_length, full_length]; omega⟩, trimRight_asU _ (full_digits 16 _ hr), trimZ_full 16 _ hr (rem16 _ hr).1]
    generalize full 16 r = F at hpad e5
    generalize fracD 16 r = G at e5 hl3 ⊢
    rw [Option.bind_some, bs_size, asU_length, pad_wrap _ hl, e4, Option.bind_some, bs_size, asU_length, List.length_replicate, bs_append, ← asU_append, hpad]
    rw [if_pos (by omega), e5, Option.bind_some, bs_size, asU_length, if_pos (by omega)]
    have e6 : (⟨#[46]⟩ : ByteArray) = bs [46] := rfl
    rw [e6, bs_append, bs_append, bs_size]
    rw [if_pos (by simp only [List.length_append, asU_length, List.length_cons, List.length_nil]; omega)]
    simp
theorem textOut_in (x : Int) (h1 : -1099511627776 ≤ x) (h2 : x ≤ 1099511627776) : textOut x = (bs ((if x < 0 then [45] else []) ++ textBody x.natAbs), true) := by
  unfold textOut; rw [if_pos ⟨h1, h2⟩]
theorem textOut_out (x : Int) (h : ¬ (-1099511627776 ≤ x ∧ x ≤ 1099511627776)) : textOut x = (bs [], false) := by
  unfold textOut; rw [if_neg h]
theorem text_is (x : Int) (k : Nat) : digits_Text.f (k + 1) x = some (textOut x) := by
  unfold digits_Text.f fixed_In.f
  by_cases h1 : -1099511627776 ≤ x
  · rw [if_pos h1, Option.bind_some]
    by_cases h2 : x ≤ 1099511627776
    · rw [if_pos (by simpa using h2), textOut_in x h1 h2]
      by_cases h3 : x < 0
      · rw [if_pos h3, if_pos h3]
        have e : wrap64 (-x) = (x.natAbs : Int) := by unfold wrap64; omega
        rw [e]
        exact text_j0 x.natAbs (by omega) [45] (by simp) k
      · rw [if_neg h3, if_neg h3]
        have e : x = (x.natAbs : Int) := by omega
        have := text_j0 x.natAbs (by omega) [] (by simp) k
        rw [← e] at this
        exact this
    · rw [if_neg (by simpa using h2), textOut_out x (fun h => h2 h.2)]; rfl
  · rw [if_neg h1, textOut_out x (fun h => h1 h.1)]; rfl
theorem decimal_is (u : Nat) (hu : u < 4611686018427387904) : Ev (fun n => colophonref02_Decimal.f n (u : Int)) (bs (asU (natDigits u))) := by
  induction u using Nat.strongRecOn with
  | _ u ih =>
    refine Ev.step (f := fun k => if (u : Int) < 10 then (some (strOfNums (([(wrap64 (48 + (u : Int))) % 256] : List Int)))) else ((colophonref02_Decimal.f k (wrap64 (Int.tdiv (u : Int) 10))).bind fun t109 => ((some (([(wrap64 (48 + (Int.tmod (u : Int) 10))) % 256] : List Int) : List Int)).bind fun y110 => (if t109.size + (strOfNums y110).size ≤ 9223372036854775807 then (some (t109 ++ (strOfNums y110))) else (none))))) (fun k => rfl) ?_
    by_cases h : u < 10
    · have e : wrap64 (48 + (u : Int)) % 256 = ((48 + u : Nat) : Int) := by unfold wrap64; omega
      rw [natDigits_small h]
      refine Ev.congr (f := fun _ => some (bs (asU [u]))) (fun k => ?_) (Ev.now _)
      rw [if_pos (by omega), e, strOfNums_one, Int.toNat_natCast]; rfl
    · have e1 : wrap64 (Int.tdiv (u : Int) 10) = ((u / 10 : Nat) : Int) := by
        rw [Int.tdiv_eq_ediv_of_nonneg (by omega)]; unfold wrap64; omega
      have e2 : wrap64 (48 + (Int.tmod (u : Int) 10)) % 256 = ((48 + u % 10 : Nat) : Int) := by
        rw [Int.tmod_eq_emod_of_nonneg (by omega)]; unfold wrap64; omega
      have hl := natDigits_length_le (u / 10)
      rw [natDigits_big h]
      refine Ev.congr (f := fun k => (colophonref02_Decimal.f k ((u / 10 : Nat) : Int)).bind fun t109 => if t109.size + 1 ≤ 9223372036854775807 then some (t109 ++ bs (asU [u % 10])) else none) (fun k => ?_) (Ev.bind (ih (u / 10) (by omega) (by omega)) (Ev.congr (f := fun _ => some (bs (asU (natDigits (u / 10) ++ [u % 10])))) (fun k => ?_) (Ev.now _)))
      · rw [if_neg (by omega), e1, e2]
        simp only [Option.bind_some, strOfNums_one, Int.toNat_natCast]
        rfl
      · rw [bs_size, asU_length, if_pos (by omega), bs_append, ← asU_append]
theorem ref_l0 (m : Nat) : ∀ (r : Nat) (p : List UInt8), r < 65536 → remk m r = 0 → p.length + m ≤ 1000 →
    Ev (fun n => colophonref02_Text.l0 n (bs p) (r : Int)) (bs (p ++ asU (fracD m r)), true) := by
  induction m with
  | zero =>
    intro r p hr h hp
    rw [remk_zero] at h
    subst h
    refine Ev.step (f := fun _ => some (bs p, true)) (fun k => ?_) ?_
    · simp only [colophonref02_Text.l0]
      rw [if_pos (by omega)]
    · rw [fracD_zero]; simp only [asU, List.map_nil, List.append_nil]; exact Ev.now _
  | succ m ih =>
    intro r p hr h hp
    by_cases h0 : r = 0
    · subst h0
      refine Ev.step (f := fun _ => some (bs p, true)) (fun k => ?_) ?_
      · simp only [colophonref02_Text.l0]
        rw [if_pos (by omega)]
      · rw [fracD_zero]; simp only [asU, List.map_nil, List.append_nil]; exact Ev.now _
    · rw [remk_succ] at h
      have hd : r * 10 / 65536 < 10 := by omega
      have := ih (r * 10 % 65536) (p ++ asU [r * 10 / 65536]) (Nat.mod_lt _ (by omega)) h (by rw [List.length_append, asU_length, List.length_singleton]; omega)
      rw [fracD_succ, if_neg h0]
      rw [List.append_assoc, ← asU_append] at this
      refine Ev.step (fun k => ?_) this
      have e1 : wrap64 ((r : Int) * 10) = ((r * 10 : Nat) : Int) := by unfold wrap64; omega
      have e2 : wrap64 (48 + wrap64 (Int.tdiv ((r * 10 : Nat) : Int) 65536)) % 256 = ((48 + r * 10 / 65536 : Nat) : Int) := by
        rw [Int.tdiv_eq_ediv_of_nonneg (by omega)]; unfold wrap64; omega
      have e3 : Int.tmod ((r * 10 : Nat) : Int) 65536 = ((r * 10 % 65536 : Nat) : Int) := by
        rw [Int.tmod_eq_emod_of_nonneg (by omega)]; omega
      simp only [colophonref02_Text.l0]
      rw [if_neg (by omega), Option.bind_some, e1, e2, e3, strOfNums_one, Int.toNat_natCast, bs_size, bs_size, bs_append, if_pos (by simp; omega)]
      rfl
theorem ref_text_j0 (u : Nat) (hu : u ≤ 1099511627776) (p : List UInt8) (hp : p.length ≤ 1) : Ev (fun n => colophonref02_Text.j0 n (u : Int) (bs p)) (bs (p ++ textBody u), true) := by
  have hl1 : (natDigits (u / 65536)).length ≤ 8 := natDigits_length 7 _ (by omega)
  have hr : u % 65536 < 65536 := Nat.mod_lt _ (by omega)
  have e1 : wrap64 (Int.tdiv (u : Int) 65536) = ((u / 65536 : Nat) : Int) := by
    rw [Int.tdiv_eq_ediv_of_nonneg (by omega)]; unfold wrap64; omega
  have e2 : Int.tmod (u : Int) 65536 = ((u % 65536 : Nat) : Int) := by
    rw [Int.tmod_eq_emod_of_nonneg (by omega)]; omega
  unfold textBody
  generalize u % 65536 = r at hr e2 ⊢
  have hrem := (rem16 r hr).1
  refine Ev.step (f := fun k => (colophonref02_Decimal.f k ((u / 65536 : Nat) : Int)).bind fun t114 => (if (bs p).size + t114.size ≤ 9223372036854775807 then (if (r : Int) = 0 then (colophonref02_Text.j1 k (bs p ++ t114) (r : Int)) else (if (bs p ++ t114).size + 1 ≤ 9223372036854775807 then (colophonref02_Text.j1 k ((bs p ++ t114) ++ (⟨#[46]⟩ : ByteArray)) (r : Int)) else (none))) else (none))) (fun k => ?_) ?_
  · simp only [colophonref02_Text.j0]
    rw [e1, e2]
  · refine Ev.bind (decimal_is _ (by omega)) ?_
    generalize natDigits (u / 65536) = W at hl1 ⊢
    by_cases h0 : r = 0
    · rw [if_pos h0]
      subst h0
      refine Ev.congr (f := fun k => colophonref02_Text.j1 k (bs (p ++ asU W)) ((0 : Nat) : Int)) (fun k => ?_) (Ev.step (f := fun k => colophonref02_Text.l0 k (bs (p ++ asU W)) ((0 : Nat) : Int)) (fun k => by simp only [colophonref02_Text.j1]) ?_)
      · rw [bs_size, bs_size, asU_length, if_pos (by omega), if_pos (by omega), bs_append]
      · have := ref_l0 16 0 (p ++ asU W) (by omega) hrem (by rw [List.length_append, asU_length]; omega)
        rw [fracD_zero] at this
        simpa [asU] using this
    · rw [if_neg h0]
      refine Ev.congr (f := fun k => colophonref02_Text.j1 k (bs (p ++ asU W ++ [46])) (r : Int)) (fun k => ?_) (Ev.step (f := fun k => colophonref02_Text.l0 k (bs (p ++ asU W ++ [46])) (r : Int)) (fun k => by simp only [colophonref02_Text.j1]) ?_)
      · have e6 : (⟨#[46]⟩ : ByteArray) = bs [46] := rfl
        rw [bs_append, e6, bs_append, bs_size, bs_size, bs_size, asU_length, if_pos (by omega), if_neg (by omega), if_pos (by rw [List.length_append, asU_length]; omega)]
      · have := ref_l0 16 r (p ++ asU W ++ [46]) hr hrem (by rw [List.length_append, List.length_append, asU_length]; simp; omega)
        simpa using this
theorem ref_text_is (x : Int) : Ev (fun n => colophonref02_Text.f n x) (textOut x) := by
  by_cases h1 : -1099511627776 ≤ x
  · by_cases h2 : x ≤ 1099511627776
    · rw [textOut_in x h1 h2]
      by_cases h3 : x < 0
      · rw [if_pos h3]
        have e : wrap64 (-x) = (x.natAbs : Int) := by unfold wrap64; omega
        refine Ev.congr (fun k => ?_) (ref_text_j0 x.natAbs (by omega) [45] (by simp))
        unfold colophonref02_Text.f colophonref01_In.f
        rw [if_pos (by omega), Option.bind_some, if_pos (by simpa using h2), if_pos h3, e]; rfl
      · rw [if_neg h3]
        have e : x = (x.natAbs : Int) := by omega
        refine Ev.congr (fun k => ?_) (ref_text_j0 x.natAbs (by omega) [] (by simp))
        unfold colophonref02_Text.f colophonref01_In.f
        rw [if_pos (by omega), Option.bind_some, if_pos (by simpa using h2), if_neg h3, ← e]; rfl
    · rw [textOut_out x (fun h => h2 h.2)]
      refine Ev.congr (fun k => ?_) (Ev.now _)
      unfold colophonref02_Text.f colophonref01_In.f
      rw [if_pos (by omega), Option.bind_some, if_neg (by simpa using h2)]; rfl
  · rw [textOut_out x (fun h => h1 h.1)]
    refine Ev.congr (fun k => ?_) (Ev.now _)
    unfold colophonref02_Text.f colophonref01_In.f
    rw [if_neg (by omega)]; rfl
end Go.Proofs.YtekifiblehmafaaDoor.X
end
section
namespace Go.Proofs.YtekifiblehmafaaDoor.X
open Go.RowKit Go.Proofs.YtekifiblehmafaaDoorW.PrintWords Go.Proofs.YtekifiblehmafaaDoorW.PrintLast Go.Proofs.YtekifiblehmafaaDoorW.PrintMore
attribute [local go_sem] max2_int min2_int max_two min_two max_three min_three max_four min_four   -- for this text's walks alone
set_option linter.unusedVariables false
set_option linter.unusedSimpArgs false
end Go.Proofs.YtekifiblehmafaaDoor.X
end
section
set_option linter.unusedVariables false
set_option linter.unusedSimpArgs false
namespace Go.Proofs.YtekifiblehmafaaDoor.X
open Go.RowKit Go.Shelf Go.Proofs.YtekifiblehmafaaDoorW.PrintWords
def num (x : Int) : ByteArray := (textOut x).1
set_option maxHeartbeats 1000000 in
theorem emit_n (x : Int) (w : World) (hG : GW w) :
    Calls Tryd.prog 81 #[.int .i64 x] w fun e w' => e = .returned (.string (num x)) ∧ Below w.heap.size w w' := by
  have HG := Aside0.mk hG
  clear hG
  go_enter Tryd.func81, Tryd.ntmps81
  go_wp2_with (go_at_call 21; refine (digits_Text.calls 1 x (textOut x).1 (textOut x).2 _ HG (text_is x 0)).mono ?_; rintro e w' ⟨rfl, hb⟩)
  go_ret
  exact ⟨rfl, hb⟩
def GB (B : Nat) (W : World) : Prop := ∀ w', Below B W w' → GW w'
theorem GB.of {W : World} (h : GW W) : GB W.heap.size W := fun _ hb => h.below hb
theorem GB.gw {B : Nat} {W : World} (h : GB B W) : GW W := h W (Below.refl _ _)
theorem GB.below {B : Nat} {W w' : World} (h : GB B W) (hb : Below B W w') : GB B w' := fun _ h2 => h _ (hb.trans h2)
structure Wk (W : World) (B b : Nat) (T : List UInt8) (w' : World) : Prop where
  gb : GB B W
  wr : WR B b T w'
  bel : Below B W w'
  oth : Lib.OthersKept 5 (some b) W w'
  size : B ≤ w'.heap.size
theorem Wk.start {W : World} {B b : Nat} {T : List UInt8} (hG : GB B W) (h : WR B b T W) (hB : B ≤ W.heap.size) : Wk W B b T W := ⟨hG, h, Below.refl _ _, Lib.OthersKept.refl _ _ _, hB⟩
theorem Wk.gw {W : World} {B b : Nat} {T : List UInt8} {w1 : World} (h : Wk W B b T w1) : GW w1 := h.gb _ h.bel
theorem Wk.step {W : World} {B b : Nat} {T : List UInt8} {w1 w2 : World} (h : Wk W B b T w1) (hb : Below w1.heap.size w1 w2) : Wk W B b T w2 :=
  ⟨h.gb, h.wr.below hb, h.bel.trans (hb.mono h.size), h.oth.trans (others_below hb), Nat.le_trans h.size hb.size⟩
theorem Wk.drew {W : World} {B b : Nat} {T : List UInt8} {w1 : World} (h : Wk W B b T w1) : Wk W B b T w1.drew := h.step (Below.drew (Below.refl _ _))
theorem Wk.alloc {W : World} {B b : Nat} {T : List UInt8} {w1 : World} (h : Wk W B b T w1) (o : Obj) : Wk W B b T (w1.alloc o) := h.step (Below.alloc (Below.refl _ _) (Nat.le_refl _) o)
theorem Wk.more {W : World} {B b : Nat} {T x : List UInt8} {w1 w2 : World} (h : Wk W B b T w1) (hw : WR B b (T ++ x) w2) (hb : Below B w1 w2) (ho : Lib.OthersKept 5 (some b) w1 w2) : Wk W B b (T ++ x) w2 :=
  ⟨h.gb, hw, h.bel.trans hb, h.oth.trans ho, Nat.le_trans h.size hb.size⟩
theorem Wk.next {W : World} {B b : Nat} {T T' : List UInt8} {w1 w2 : World} (h : Wk W B b T w1) (k : Wk w1 B b T' w2) : Wk W B b T' w2 := ⟨h.gb, k.wr, h.bel.trans k.bel, h.oth.trans k.oth, k.size⟩
theorem kept_block {b k : Nat} {o : Obj} {w1 w2 : World} (ho : Lib.OthersKept 5 (some b) w1 w2) (hk : w1.heap[k]? = some o) (hb : k ≠ b) (h5 : ∀ c fz, o ≠ .cells c 5 fz) : w2.heap[k]? = some o :=
  ho k o hk (fun e => hb (Option.some.inj e)) h5
theorem line_lit {W : World} {B b n p : Nat} {T : List UInt8} {w1 : World} (xs : List ByteArray) (cs : Array Value) (h : Wk W B b T w1) (hcs : cs = (xs.map Value.string).toArray) (hn : n = xs.length) (hp : p = w1.heap.size) (hN : xs.length ≤ 100) (hlen : (line xs).length ≤ 1048576) :
    Calls Tryd.prog 80 #[.pointer (some ⟨b, 0, none⟩), .slice (some ⟨p, 0, none⟩) n n] (w1.alloc (.cells cs 9)) fun e w' => e = .returned (.tuple #[]) ∧ Wk W B b (T ++ line xs) w' ∧ Lib.OthersKept 5 (some b) w1 w' := by
  subst hn
  subst hcs
  subst hp
  refine (wr_line B b w1.heap.size xs.length T xs _ (h.alloc _).wr (h.alloc _).size ?_ (by simp) hN (Nat.le_refl _) hlen).mono ?_
  · intro j x hj
    rw [Lib.cell_of_heap (blk_new w1 (.cells (xs.map Value.string).toArray 9))]
    simp [hj]
  · rintro e w' ⟨rfl, h1, h2, h3⟩
    exact ⟨rfl, (h.alloc _).more h1 h2 h3, ((Lib.OthersKept.refl 5 (some b) w1).alloc _).trans h3⟩
set_option maxHeartbeats 4000000 in
set_option maxRecDepth 100000 in
theorem emit_box (B b : Nat) (T : List UInt8) (x0 y0 x1 y1 : Int) (w : World) (h : WR B b T w) (hBw : B ≤ w.heap.size) (hG : GB B w) (hlen : (line [num x0, num y0, num (IntKind.i64.wrap (x1 - x0)), num (IntKind.i64.wrap (y1 - y0)), ⟨#[114, 101]⟩]).length ≤ 1048576) :
    Calls Tryd.prog 83 #[.pointer (some ⟨b, 0, none⟩), .agg #[.int .i64 x0, .int .i64 y0, .int .i64 x1, .int .i64 y1]] w fun e w' => e = .returned (.tuple #[]) ∧ Wk w B b (T ++ line [num x0, num y0, num (IntKind.i64.wrap (x1 - x0)), num (IntKind.i64.wrap (y1 - y0)), ⟨#[114, 101]⟩]) w' := by
  have HI := Aside0.mk (Wk.start hG h hBw)
  have HL := Aside0.mk hlen
  have HLT := Aside0.mk h.lt
  clear hG h hBw hlen
  go_enter Tryd.func83, Tryd.ntmps83
  go_wp2
  have HI := Aside0.mk (HI.out.alloc (.cells #[.int .i64 x0, .int .i64 y0, .int .i64 x1, .int .i64 y1] 48 (0, 0)))
  have HP : Aside0 ((w.alloc (.cells #[.int .i64 x0, .int .i64 y0, .int .i64 x1, .int .i64 y1] 48 (0, 0))).heap[w.heap.size]? = some (.cells #[.int .i64 x0, .int .i64 y0, .int .i64 x1, .int .i64 y1] 48 (0, 0))) := ⟨blk_new _ _⟩
  have HNE : Aside0 (w.heap.size ≠ b) := ⟨fun e => by have := HLT.out; omega⟩
  generalize w.heap.size = p at HP HNE ⊢
  generalize (w.alloc (.cells #[.int .i64 x0, .int .i64 y0, .int .i64 x1, .int .i64 y1] 48 (0, 0))) = w1 at HI HP ⊢
  have HI := Aside0.mk (HI.out.drew)
  have HP := Aside0.mk (blk_drew HP.out)
  go_region_held3 (fun w' => w'.cell? ⟨p, 0, none⟩ = some (.int .i64 x0) ∧ w'.cell? ⟨p, 1, none⟩ = some (.int .i64 y0) ∧ w'.cell? ⟨p, 2, none⟩ = some (.int .i64 x1) ∧ w'.cell? ⟨p, 3, none⟩ = some (.int .i64 y1))
    (first
      | exact ⟨blk_cell HP.out 0, blk_cell HP.out 1, blk_cell HP.out 2, blk_cell HP.out 3⟩
      | exact ⟨blk_cell (blk_alloc HP.out _) 0, blk_cell (blk_alloc HP.out _) 1, blk_cell (blk_alloc HP.out _) 2, blk_cell (blk_alloc HP.out _) 3⟩)
    (first
      | (go_at_call 81; refine (emit_n _ _ HI.out.gw).mono ?_; rintro e w2 ⟨rfl, hb2⟩; have HI := Aside0.mk (HI.out.step hb2); have HP := Aside0.mk (blk_below HP.out hb2); clear hb2)
      | (go_at_call 80; refine (line_lit [num x0, num y0, num (IntKind.i64.wrap (x1 - x0)), num (IntKind.i64.wrap (y1 - y0)), ⟨#[114, 101]⟩] #[.string (num x0), .string (num y0), .string (num (IntKind.i64.wrap (x1 - x0))), .string (num (IntKind.i64.wrap (y1 - y0))), .string ⟨#[114, 101]⟩] HI.out rfl (n := 5) rfl rfl (by simp) HL.out).mono ?_; rintro e w2 ⟨rfl, hI2, hO2⟩; have HI := Aside0.mk hI2; have HP := Aside0.mk (kept_block hO2 HP.out HNE.out (by intro c fz; simp)); clear hI2 hO2))
  go_end0
  exact ⟨rfl, HI.out⟩
end Go.Proofs.YtekifiblehmafaaDoor.X
end
section
set_option linter.unusedVariables false
set_option linter.unusedSimpArgs false
namespace Go.Proofs.YtekifiblehmafaaDoor.X
open Go.RowKit Go.Shelf Go.Proofs.YtekifiblehmafaaDoorW.PrintWords
set_option maxHeartbeats 4000000 in
set_option maxRecDepth 100000 in
theorem emit_end (B b : Nat) (T : List UInt8) (kd ft sz px py : Int) (gv : Value) (x0 y0 x1 y1 : Int) (w : World) (h : WR B b T w) (hBw : B ≤ w.heap.size) (hG : GB B w) :
    Calls Tryd.prog 59 #[.pointer (some ⟨b, 0, none⟩), .agg #[.int .i64 kd, .int .i64 ft, .int .i64 sz, .int .i64 px, .int .i64 py, gv, .int .i64 x0, .int .i64 y0, .int .i64 x1, .int .i64 y1]] w fun e w' => e = .returned (.tuple #[]) ∧ Wk w B b (T ++ line [⟨#[81]⟩]) w' := by
  have HI := Aside0.mk (Wk.start hG h hBw)
  clear hG h hBw
  go_enter Tryd.func59, Tryd.ntmps59
  have HI := Aside0.mk (HI.out.alloc (.cells #[.int .i64 kd, .int .i64 ft, .int .i64 sz, .int .i64 px, .int .i64 py, gv, .int .i64 x0, .int .i64 y0, .int .i64 x1, .int .i64 y1] 50 (0, 0)))
  go_wp2_with (first
    | (go_at_call 80; go_loud (refine (line_lit [⟨#[81]⟩] #[.string ⟨#[81]⟩] HI.out rfl (n := 1) rfl (by simp) (by simp) (by decide)).mono ?_; rintro e w2 ⟨rfl, hI2, hO2⟩; have HI := Aside0.mk hI2; clear hI2 hO2)))
  go_end0
  exact ⟨rfl, HI.out⟩
theorem num_len (a : Int) : (num a).data.toList.length ≤ 40 := by
  unfold num
  by_cases h : -1099511627776 ≤ a ∧ a ≤ 1099511627776
  · rw [textOut_in a h.1 h.2]
    have h1 := natDigits_length 15 (a.natAbs / 65536) (by omega)
    have h2 := fracD_length 16 (a.natAbs % 65536)
    show ((if a < 0 then [45] else []) ++ textBody a.natAbs).length ≤ 40
    unfold textBody
    rw [List.length_append, List.length_append, asU_length]
    have h3 : ((if a < 0 then [45] else []) : List UInt8).length ≤ 1 := by split <;> simp
    have h4 : (if a.natAbs % 65536 = 0 then ([] : List UInt8) else 46 :: asU (fracD 16 (a.natAbs % 65536))).length ≤ 17 := by
      split
      · simp
      · rw [List.length_cons, asU_length]; omega
    omega
  · rw [textOut_out a h]
    simp [bs]
theorem inter_len (s : List UInt8) (N : Nat) : ∀ xs : List (List UInt8), (∀ x ∈ xs, x.length ≤ N) → (Lib.join xs s).length ≤ xs.length * (N + s.length)
  | [], _ => by simp [Lib.join]
  | [x], h => by
    have := h x (by simp)
    simp [Lib.join]; omega
  | x :: y :: xs, h => by
    have h1 := inter_len s N (y :: xs) (fun z hz => h z (by simp [hz]))
    have h2 := h x (by simp)
    have h3 : Lib.join (x :: y :: xs) s = x ++ s ++ Lib.join (y :: xs) s := by simp [Lib.join, List.intercalate]
    rw [h3, List.length_append, List.length_append]
    simp only [List.length_cons] at h1 ⊢
    have h4 : (xs.length + 1 + 1) * (N + s.length) = (xs.length + 1) * (N + s.length) + (N + s.length) := by rw [Nat.add_mul (xs.length + 1) 1, Nat.one_mul]
    omega
theorem line_len (N : Nat) (xs : List ByteArray) (h : ∀ x ∈ xs, x.data.toList.length ≤ N) : (line xs).length ≤ xs.length * (N + 1) + 1 := by
  have := inter_len [32] N (xs.map (·.data.toList)) (by simpa using h)
  simp only [line, List.length_append, List.length_cons, List.length_nil, Nat.zero_add] at *
  rw [List.length_map] at this
  omega
def boxLine (x0 y0 x1 y1 : Int) : List UInt8 := line [num x0, num y0, num (IntKind.i64.wrap (x1 - x0)), num (IntKind.i64.wrap (y1 - y0)), ⟨#[114, 101]⟩]
theorem boxLine_len (x0 y0 x1 y1 : Int) : (boxLine x0 y0 x1 y1).length ≤ 1048576 := by
  refine Nat.le_trans (line_len 40 _ ?_) (by simp)
  intro x hx
  simp only [List.mem_cons, List.not_mem_nil, or_false] at hx
  rcases hx with rfl | rfl | rfl | rfl | rfl
  · exact num_len _
  · exact num_len _
  · exact num_len _
  · exact num_len _
  · decide
set_option maxHeartbeats 4000000 in
set_option maxRecDepth 100000 in
theorem emit_rule (B b : Nat) (T : List UInt8) (kd ft sz px py : Int) (gv : Value) (x0 y0 x1 y1 : Int) (w : World) (h : WR B b T w) (hBw : B ≤ w.heap.size) (hG : GB B w) :
    Calls Tryd.prog 57 #[.pointer (some ⟨b, 0, none⟩), .agg #[.int .i64 kd, .int .i64 ft, .int .i64 sz, .int .i64 px, .int .i64 py, gv, .int .i64 x0, .int .i64 y0, .int .i64 x1, .int .i64 y1]] w fun e w' => e = .returned (.tuple #[]) ∧ Wk w B b (T ++ boxLine x0 y0 x1 y1 ++ line [⟨#[102]⟩]) w' := by
  have HI := Aside0.mk (Wk.start hG h hBw)
  clear hG h hBw
  go_enter Tryd.func57, Tryd.ntmps57
  have HI := Aside0.mk (HI.out.alloc (.cells #[.int .i64 kd, .int .i64 ft, .int .i64 sz, .int .i64 px, .int .i64 py, gv, .int .i64 x0, .int .i64 y0, .int .i64 x1, .int .i64 y1] 50 (0, 0)))
  go_wp2_with (first
    | (go_at_call 83; go_loud (refine (emit_box B b _ x0 y0 x1 y1 _ HI.out.wr HI.out.size (HI.out.gb.below HI.out.bel) (boxLine_len x0 y0 x1 y1)).mono ?_; rintro e w2 ⟨rfl, hI2⟩; have HI := Aside0.mk (HI.out.next hI2); clear hI2))
    | (go_at_call 80; go_loud (refine (line_lit [⟨#[102]⟩] #[.string ⟨#[102]⟩] HI.out rfl (n := 1) rfl (by simp) (by simp) (by decide)).mono ?_; rintro e w2 ⟨rfl, hI2, hO2⟩; have HI := Aside0.mk hI2; clear hI2 hO2)))
  go_end0
  exact ⟨rfl, HI.out⟩
set_option maxHeartbeats 4000000 in
set_option maxRecDepth 100000 in
theorem emit_clip (B b : Nat) (T : List UInt8) (kd ft sz px py : Int) (gv : Value) (x0 y0 x1 y1 : Int) (w : World) (h : WR B b T w) (hBw : B ≤ w.heap.size) (hG : GB B w) :
    Calls Tryd.prog 58 #[.pointer (some ⟨b, 0, none⟩), .agg #[.int .i64 kd, .int .i64 ft, .int .i64 sz, .int .i64 px, .int .i64 py, gv, .int .i64 x0, .int .i64 y0, .int .i64 x1, .int .i64 y1]] w fun e w' => e = .returned (.tuple #[]) ∧ Wk w B b (T ++ line [⟨#[113]⟩] ++ boxLine x0 y0 x1 y1 ++ line [⟨#[87, 32, 110]⟩]) w' := by
  have HLT := Aside0.mk h.lt
  have HI := Aside0.mk (Wk.start hG h hBw)
  clear hG h hBw
  go_enter Tryd.func58, Tryd.ntmps58
  have HI := Aside0.mk (HI.out.alloc (.cells #[.int .i64 kd, .int .i64 ft, .int .i64 sz, .int .i64 px, .int .i64 py, gv, .int .i64 x0, .int .i64 y0, .int .i64 x1, .int .i64 y1] 50 (0, 0)))
  go_wp2_with (first
    | (go_at_call 83; go_loud (refine (emit_box B b _ x0 y0 x1 y1 _ HI.out.wr HI.out.size (HI.out.gb.below HI.out.bel) (boxLine_len x0 y0 x1 y1)).mono ?_; rintro e w2 ⟨rfl, hI2⟩; have HI := Aside0.mk (HI.out.next hI2); clear hI2))
    | (go_at_call 80; refine (line_lit [⟨#[113]⟩] #[.string ⟨#[113]⟩] HI.out rfl (n := 1) rfl (by simp) (by simp) (by decide)).mono ?_; rintro e w2 ⟨rfl, hI2, hO2⟩; have HI := Aside0.mk hI2; have hk := kept_block hO2 (blk_new w _) (by have := HLT.out; omega) (by intro c fz; simp); have q6 := blk_cell hk 6; have q7 := blk_cell hk 7; have q8 := blk_cell hk 8; have q9 := blk_cell hk 9; simp at q6 q7 q8 q9; clear hk; clear hI2 hO2)
    | (go_at_call 80; refine (line_lit [⟨#[87, 32, 110]⟩] #[.string ⟨#[87, 32, 110]⟩] HI.out rfl (n := 1) rfl (by simp) (by simp) (by decide)).mono ?_; rintro e w2 ⟨rfl, hI2, hO2⟩; have HI := Aside0.mk hI2; clear hI2 hO2))
  go_end0
  exact ⟨rfl, HI.out⟩
end Go.Proofs.YtekifiblehmafaaDoor.X
end
section
set_option linter.unusedVariables false
set_option linter.unusedSimpArgs false
namespace Go.Proofs.YtekifiblehmafaaDoor.X
open Go.RowKit Go.Shelf Go.Proofs.YtekifiblehmafaaDoorW.PrintWords
theorem and15 (x : Int) (h0 : 0 ≤ x) (h : x < 4611686018427387904) : ∃ d : Nat, Go.bits .and .i64 x 15 = (d : Int) ∧ d < 16 ∧ d = (x % 16).toNat := by
  have := bits_mask .i64 62 (by decide) (fun m h0 h1 => by rw [IntKind.wrap_i64]; omega) 4 (by decide) x (by omega) (by omega)
  refine ⟨(x % 16).toNat, ?_, by omega, rfl⟩
  have h2 : Go.bits .and .i64 x 15 = x % 16 := by simpa using this
  rw [h2]; omega
def lowerHex : ByteArray := ⟨#[48, 49, 50, 51, 52, 53, 54, 55, 56, 57, 97, 98, 99, 100, 101, 102]⟩
def hexB (d : Nat) : UInt8 := lowerHex.data.getD d 0
def hex4 (g : Int) : List UInt8 := [hexB ((g / 4096) % 16).toNat, hexB ((g / 256) % 16).toNat, hexB ((g / 16) % 16).toNat, hexB (g % 16).toNat]
theorem lowerHex_at (d : Nat) (h : d < 16) : ∃ c : UInt8, (⟨#[48, 49, 50, 51, 52, 53, 54, 55, 56, 57, 97, 98, 99, 100, 101, 102]⟩ : ByteArray)[d]'(by exact h) = c ∧ c = hexB d := by
  refine ⟨_, rfl, ?_⟩
  show _ = lowerHex.data.getD d 0
  rw [Array.getD, dif_pos (show d < lowerHex.data.size from h)]
  rfl
set_option maxHeartbeats 4000000 in
set_option maxRecDepth 100000 in
theorem emit_four (g : Int) (h0 : 0 ≤ g) (h1 : g ≤ 65535) (w : World) :
    Calls Tryd.prog 82 #[.int .i64 g] w fun e w' => e = .returned (.string ⟨(hex4 g).toArray⟩) ∧ Below w.heap.size w w' := by
  obtain ⟨d3, e3, l3, m3⟩ := and15 (g / 4096) (by omega) (by omega)
  obtain ⟨d2, e2, l2, m2⟩ := and15 (g / 256) (by omega) (by omega)
  obtain ⟨d1, e1, l1, m1⟩ := and15 (g / 16) (by omega) (by omega)
  obtain ⟨d0, e0, l0, m0⟩ := and15 g (by omega) (by omega)
  have M3 := Aside0.mk m3; have M2 := Aside0.mk m2; have M1 := Aside0.mk m1; have M0 := Aside0.mk m0
  have L3 := Aside0.mk l3; have L2 := Aside0.mk l2; have L1 := Aside0.mk l1; have L0 := Aside0.mk l0
  have p3 : (0 : Int) ≤ (d3 : Int) := by omega
  have p2 : (0 : Int) ≤ (d2 : Int) := by omega
  have p1 : (0 : Int) ≤ (d1 : Int) := by omega
  have p0 : (0 : Int) ≤ (d0 : Int) := by omega
  have q3 : (d3 : Int) < 16 := by omega
  have q2 : (d2 : Int) < 16 := by omega
  have q1 : (d1 : Int) < 16 := by omega
  have q0 : (d0 : Int) < 16 := by omega
  obtain ⟨c3, f3, k3⟩ := lowerHex_at d3 l3
  obtain ⟨c2, f2, k2⟩ := lowerHex_at d2 l2
  obtain ⟨c1, f1, k1⟩ := lowerHex_at d1 l1
  obtain ⟨c0, f0, k0⟩ := lowerHex_at d0 l0
  have K : Aside0 (hex4 g = [c3, c2, c1, c0]) := ⟨by rw [hex4, k3, k2, k1, k0, m3, m2, m1, m0]⟩
  clear k3 k2 k1 k0
  clear m3 m2 m1 m0 h0 h1
  have hcv : (convert 54 9 (.slice (some ⟨w.heap.size, 0, none⟩) 4 4)).run Tryd.prog (w.alloc (.cells #[.int .u8 c3.toNat, .int .u8 c2.toNat, .int .u8 c1.toNat, .int .u8 c0.toNat] 5)).drew = .ok (.string ⟨#[c3, c2, c1, c0]⟩) (w.alloc (.cells #[.int .u8 c3.toNat, .int .u8 c2.toNat, .int .u8 c1.toNat, .int .u8 c0.toNat] 5)).drew := run_convert_bytes_back (P := Tryd.prog) (w.alloc (.cells #[.int .u8 c3.toNat, .int .u8 c2.toNat, .int .u8 c1.toNat, .int .u8 c0.toNat] 5)).drew 54 9 5 ⟨w.heap.size, 0, none⟩ 4 [c3, c2, c1, c0] Tryd.underlying54 Tryd.underlying5 Tryd.underlying9 (by
    intro j hj
    have hb := blk_drew (blk_new w (.cells #[.int .u8 c3.toNat, .int .u8 c2.toNat, .int .u8 c1.toNat, .int .u8 c0.toNat] 5))
    match j, hj with
    | 0, _ => exact blk_cell hb 0
    | 1, _ => exact blk_cell hb 1
    | 2, _ => exact blk_cell hb 2
    | 3, _ => exact blk_cell hb 3)
  go_enter Tryd.func82, Tryd.ntmps82
  go_wp2
  go_still_tail 15, (by kernel_rfl)
  change wpList _ _ _ _ _ w.drew
  go_wp2
  go_ret
  rw [K.out]
  exact ⟨rfl, Below.drew (Below.alloc (Below.refl _ _) (Nat.le_refl _) _)⟩
end Go.Proofs.YtekifiblehmafaaDoor.X
end
