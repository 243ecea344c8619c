/- Part 9 of a proof: what it needs of the program's functions as plain Lean functions, with the proof that the machine's calls come to them, and of plain laws; put together out of smaller texts. No conditions besides those that each statement names. -/
import Derived.Test.YtekifiblehmafaaDoorEw2
import Derived.Test.YtekifiblehmafaaDoorEw3
import Derived.Test.YtekifiblehmafaaDoorEw8
section
namespace Go.Proofs.YtekifiblehmafaaDoor.X
end Go.Proofs.YtekifiblehmafaaDoor.X
namespace Go.Proofs.YtekifiblehmafaaDoor.Y
open Go.RowKit Go.Proofs.YtekifiblehmafaaDoor.X Go.Proofs.YtekifiblehmafaaDoorW.PrintWords Go.Proofs.YtekifiblehmafaaDoorW.PrintLast Go.Proofs.YtekifiblehmafaaDoorW.PrintMore
attribute [local go_sem] max2_int min2_int max_two min_two max_three min_three max_four min_four   -- for this text's walks alone
set_option linter.unusedVariables false
set_option linter.unusedSimpArgs false
def colophonref15_num.f (k : Nat) (a0 : Int) : Option (ByteArray) := (colophonref02_Text.f k a0).bind fun bt185 => (some bt185.1)
theorem colophonref15_num.mono : ∀ a0 k, LeO (colophonref15_num.f k a0) (colophonref15_num.f (k + 1) a0) := by
  intro a0 k
  unfold colophonref15_num.f
  repeat' first
      | (with_reducible exact colophonref02_Text.mono _ _)
      | (with_reducible exact LeO.refl _)
      | (with_reducible exact LeO.none _)
      | (with_reducible refine LeO.ite ?_ ?_)
      | (with_reducible refine LeO.bind ?_ (fun _ => ?_))
      | exact colophonref02_Text.mono _ _
      | exact LeO.none _
      | refine LeO.ite ?_ ?_
      | refine LeO.bind ?_ (fun _ => ?_)
set_option maxHeartbeats 8000000 in
set_option maxRecDepth 100000 in
theorem colophonref15_num.calls (k : Nat) (a0 : Int) (r : ByteArray) (w : World) (h : colophonref15_num.f k a0 = some r) :
    Calls Tryd.prog 34 #[.int .i64 a0] w fun e w' => e = .returned (.string r) ∧ Below w.heap.size w w' := by
  have HB := Aside0.mk (Below.refl w.heap.size w)
  have H : ((colophonref02_Text.f k a0).bind fun bt185 => (some bt185.1)) = some r := h
  clear h
  replace H := Option.bind_eq_some_iff.mp H
  obtain ⟨⟨t185, t186⟩, A20, H⟩ := H
  replace H : (some t185) = some r := H
  have A2 := Aside0.mk A20
  clear A20
  obtain rfl := Option.some.inj H
  go_enter Tryd.func34, Tryd.ntmps34
  go_wp2_with (first | ((with_reducible refine gate_callee (f := 22) rfl ?_); refine goesL_ (some 7) rfl rfl Tryd.func22 (by kernel_rfl) rfl #[.int .i64 a0] rfl (by (try simp only [List.map_toArray, List.map_cons, List.map_nil]); first | done | rfl | (simp only [List.length_drop, List.length_take]; rfl) | (simp only [Array.mk.injEq, List.cons.injEq, Value.int.injEq, and_true, true_and]; (try unfold wrap64); omega)) ?_; (with_reducible refine (colophonref02_Text.calls k a0 t185 t186 _ A2.out).mono ?_); rintro e w3 ⟨rfl, hb⟩; refine ⟨_, rfl, ?_⟩; have n0_ := Aside0.mk (below_step (by repeat (first | (with_reducible first | exact HB.out | apply below_alloc | apply pw_below_drewN | apply below_drew1) | exact HB.out)) hb); clear HB; have HB := n0_; clear n0_; (try clear hb); (try clear hb2); (try clear hk); (try clear hi)))
  go_ret
  exact ⟨by first | rfl | (simp [errW_none, errW_some] <;> rfl) | (simp [*, errW_none, errW_some] <;> rfl), by repeat (first | (with_reducible first | exact HB.out | apply below_alloc | apply pw_below_drewN | apply below_drew1) | exact HB.out)⟩
def colophonref14_Hex.l0 : Nat → ByteArray → List Int → Int → Option (ByteArray)
  | 0, _, _, _ => none
  | k + 1, x0, x3, x4 => if x4 < (x0.size : Int) then (if 0 ≤ x4 then (if 0 ≤ ((Int.tdiv (bt x0 x4) 16) % 256) then (if ((Int.tdiv (bt x0 x4) 16) % 256) < 16 then (if 0 ≤ (Int.tmod (bt x0 x4) 16) then (if (Int.tmod (bt x0 x4) 16) < 16 then ((some (([bt (⟨#[48, 49, 50, 51, 52, 53, 54, 55, 56, 57, 97, 98, 99, 100, 101, 102]⟩ : ByteArray) ((Int.tdiv (bt x0 x4) 16) % 256), bt (⟨#[48, 49, 50, 51, 52, 53, 54, 55, 56, 57, 97, 98, 99, 100, 101, 102]⟩ : ByteArray) (Int.tmod (bt x0 x4) 16)] : List Int) : List Int)).bind fun y187 => (if x3.length + y187.length < 140737488355328 then (colophonref14_Hex.l0 k x0 (x3 ++ y187) (wrap64 (x4 + 1))) else (none))) else (none)) else (none)) else (none)) else (none)) else (none)) else (some (strOfNums x3))
def colophonref14_Hex.f (k : Nat) (a0 : ByteArray) : Option (ByteArray) := colophonref14_Hex.l0 k a0 ([] : List Int) 0
theorem colophonref14_Hex.mono_l : ∀ k, (∀ y0 y1 y2, LeO (colophonref14_Hex.l0 k y0 y1 y2) (colophonref14_Hex.l0 (k + 1) y0 y1 y2))
  | 0 => fun _ _ _ r h => by simp [colophonref14_Hex.l0] at h
  | k + 1 => by
    have ih0 := colophonref14_Hex.mono_l k
    · intro y0 y1 y2
      unfold colophonref14_Hex.l0
      repeat' first
      | (with_reducible exact ih0 _ _ _)
      | (with_reducible exact LeO.refl _)
      | (with_reducible exact LeO.none _)
      | (with_reducible refine LeO.ite ?_ ?_)
      | (with_reducible refine LeO.bind ?_ (fun _ => ?_))
      | exact ih0 _ _ _
      | exact LeO.none _
      | refine LeO.ite ?_ ?_
      | refine LeO.bind ?_ (fun _ => ?_)
theorem colophonref14_Hex.mono : ∀ a0 k, LeO (colophonref14_Hex.f k a0) (colophonref14_Hex.f (k + 1) a0) := by
  intro a0 k
  have ih0 := colophonref14_Hex.mono_l k
  unfold colophonref14_Hex.f
  repeat' first
      | (with_reducible exact ih0 _ _ _)
      | (with_reducible exact LeO.refl _)
      | (with_reducible exact LeO.none _)
      | (with_reducible refine LeO.ite ?_ ?_)
      | (with_reducible refine LeO.bind ?_ (fun _ => ?_))
      | exact ih0 _ _ _
      | exact LeO.none _
      | refine LeO.ite ?_ ?_
      | refine LeO.bind ?_ (fun _ => ?_)
def colophonref14_Hex.T5 : Bool × List (List Nat × List Nat) := (true, [([], []), ([], []), ([], []), ([1, 2], [1, 2]), ([3], [3]), ([4], [4]), ([], []), ([], []), ([6, 7], [6, 7]), ([8], [8]), ([9], [9]), ([5, 10], [5, 10]), ([0, 11], [0, 11]), ([12, 12, 0, 1, 2, 3, 4, 5, 6, 7, 8, 9, 10, 11, 12], [0, 12])])
def colophonref14_Hex.B5 : List Nat := [0, 0, 0, 6, 14, 30, 0, 0, 192, 448, 960, 2046, 4095, 8191]
theorem colophonref14_Hex.tab5 : rtab .any (opsOf Tryd.f35 5) = colophonref14_Hex.T5 := by kernel_rfl
theorem colophonref14_Hex.bits5 : waitsOk colophonref14_Hex.T5.2 colophonref14_Hex.B5 = true := by kernel_rfl
set_option maxHeartbeats 8000000 in
set_option maxRecDepth 100000 in
theorem colophonref14_Hex.calls (k : Nat) (a0 : ByteArray) (r : ByteArray) (w : World) (h : colophonref14_Hex.f k a0 = some r) :
    Calls Tryd.prog 35 #[.string a0] w fun e w' => e = .returned (.string r) ∧ Below w.heap.size w w' := by
  have HB := Aside0.mk (Below.refl w.heap.size w)
  have H : (colophonref14_Hex.l0 k a0 ([] : List Int) 0) = some r := h
  clear h
  have H' := Aside0.mk H
  clear H
  go_enter Tryd.func35, Tryd.ntmps35
  go_wp2
  go_loopg [3, 4] k (fun kq v3 v4 w' => ∃ (x3_1 : List Int) (x4_1 : Int), v4 = .int .i64 x4_1 ∧ Aside0 (colophonref14_Hex.l0 kq a0 x3_1 x4_1 = some r) ∧ Aside0 (kq ≤ k) ∧ Aside0 (Kd.R (Kd.int .u8) 5 w' w.heap.size (fun _ => True) v3 x3_1) ∧ Aside0 (Below w.heap.size w w'))
  case atStart => exact ⟨(([] : List Int)), (0), (by first | rfl | (simp; done) | (simp [*]; done) | (simp [ne_nil_]; done)), H', ⟨Nat.le_refl _⟩, ⟨by first | exact Kd.R_nil _ _ _ _ _ | exact Kd.N_nil _ _ _ _ _ | exact Kd.V_nil _ _ _ _ _ | exact Kd.Q_nil _ _ _ _ _ | exact Kd.S_nil _ _ _ _ _⟩, ⟨by repeat (first | (with_reducible first | exact HB.out | apply below_alloc | apply pw_below_drewN | apply below_drew1) | exact HB.out)⟩⟩
  case round =>
    clear H'
    obtain ⟨x3_1, x4_1, rfl, HA, HK1, HO_3, HB⟩ := hrel
    cases gk with
    | zero => exact absurd HA.out (by simp [colophonref14_Hex.l0])
    | succ k1 =>
      have H := HA.out
      clear HA
      simp only [colophonref14_Hex.l0] at H
      by_cases c2 : x4_1 < (a0.size : Int)
      · rw [if_pos c2] at H
        have c2b0 : decide (x4_1 < (a0.size : Int)) = true := decide_eq_true c2
        clear c2
        by_cases c3 : 0 ≤ x4_1
        · rw [if_pos c3] at H
          have c3b0 : decide (0 ≤ x4_1) = true := decide_eq_true c3
          clear c3
          obtain ⟨ji5, hji5⟩ : ∃ j_ : Int, ((Int.tdiv (bt a0 x4_1) 16) % 256) = j_ := ⟨_, rfl⟩
          try have hwji5 : Go.IntKind.u8.wrap ((Int.tdiv (bt a0 x4_1) 16)) = ji5 := hji5
          replace H : (if 0 ≤ (ji5) then (if (ji5) < 16 then (if 0 ≤ (Int.tmod (bt a0 x4_1) 16) then (if (Int.tmod (bt a0 x4_1) 16) < 16 then ((some (([bt (⟨#[48, 49, 50, 51, 52, 53, 54, 55, 56, 57, 97, 98, 99, 100, 101, 102]⟩ : ByteArray) (ji5), bt (⟨#[48, 49, 50, 51, 52, 53, 54, 55, 56, 57, 97, 98, 99, 100, 101, 102]⟩ : ByteArray) (Int.tmod (bt a0 x4_1) 16)] : List Int) : List Int)).bind fun y187 => (if x3_1.length + y187.length < 140737488355328 then (colophonref14_Hex.l0 k1 a0 (x3_1 ++ y187) (wrap64 (x4_1 + 1))) else (none))) else (none)) else (none)) else (none)) else (none)) = some r := by first | (rw [hji5] at H; exact H) | (simp only [hji5] at H ⊢; exact H)
          by_cases c6 : 0 ≤ (ji5)
          · rw [if_pos c6] at H
            have c6b0 : decide (0 ≤ (ji5)) = true := decide_eq_true c6
            clear c6
            by_cases c7 : (ji5) < 16
            · rw [if_pos c7] at H
              have c7b0 : decide ((ji5) < 16) = true := decide_eq_true c7
              clear c7
              obtain ⟨ji10, hji10⟩ : ∃ j_ : Int, (Int.tmod (bt a0 x4_1) 16) = j_ := ⟨_, rfl⟩
              replace H : (if 0 ≤ (ji10) then (if (ji10) < 16 then ((some (([bt (⟨#[48, 49, 50, 51, 52, 53, 54, 55, 56, 57, 97, 98, 99, 100, 101, 102]⟩ : ByteArray) (ji5), bt (⟨#[48, 49, 50, 51, 52, 53, 54, 55, 56, 57, 97, 98, 99, 100, 101, 102]⟩ : ByteArray) (ji10)] : List Int) : List Int)).bind fun y187 => (if x3_1.length + y187.length < 140737488355328 then (colophonref14_Hex.l0 k1 a0 (x3_1 ++ y187) (wrap64 (x4_1 + 1))) else (none))) else (none)) else (none)) = some r := by first | (rw [hji10] at H; exact H) | (simp only [hji10] at H ⊢; exact H)
              by_cases c11 : 0 ≤ (ji10)
              · rw [if_pos c11] at H
                have c11b0 : decide (0 ≤ (ji10)) = true := decide_eq_true c11
                clear c11
                by_cases c12 : (ji10) < 16
                · rw [if_pos c12] at H
                  have c12b0 : decide ((ji10) < 16) = true := decide_eq_true c12
                  clear c12
                  obtain ⟨y187, hy187⟩ : ∃ y_ : List Int, y_ = (([bt (⟨#[48, 49, 50, 51, 52, 53, 54, 55, 56, 57, 97, 98, 99, 100, 101, 102]⟩ : ByteArray) (ji5), bt (⟨#[48, 49, 50, 51, 52, 53, 54, 55, 56, 57, 97, 98, 99, 100, 101, 102]⟩ : ByteArray) (ji10)] : List Int)) := ⟨_, rfl⟩
                  replace H : (if x3_1.length + y187.length < 140737488355328 then (colophonref14_Hex.l0 k1 a0 (x3_1 ++ y187) (wrap64 (x4_1 + 1))) else (none)) = some r := by first | (rw [hy187]; with_reducible exact H) | (have H2_ := (Option.bind_some _ _).symm.trans H; rw [hy187]; with_reducible exact H2_) | (have H2_ := (Option.bind_some _ _).symm.trans H; with_reducible exact H2_) | with_reducible exact H | (rw [hy187]; exact H) | exact H
                  have Ny187 := Aside0.mk hy187
                  clear hy187
                  by_cases c14 : x3_1.length + y187.length < 140737488355328
                  · rw [if_pos c14] at H
                    have LMc14 := Aside0.mk c14
                    clear c14
                    obtain ⟨y190, hy190⟩ : ∃ y_ : List Int, y_ = (x3_1 ++ y187) := ⟨_, rfl⟩
                    replace H : (colophonref14_Hex.l0 k1 a0 y190 (wrap64 (x4_1 + 1))) = some r := by first | (rw [hy190]; with_reducible exact H) | (have H2_ := (Option.bind_some _ _).symm.trans H; rw [hy190]; with_reducible exact H2_) | (have H2_ := (Option.bind_some _ _).symm.trans H; with_reducible exact H2_) | with_reducible exact H | (rw [hy190]; exact H) | exact H
                    have Ny190 := Aside0.mk hy190
                    clear hy190
                    have H' := Aside0.mk H
                    clear H
                    try go_wp2
                    have n0_ := Aside0.mk (Kd.R_drew HO_3.out)
                    have n1_ := Aside0.mk (below_drew1 HB.out)
                    clear HO_3
                    clear HB
                    have HO_3 := n0_
                    have HB := n1_
                    clear n0_ n1_
                    have p4 : 0 ≤ (x4_1 : Int) := of_decide_eq_true (by first | (with_reducible assumption) | assumption)
                    have q4 : x4_1 < (a0.size : Int) := of_decide_eq_true (by first | (with_reducible assumption) | assumption)
                    have hx4 := bt_at a0 x4_1
                    replace p4 := eq_true p4
                    replace q4 := eq_true q4
                    have p8 : 0 ≤ ((ji5) : Int) := of_decide_eq_true (by first | (with_reducible assumption) | assumption)
                    have q8 : (ji5) < (16 : Int) := of_decide_eq_true (by first | (with_reducible assumption) | assumption)
                    have hx8 := bt_at (⟨#[48, 49, 50, 51, 52, 53, 54, 55, 56, 57, 97, 98, 99, 100, 101, 102]⟩ : ByteArray) (ji5)
                    replace p8 := eq_true p8
                    replace q8 := eq_true q8
                    have p9 : 0 ≤ (x4_1 : Int) := of_decide_eq_true (by first | (with_reducible assumption) | assumption)
                    have q9 : x4_1 < (a0.size : Int) := of_decide_eq_true (by first | (with_reducible assumption) | assumption)
                    have hx9 := bt_at a0 x4_1
                    replace p9 := eq_true p9
                    replace q9 := eq_true q9
                    have p13 : 0 ≤ ((ji10) : Int) := of_decide_eq_true (by first | (with_reducible assumption) | assumption)
                    have q13 : (ji10) < (16 : Int) := of_decide_eq_true (by first | (with_reducible assumption) | assumption)
                    have hx13 := bt_at (⟨#[48, 49, 50, 51, 52, 53, 54, 55, 56, 57, 97, 98, 99, 100, 101, 102]⟩ : ByteArray) (ji10)
                    replace p13 := eq_true p13
                    replace q13 := eq_true q13
                    refine start_ (n := 14) (S := fun w' => True) (ds := []) #[false, false, false, false, false, false, false, false, false, false, false, false, false, false] (by kernel_rfl) rfl rfl trivial (fun hHeld => ?_); refine with_tabW colophonref14_Hex.tab5 colophonref14_Hex.bits5 (fun HT_ HW_ => ?_)
                    generalize wr.drew = w15 at HO_3 HB hHeld ⊢
                    refine pure_ (i := 0) (N := some 11) (v := ?_) (a' := ?_) #[true, false, false, false, false, false, false, false, false, false, false, false, false, false] rfl rfl (any_of HT_.out (by kernel_rfl)) (fun _ _ _ h => h) (Or.inl ⟨by rfl, ?_⟩) ?_ ?_
                    rotate_left
                    · intro w'
                      go_simp
                      with_reducible rfl
                    rotate_left
                    · simp only [Act.put, List.setIfInBounds_toArray, List.set_cons_zero, List.set_cons_succ, i64_w, i32_w]
                      rfl
                    refine pure_ (i := 1) (N := some 12) (v := ?_) (a' := ?_) #[true, true, false, false, false, false, false, false, false, false, false, false, false, false] rfl rfl (any_of HT_.out (by kernel_rfl)) (fun _ _ _ h => h) (Or.inl ⟨by rfl, ?_⟩) ?_ ?_
                    rotate_left
                    · intro w'
                      go_simp
                      with_reducible rfl
                    rotate_left
                    · simp only [Act.put, List.setIfInBounds_toArray, List.set_cons_zero, List.set_cons_succ, i64_w, i32_w]
                      rfl
                    refine pure_ (i := 2) (N := some 13) (v := ?_) (a' := ?_) #[true, true, true, false, false, false, false, false, false, false, false, false, false, false] rfl rfl (any_of HT_.out (by kernel_rfl)) (fun _ _ _ h => h) (Or.inl ⟨by rfl, ?_⟩) ?_ ?_
                    rotate_left
                    · intro w'
                      go_simp
                      with_reducible rfl
                    rotate_left
                    · simp only [Act.put, List.setIfInBounds_toArray, List.set_cons_zero, List.set_cons_succ, i64_w, i32_w]
                      rfl
                    refine pure_ (i := 6) (N := some 17) (v := ?_) (a' := ?_) #[true, true, true, false, false, false, true, false, false, false, false, false, false, false] rfl rfl (any_of HT_.out (by kernel_rfl)) (fun _ _ _ h => h) (Or.inl ⟨by rfl, ?_⟩) ?_ ?_
                    rotate_left
                    · intro w'
                      go_simp
                      with_reducible rfl
                    rotate_left
                    · simp only [Act.put, List.setIfInBounds_toArray, List.set_cons_zero, List.set_cons_succ, i64_w, i32_w]
                      rfl
                    refine pure_ (i := 7) (N := some 18) (v := ?_) (a' := ?_) #[true, true, true, false, false, false, true, true, false, false, false, false, false, false] rfl rfl (any_of HT_.out (by kernel_rfl)) (fun _ _ _ h => h) (Or.inl ⟨by rfl, ?_⟩) ?_ ?_
                    rotate_left
                    · intro w'
                      go_simp
                      with_reducible rfl
                    rotate_left
                    · simp only [Act.put, List.setIfInBounds_toArray, List.set_cons_zero, List.set_cons_succ, i64_w, i32_w]
                      rfl
                    refine take_ (i := 3) (N := some 14) (v := ?_) (a' := ?_) #[true, true, true, true, false, false, true, true, false, false, false, false, false, false] rfl rfl (take_ofW HT_.out HW_.out (by kernel_rfl)) (fun _ _ _ h => h) (Or.inl ⟨by rfl, ?_⟩) hHeld ?_ ?_
                    rotate_left
                    · intro w' _
                      go_simp
                      with_reducible rfl
                    rotate_left
                    · simp only [Act.put, List.setIfInBounds_toArray, List.set_cons_zero, List.set_cons_succ, i64_w, i32_w]
                      rfl
                    refine pure_ (i := 4) (N := some 15) (v := ?_) (a' := ?_) #[true, true, true, true, true, false, true, true, false, false, false, false, false, false] rfl rfl (any_of HT_.out (by kernel_rfl)) (fun _ _ _ h => h) (Or.inl ⟨by rfl, ?_⟩) ?_ ?_
                    rotate_left
                    · intro w'
                      go_simp
                      with_reducible rfl
                    rotate_left
                    · simp only [Act.put, List.setIfInBounds_toArray, List.set_cons_zero, List.set_cons_succ, i64_w, i32_w]
                      rfl
                    refine take_ (i := 5) (N := some 16) (v := ?_) (a' := ?_) #[true, true, true, true, true, true, true, true, false, false, false, false, false, false] rfl rfl (take_ofW HT_.out HW_.out (by kernel_rfl)) (fun _ _ _ h => h) (Or.inl ⟨by rfl, ?_⟩) hHeld ?_ ?_
                    rotate_left
                    · intro w' _
                      go_simp
                      with_reducible rfl
                    rotate_left
                    · simp only [Act.put, List.setIfInBounds_toArray, List.set_cons_zero, List.set_cons_succ, i64_w, i32_w]
                      rfl
                    refine take_ (i := 8) (N := some 19) (v := ?_) (a' := ?_) #[true, true, true, true, true, true, true, true, true, false, false, false, false, false] rfl rfl (take_ofW HT_.out HW_.out (by kernel_rfl)) (fun _ _ _ h => h) (Or.inl ⟨by rfl, ?_⟩) hHeld ?_ ?_
                    rotate_left
                    · intro w' _
                      go_simp
                      with_reducible rfl
                    rotate_left
                    · simp only [Act.put, List.setIfInBounds_toArray, List.set_cons_zero, List.set_cons_succ, i64_w, i32_w]
                      rfl
                    refine pure_ (i := 9) (N := some 20) (v := ?_) (a' := ?_) #[true, true, true, true, true, true, true, true, true, true, false, false, false, false] rfl rfl (any_of HT_.out (by kernel_rfl)) (fun _ _ _ h => h) (Or.inl ⟨by rfl, ?_⟩) ?_ ?_
                    rotate_left
                    · intro w'
                      go_simp
                      with_reducible rfl
                    rotate_left
                    · simp only [Act.put, List.setIfInBounds_toArray, List.set_cons_zero, List.set_cons_succ, i64_w, i32_w]
                      rfl
                    refine take_ (i := 10) (N := some 21) (v := ?_) (a' := ?_) #[true, true, true, true, true, true, true, true, true, true, true, false, false, false] rfl rfl (take_ofW HT_.out HW_.out (by kernel_rfl)) (fun _ _ _ h => h) (Or.inl ⟨by rfl, ?_⟩) hHeld ?_ ?_
                    rotate_left
                    · intro w' _
                      go_simp
                      with_reducible rfl
                    rotate_left
                    · simp only [Act.put, List.setIfInBounds_toArray, List.set_cons_zero, List.set_cons_succ, i64_w, i32_w]
                      rfl
                    refine one_ (i := 11) (N := some 22) #[true, true, true, true, true, true, true, true, true, true, true, true, false, false] rfl rfl (one_of HT_.out (by kernel_rfl)) (by decide) (fun K hK => ?_)
                    refine Kd.R_lit_step (Kd.int .u8) _ 5 ?hg (N := 22) ?hd (xs := ([bt (⟨#[48, 49, 50, 51, 52, 53, 54, 55, 56, 57, 97, 98, 99, 100, 101, 102]⟩ : ByteArray) (ji5), bt (⟨#[48, 49, 50, 51, 52, 53, 54, 55, 56, 57, 97, 98, 99, 100, 101, 102]⟩ : ByteArray) (ji10)] : List Int)) (inner := [.int .u8 (bt (⟨#[48, 49, 50, 51, 52, 53, 54, 55, 56, 57, 97, 98, 99, 100, 101, 102]⟩ : ByteArray) (ji5)), .int .u8 (bt (⟨#[48, 49, 50, 51, 52, 53, 54, 55, 56, 57, 97, 98, 99, 100, 101, 102]⟩ : ByteArray) (ji10))]) (ok := fun _ => True) (okp := fun _ => True) ?hr ?hp (fun _ hk => hk) trivial (Below.refl _ _) (Nat.le_refl _) (by simp) ?_; (case hd => rfl); (case hg => rfl); (case hr => first | (go_simp; done) | (go_simp; rfl)); (case hp => exact (Reps.one (show Kd.M (Kd.int .u8) _ _ _ (bt (⟨#[48, 49, 50, 51, 52, 53, 54, 55, 56, 57, 97, 98, 99, 100, 101, 102]⟩ : ByteArray) (ji5)) [.int .u8 (bt (⟨#[48, 49, 50, 51, 52, 53, 54, 55, 56, 57, 97, 98, 99, 100, 101, 102]⟩ : ByteArray) (ji5))] from rfl) (Reps.one (show Kd.M (Kd.int .u8) _ _ _ (bt (⟨#[48, 49, 50, 51, 52, 53, 54, 55, 56, 57, 97, 98, 99, 100, 101, 102]⟩ : ByteArray) (ji10)) [.int .u8 (bt (⟨#[48, 49, 50, 51, 52, 53, 54, 55, 56, 57, 97, 98, 99, 100, 101, 102]⟩ : ByteArray) (ji10))] from rfl) (Reps.none _ _))))
                    intro v188 w16 ho17 hb hg_ hnew_
                    clear hg_ hnew_
                    (first | rw [← Ny187.out] at ho17 | (simp only [Int.reduceToNat] at ho17; rw [← Ny187.out] at ho17))
                    have n0_ := Aside0.mk (Kd.R_elder' (by (with_reducible repeat (first | apply Kd.R_alloc | apply Kd.R_drewN | apply Kd.R_drew)); exact HO_3.out) (Kd.R_base ho17) hb)
                    have n1_ := Aside0.mk (Kd.R_lower (Kd.R_new' ho17 (Kd.R_lt (by (with_reducible repeat (first | apply Kd.R_alloc | apply Kd.R_drewN | apply Kd.R_drew)); exact HO_3.out))) (below_size (by repeat (first | (with_reducible first | exact HB.out | apply below_alloc | apply pw_below_drewN | apply below_drew1) | exact HB.out))))
                    have n2_ := Aside0.mk (below_step (by repeat (first | (with_reducible first | exact HB.out | apply below_alloc | apply pw_below_drewN | apply below_drew1) | exact HB.out)) hb)
                    clear HO_3
                    clear HB
                    have HO_3 := n0_
                    have HO189 := n1_
                    have HB := n2_
                    clear n0_ n1_ n2_
                    clear hb ho17
                    obtain ⟨Ao19, co19, eo19⟩ := Kd.R_slice HO189.out
                    (first | subst eo19 | (injection eo19 with f1_ f2_ f3_; have f4_ := f1_.symm; have f5_ := f3_.symm; clear f1_ f2_ f3_; subst f4_; subst f5_))
                    refine hK.out _ _ trivial (fun hHeld => ?_)
                    clear hK K
                    refine norm_ (a' := ?_) ?_ ?_
                    rotate_left
                    · show Act.put _ (some 22) _ = _
                      simp only [Act.put, List.setIfInBounds_toArray, List.set_cons_zero, List.set_cons_succ, i64_w, i32_w]
                      rfl
                    refine one_ (i := 12) (N := some 23) #[true, true, true, true, true, true, true, true, true, true, true, true, true, false] rfl rfl (one_of HT_.out (by kernel_rfl)) (by decide) (fun K hK => ?_)
                    refine Kd.R_append_rows_step (Kd.int .u8) (w0 := w) w.heap.size (by rfl) (.tmp 11) (.tmp 22) 54 5 (.int .u8 0) 1 rfl Tryd.underlying54 info5 rfl (by decide) (by omega) u3 x3_1 y187 _ _ _ (fun k_ => some k_ ≠ (.slice Ao19 y187.length co19 : Value).ownBlock) (fun _ => False) rfl rfl ?aO ?aR (fun _ _ h => h) (fun _ h => h.elim) ?aF ?aB ?aS ?aL ?_
                    (case aR => repeat (first | exact (Kd.R_reads' HO189.out).2.2 | (with_reducible refine Kd.C_alloc ?_ _) | (with_reducible refine Kd.C_drewN ?_ _) | (with_reducible refine Kd.C_drew ?_)))
                    (case aB => exact (by repeat (first | (with_reducible first | exact HB.out | apply below_alloc | apply pw_below_drewN | apply below_drew1) | exact HB.out)))
                    (case aF => exact (fun k_ hk => Kd.fresh' (Kd.R_lt (by (with_reducible repeat (first | apply Kd.R_alloc | apply Kd.R_drewN | apply Kd.R_drew)); exact HO189.out)) k_ hk))
                    (case aO => exact (by (with_reducible repeat (first | apply Kd.R_alloc | apply Kd.R_drewN | apply Kd.R_drew)); exact Kd.R_mono HO_3.out (fun _ hk => hk.2)))
                    (case aS => exact (below_size (by repeat (first | (with_reducible first | exact HB.out | apply below_alloc | apply pw_below_drewN | apply below_drew1) | exact HB.out))))
                    (case aL => have := LMc14.out; omega)
                    intro v191 w18 ho hb hg hat
                    rw [← Ny190.out] at ho
                    have n0_ := Aside0.mk (Kd.R_after (ok := (fun _ => True)) (by (with_reducible repeat (first | apply Kd.R_alloc | apply Kd.R_drewN | apply Kd.R_drew)); exact HO189.out) hg hat)
                    have n1_ := Aside0.mk (hb)
                    have n2_ := Aside0.mk (ho)
                    clear HO189
                    clear HB
                    clear HO_3
                    have HO189 := n0_
                    have HB := n1_
                    have HO192 := n2_
                    clear n0_ n1_ n2_
                    clear ho hb hg hat
                    refine hK.out _ _ trivial (fun hHeld => ?_)
                    clear hK K
                    refine norm_ (a' := ?_) ?_ ?_
                    rotate_left
                    · show Act.put _ (some 23) _ = _
                      simp only [Act.put, List.setIfInBounds_toArray, List.set_cons_zero, List.set_cons_succ, i64_w, i32_w]
                      rfl
                    refine pure_ (i := 13) (N := some 3) (v := ?_) (a' := ?_) #[true, true, true, true, true, true, true, true, true, true, true, true, true, true] rfl rfl (any_of HT_.out (by kernel_rfl)) (fun _ _ _ h => h) (Or.inl ⟨by rfl, ?_⟩) ?_ ?_
                    rotate_left
                    · intro w'
                      go_simp
                      with_reducible rfl
                    rotate_left
                    · simp only [Act.put, List.setIfInBounds_toArray, List.set_cons_zero, List.set_cons_succ, i64_w, i32_w]
                      rfl
                    refine done_ (done_of HT_.out (by kernel_rfl)) ?_
                    try go_wp2
                    go_roundg k1
                    case measure => have := HK1.out; omega
                    case rel => exact ⟨(y190), (wrap64 (x4_1 + 1)), (by first | rfl | (simp; done) | (simp [*]; done) | (simp [ne_nil_]; done)), H', ⟨by have := HK1.out; omega⟩, ⟨by (with_reducible repeat (first | apply Kd.R_alloc | apply Kd.R_drewN | apply Kd.R_drew)); exact Kd.R_mono HO192.out (fun _ hk => trivial)⟩, ⟨by repeat (first | (with_reducible first | exact HB.out | apply below_alloc | apply pw_below_drewN | apply below_drew1) | exact HB.out)⟩⟩
                  · rw [if_neg c14] at H
                    exact absurd H (by simp)
                · rw [if_neg c12] at H
                  exact absurd H (by simp)
              · rw [if_neg c11] at H
                exact absurd H (by simp)
            · rw [if_neg c7] at H
              exact absurd H (by simp)
          · rw [if_neg c6] at H
            exact absurd H (by simp)
        · rw [if_neg c3] at H
          exact absurd H (by simp)
      · rw [if_neg c2] at H
        have c2b0 : decide (x4_1 < (a0.size : Int)) = false := decide_eq_false c2
        clear c2
        obtain rfl := Option.some.inj H
        have hcv20 := own_string (P := Tryd.prog) Tryd.underlying54 Tryd.underlying5 Tryd.underlying9 (Kd.own_of_R HO_3.out)
        go_wp2
        go_ret
        exact ⟨by first | rfl | (simp [errW_none, errW_some] <;> rfl) | (simp [*, errW_none, errW_some] <;> rfl), by repeat (first | (with_reducible first | exact HB.out | apply below_alloc | apply pw_below_drewN | apply below_drew1) | exact HB.out)⟩
def colophonref08_Two.f (a0 : Int) : Option (ByteArray) := some (strOfNums (([(a0 / 256) % 256, (a0) % 256] : List Int)))
set_option maxHeartbeats 8000000 in
set_option maxRecDepth 100000 in
theorem colophonref08_Two.calls (a0 : Int) (r : ByteArray) (w : World) (h : colophonref08_Two.f a0 = some r) :
    Calls Tryd.prog 36 #[.int .i64 a0] w fun e w' => e = .returned (.string r) ∧ Below w.heap.size w w' := by
  have HB := Aside0.mk (Below.refl w.heap.size w)
  have H : (some (strOfNums (([(a0 / 256) % 256, (a0) % 256] : List Int)))) = some r := h
  clear h
  obtain ⟨y193, hy193⟩ : ∃ y_ : List Int, y_ = (([(a0 / 256) % 256, (a0) % 256] : List Int)) := ⟨_, rfl⟩
  replace H : (some (strOfNums y193)) = some r := by first | (rw [hy193]; with_reducible exact H) | (have H2_ := (Option.bind_some _ _).symm.trans H; rw [hy193]; with_reducible exact H2_) | (have H2_ := (Option.bind_some _ _).symm.trans H; with_reducible exact H2_) | with_reducible exact H | (rw [hy193]; exact H) | exact H
  have Ny193 := Aside0.mk hy193
  clear hy193
  obtain rfl := Option.some.inj H
  go_enter Tryd.func36, Tryd.ntmps36
  go_wp2_with (first | ((with_reducible refine gate_dst (N := 8) rfl ?_); refine Kd.R_lit (Kd.int .u8) _ 5 ?hg (N := 8) ?hd (xs := ([(a0 / 256) % 256, (a0) % 256] : List Int)) (inner := [.int .u8 ((a0 / 256) % 256), .int .u8 ((a0) % 256)]) (ok := fun _ => True) (okp := fun _ => True) ?hr ?hp (fun _ hk => hk) trivial (Below.refl _ _) (Nat.le_refl _) (by simp) ?_; (case hd => rfl); (case hg => rfl); (case hr => first | (go_simp; done) | (go_simp; rfl)); (case hp => exact (Reps.one (show Kd.M (Kd.int .u8) _ _ _ ((a0 / 256) % 256) [.int .u8 ((a0 / 256) % 256)] from rfl) (Reps.one (show Kd.M (Kd.int .u8) _ _ _ ((a0) % 256) [.int .u8 ((a0) % 256)] from rfl) (Reps.none _ _)))); intro v194 w2 ho3 hb hg_ hnew_; clear hg_ hnew_; (first | rw [← Ny193.out] at ho3 | (simp only [Int.reduceToNat] at ho3; rw [← Ny193.out] at ho3)); have n0_ := Aside0.mk (Kd.R_lower ho3 (below_size (by repeat (first | (with_reducible first | exact HB.out | apply below_alloc | apply pw_below_drewN | apply below_drew1) | exact HB.out)))); have n1_ := Aside0.mk (below_step (by repeat (first | (with_reducible first | exact HB.out | apply below_alloc | apply pw_below_drewN | apply below_drew1) | exact HB.out)) hb); clear HB; have HO195 := n0_; have HB := n1_; clear n0_ n1_; clear hb ho3; have hcv4 := own_string (P := Tryd.prog) Tryd.underlying54 Tryd.underlying5 Tryd.underlying9 (Kd.own_of_R HO195.out)))
  go_ret
  exact ⟨by first | rfl | (simp [errW_none, errW_some] <;> rfl) | (simp [*, errW_none, errW_some] <;> rfl), by repeat (first | (with_reducible first | exact HB.out | apply below_alloc | apply pw_below_drewN | apply below_drew1) | exact HB.out)⟩
def colophonref15_box.f (k : Nat) (a0_0 : Int) (a0_1 : Int) (a0_2 : Int) (a0_3 : Int) : Option (ByteArray) := (colophonref15_num.f k a0_0).bind fun t197 => (if t197.size + 1 ≤ 9223372036854775807 then ((colophonref15_num.f k a0_1).bind fun t198 => (if (t197 ++ (⟨#[32]⟩ : ByteArray)).size + t198.size ≤ 9223372036854775807 then (if ((t197 ++ (⟨#[32]⟩ : ByteArray)) ++ t198).size + 1 ≤ 9223372036854775807 then ((colophonref15_num.f k (wrap64 (a0_2 - a0_0))).bind fun t199 => (if (((t197 ++ (⟨#[32]⟩ : ByteArray)) ++ t198) ++ (⟨#[32]⟩ : ByteArray)).size + t199.size ≤ 9223372036854775807 then (if ((((t197 ++ (⟨#[32]⟩ : ByteArray)) ++ t198) ++ (⟨#[32]⟩ : ByteArray)) ++ t199).size + 1 ≤ 9223372036854775807 then ((colophonref15_num.f k (wrap64 (a0_3 - a0_1))).bind fun t200 => (if (((((t197 ++ (⟨#[32]⟩ : ByteArray)) ++ t198) ++ (⟨#[32]⟩ : ByteArray)) ++ t199) ++ (⟨#[32]⟩ : ByteArray)).size + t200.size ≤ 9223372036854775807 then (if ((((((t197 ++ (⟨#[32]⟩ : ByteArray)) ++ t198) ++ (⟨#[32]⟩ : ByteArray)) ++ t199) ++ (⟨#[32]⟩ : ByteArray)) ++ t200).size + 4 ≤ 9223372036854775807 then (some (((((((t197 ++ (⟨#[32]⟩ : ByteArray)) ++ t198) ++ (⟨#[32]⟩ : ByteArray)) ++ t199) ++ (⟨#[32]⟩ : ByteArray)) ++ t200) ++ (⟨#[32, 114, 101, 10]⟩ : ByteArray))) else (none)) else (none))) else (none)) else (none))) else (none)) else (none))) else (none))
theorem colophonref15_box.mono : ∀ a0 a1 a2 a3 k, LeO (colophonref15_box.f k a0 a1 a2 a3) (colophonref15_box.f (k + 1) a0 a1 a2 a3) := by
  intro a0 a1 a2 a3 k
  unfold colophonref15_box.f
  repeat' first
      | (with_reducible exact colophonref15_num.mono _ _)
      | (with_reducible exact LeO.refl _)
      | (with_reducible exact LeO.none _)
      | (with_reducible refine LeO.ite ?_ ?_)
      | (with_reducible refine LeO.bind ?_ (fun _ => ?_))
      | exact colophonref15_num.mono _ _
      | exact LeO.none _
      | refine LeO.ite ?_ ?_
      | refine LeO.bind ?_ (fun _ => ?_)
def colophonref15_box.T1 : Bool × List (List Nat × List Nat) := (true, [([], []), ([0], [0]), ([1], [1]), ([2], [2]), ([], []), ([4], [4]), ([5, 2], [5]), ([3, 6], [3, 6]), ([7], [7]), ([], []), ([9], [9]), ([], []), ([11], [11]), ([10, 12], [10, 12]), ([13, 6], [13]), ([8, 14], [8, 14]), ([15], [15]), ([], []), ([17], [17]), ([], []), ([19], [19]), ([18, 20], [18, 20]), ([21, 14], [21]), ([16, 22], [16, 22]), ([23], [23]), ([24, 22, 0, 1, 2, 3, 4, 5, 6, 7, 8, 9, 10, 11, 12, 13, 14, 15, 16, 17, 18, 19, 20, 21, 22, 23, 24], [24])])
def colophonref15_box.B1 : List Nat := [0, 1, 3, 7, 0, 16, 55, 127, 255, 0, 512, 0, 2048, 7680, 15991, 32767, 65535, 0, 131072, 0, 524288, 1966080, 4095607, 8388607, 16777215, 33554431]
theorem colophonref15_box.tab1 : rtab .any (opsOf Tryd.f37 1) = colophonref15_box.T1 := by kernel_rfl
theorem colophonref15_box.bits1 : waitsOk colophonref15_box.T1.2 colophonref15_box.B1 = true := by kernel_rfl
set_option maxHeartbeats 8000000 in
set_option maxRecDepth 100000 in
theorem colophonref15_box.calls (k : Nat) (a0_0 : Int) (a0_1 : Int) (a0_2 : Int) (a0_3 : Int) (r : ByteArray) (w : World) (h : colophonref15_box.f k a0_0 a0_1 a0_2 a0_3 = some r) :
    Calls Tryd.prog 37 #[.agg #[.int .i64 a0_0, .int .i64 a0_1, .int .i64 a0_2, .int .i64 a0_3]] w fun e w' => e = .returned (.string r) ∧ Below w.heap.size w w' := by
  have hu48 := Tryd.underlying48
  have HB := Aside0.mk (Below.refl w.heap.size w)
  have H : ((colophonref15_num.f k a0_0).bind fun t197 => (if t197.size + 1 ≤ 9223372036854775807 then ((colophonref15_num.f k a0_1).bind fun t198 => (if (t197 ++ (⟨#[32]⟩ : ByteArray)).size + t198.size ≤ 9223372036854775807 then (if ((t197 ++ (⟨#[32]⟩ : ByteArray)) ++ t198).size + 1 ≤ 9223372036854775807 then ((colophonref15_num.f k (wrap64 (a0_2 - a0_0))).bind fun t199 => (if (((t197 ++ (⟨#[32]⟩ : ByteArray)) ++ t198) ++ (⟨#[32]⟩ : ByteArray)).size + t199.size ≤ 9223372036854775807 then (if ((((t197 ++ (⟨#[32]⟩ : ByteArray)) ++ t198) ++ (⟨#[32]⟩ : ByteArray)) ++ t199).size + 1 ≤ 9223372036854775807 then ((colophonref15_num.f k (wrap64 (a0_3 - a0_1))).bind fun t200 => (if (((((t197 ++ (⟨#[32]⟩ : ByteArray)) ++ t198) ++ (⟨#[32]⟩ : ByteArray)) ++ t199) ++ (⟨#[32]⟩ : ByteArray)).size + t200.size ≤ 9223372036854775807 then (if ((((((t197 ++ (⟨#[32]⟩ : ByteArray)) ++ t198) ++ (⟨#[32]⟩ : ByteArray)) ++ t199) ++ (⟨#[32]⟩ : ByteArray)) ++ t200).size + 4 ≤ 9223372036854775807 then (some (((((((t197 ++ (⟨#[32]⟩ : ByteArray)) ++ t198) ++ (⟨#[32]⟩ : ByteArray)) ++ t199) ++ (⟨#[32]⟩ : ByteArray)) ++ t200) ++ (⟨#[32, 114, 101, 10]⟩ : ByteArray))) else (none)) else (none))) else (none)) else (none))) else (none)) else (none))) else (none))) = some r := h
  clear h
  replace H := Option.bind_eq_some_iff.mp H
  obtain ⟨t197, A20, H⟩ := H
  replace H : (if t197.size + 1 ≤ 9223372036854775807 then ((colophonref15_num.f k a0_1).bind fun t198 => (if (t197 ++ (⟨#[32]⟩ : ByteArray)).size + t198.size ≤ 9223372036854775807 then (if ((t197 ++ (⟨#[32]⟩ : ByteArray)) ++ t198).size + 1 ≤ 9223372036854775807 then ((colophonref15_num.f k (wrap64 (a0_2 - a0_0))).bind fun t199 => (if (((t197 ++ (⟨#[32]⟩ : ByteArray)) ++ t198) ++ (⟨#[32]⟩ : ByteArray)).size + t199.size ≤ 9223372036854775807 then (if ((((t197 ++ (⟨#[32]⟩ : ByteArray)) ++ t198) ++ (⟨#[32]⟩ : ByteArray)) ++ t199).size + 1 ≤ 9223372036854775807 then ((colophonref15_num.f k (wrap64 (a0_3 - a0_1))).bind fun t200 => (if (((((t197 ++ (⟨#[32]⟩ : ByteArray)) ++ t198) ++ (⟨#[32]⟩ : ByteArray)) ++ t199) ++ (⟨#[32]⟩ : ByteArray)).size + t200.size ≤ 9223372036854775807 then (if ((((((t197 ++ (⟨#[32]⟩ : ByteArray)) ++ t198) ++ (⟨#[32]⟩ : ByteArray)) ++ t199) ++ (⟨#[32]⟩ : ByteArray)) ++ t200).size + 4 ≤ 9223372036854775807 then (some (((((((t197 ++ (⟨#[32]⟩ : ByteArray)) ++ t198) ++ (⟨#[32]⟩ : ByteArray)) ++ t199) ++ (⟨#[32]⟩ : ByteArray)) ++ t200) ++ (⟨#[32, 114, 101, 10]⟩ : ByteArray))) else (none)) else (none))) else (none)) else (none))) else (none)) else (none))) else (none)) = some r := H
  have A2 := Aside0.mk A20
  clear A20
  by_cases c3 : t197.size + 1 ≤ 9223372036854775807
  · rw [if_pos c3] at H
    have c3b0 := eq_true c3
    have c3b1 : decide (t197.size + 1 ≤ 9223372036854775807) = true := decide_eq_true c3
    try have c3b2 : (9223372036854775807 < t197.size + 1) = False := eq_false (Nat.not_lt.2 c3)
    try (have c3b3 := c3b2; simp only [ByteArray.size_append, sz_mk_, List.length_cons, List.length_nil, Nat.zero_add, Nat.reduceAdd] at c3b3)
    replace H := Option.bind_eq_some_iff.mp H
    obtain ⟨t198, A40, H⟩ := H
    replace H : (if (t197 ++ (⟨#[32]⟩ : ByteArray)).size + t198.size ≤ 9223372036854775807 then (if ((t197 ++ (⟨#[32]⟩ : ByteArray)) ++ t198).size + 1 ≤ 9223372036854775807 then ((colophonref15_num.f k (wrap64 (a0_2 - a0_0))).bind fun t199 => (if (((t197 ++ (⟨#[32]⟩ : ByteArray)) ++ t198) ++ (⟨#[32]⟩ : ByteArray)).size + t199.size ≤ 9223372036854775807 then (if ((((t197 ++ (⟨#[32]⟩ : ByteArray)) ++ t198) ++ (⟨#[32]⟩ : ByteArray)) ++ t199).size + 1 ≤ 9223372036854775807 then ((colophonref15_num.f k (wrap64 (a0_3 - a0_1))).bind fun t200 => (if (((((t197 ++ (⟨#[32]⟩ : ByteArray)) ++ t198) ++ (⟨#[32]⟩ : ByteArray)) ++ t199) ++ (⟨#[32]⟩ : ByteArray)).size + t200.size ≤ 9223372036854775807 then (if ((((((t197 ++ (⟨#[32]⟩ : ByteArray)) ++ t198) ++ (⟨#[32]⟩ : ByteArray)) ++ t199) ++ (⟨#[32]⟩ : ByteArray)) ++ t200).size + 4 ≤ 9223372036854775807 then (some (((((((t197 ++ (⟨#[32]⟩ : ByteArray)) ++ t198) ++ (⟨#[32]⟩ : ByteArray)) ++ t199) ++ (⟨#[32]⟩ : ByteArray)) ++ t200) ++ (⟨#[32, 114, 101, 10]⟩ : ByteArray))) else (none)) else (none))) else (none)) else (none))) else (none)) else (none)) = some r := H
    have A4 := Aside0.mk A40
    clear A40
    by_cases c5 : (t197 ++ (⟨#[32]⟩ : ByteArray)).size + t198.size ≤ 9223372036854775807
    · rw [if_pos c5] at H
      have c5b0 := eq_true c5
      have c5b1 : decide ((t197 ++ (⟨#[32]⟩ : ByteArray)).size + t198.size ≤ 9223372036854775807) = true := decide_eq_true c5
      try have c5b2 : (9223372036854775807 < (t197 ++ (⟨#[32]⟩ : ByteArray)).size + t198.size) = False := eq_false (Nat.not_lt.2 c5)
      try (have c5b3 := c5b2; simp only [ByteArray.size_append, sz_mk_, List.length_cons, List.length_nil, Nat.zero_add, Nat.reduceAdd] at c5b3)
      by_cases c6 : ((t197 ++ (⟨#[32]⟩ : ByteArray)) ++ t198).size + 1 ≤ 9223372036854775807
      · rw [if_pos c6] at H
        have c6b0 := eq_true c6
        have c6b1 : decide (((t197 ++ (⟨#[32]⟩ : ByteArray)) ++ t198).size + 1 ≤ 9223372036854775807) = true := decide_eq_true c6
        try have c6b2 : (9223372036854775807 < ((t197 ++ (⟨#[32]⟩ : ByteArray)) ++ t198).size + 1) = False := eq_false (Nat.not_lt.2 c6)
        try (have c6b3 := c6b2; simp only [ByteArray.size_append, sz_mk_, List.length_cons, List.length_nil, Nat.zero_add, Nat.reduceAdd] at c6b3)
        replace H := Option.bind_eq_some_iff.mp H
        obtain ⟨t199, A70, H⟩ := H
        replace H : (if (((t197 ++ (⟨#[32]⟩ : ByteArray)) ++ t198) ++ (⟨#[32]⟩ : ByteArray)).size + t199.size ≤ 9223372036854775807 then (if ((((t197 ++ (⟨#[32]⟩ : ByteArray)) ++ t198) ++ (⟨#[32]⟩ : ByteArray)) ++ t199).size + 1 ≤ 9223372036854775807 then ((colophonref15_num.f k (wrap64 (a0_3 - a0_1))).bind fun t200 => (if (((((t197 ++ (⟨#[32]⟩ : ByteArray)) ++ t198) ++ (⟨#[32]⟩ : ByteArray)) ++ t199) ++ (⟨#[32]⟩ : ByteArray)).size + t200.size ≤ 9223372036854775807 then (if ((((((t197 ++ (⟨#[32]⟩ : ByteArray)) ++ t198) ++ (⟨#[32]⟩ : ByteArray)) ++ t199) ++ (⟨#[32]⟩ : ByteArray)) ++ t200).size + 4 ≤ 9223372036854775807 then (some (((((((t197 ++ (⟨#[32]⟩ : ByteArray)) ++ t198) ++ (⟨#[32]⟩ : ByteArray)) ++ t199) ++ (⟨#[32]⟩ : ByteArray)) ++ t200) ++ (⟨#[32, 114, 101, 10]⟩ : ByteArray))) else (none)) else (none))) else (none)) else (none)) = some r := H
        have A7 := Aside0.mk A70
        clear A70
        by_cases c8 : (((t197 ++ (⟨#[32]⟩ : ByteArray)) ++ t198) ++ (⟨#[32]⟩ : ByteArray)).size + t199.size ≤ 9223372036854775807
        · rw [if_pos c8] at H
          have c8b0 := eq_true c8
          have c8b1 : decide ((((t197 ++ (⟨#[32]⟩ : ByteArray)) ++ t198) ++ (⟨#[32]⟩ : ByteArray)).size + t199.size ≤ 9223372036854775807) = true := decide_eq_true c8
          try have c8b2 : (9223372036854775807 < (((t197 ++ (⟨#[32]⟩ : ByteArray)) ++ t198) ++ (⟨#[32]⟩ : ByteArray)).size + t199.size) = False := eq_false (Nat.not_lt.2 c8)
          try (have c8b3 := c8b2; simp only [ByteArray.size_append, sz_mk_, List.length_cons, List.length_nil, Nat.zero_add, Nat.reduceAdd] at c8b3)
          by_cases c9 : ((((t197 ++ (⟨#[32]⟩ : ByteArray)) ++ t198) ++ (⟨#[32]⟩ : ByteArray)) ++ t199).size + 1 ≤ 9223372036854775807
          · rw [if_pos c9] at H
            have c9b0 := eq_true c9
            have c9b1 : decide (((((t197 ++ (⟨#[32]⟩ : ByteArray)) ++ t198) ++ (⟨#[32]⟩ : ByteArray)) ++ t199).size + 1 ≤ 9223372036854775807) = true := decide_eq_true c9
            try have c9b2 : (9223372036854775807 < ((((t197 ++ (⟨#[32]⟩ : ByteArray)) ++ t198) ++ (⟨#[32]⟩ : ByteArray)) ++ t199).size + 1) = False := eq_false (Nat.not_lt.2 c9)
            try (have c9b3 := c9b2; simp only [ByteArray.size_append, sz_mk_, List.length_cons, List.length_nil, Nat.zero_add, Nat.reduceAdd] at c9b3)
            replace H := Option.bind_eq_some_iff.mp H
            obtain ⟨t200, A100, H⟩ := H
            replace H : (if (((((t197 ++ (⟨#[32]⟩ : ByteArray)) ++ t198) ++ (⟨#[32]⟩ : ByteArray)) ++ t199) ++ (⟨#[32]⟩ : ByteArray)).size + t200.size ≤ 9223372036854775807 then (if ((((((t197 ++ (⟨#[32]⟩ : ByteArray)) ++ t198) ++ (⟨#[32]⟩ : ByteArray)) ++ t199) ++ (⟨#[32]⟩ : ByteArray)) ++ t200).size + 4 ≤ 9223372036854775807 then (some (((((((t197 ++ (⟨#[32]⟩ : ByteArray)) ++ t198) ++ (⟨#[32]⟩ : ByteArray)) ++ t199) ++ (⟨#[32]⟩ : ByteArray)) ++ t200) ++ (⟨#[32, 114, 101, 10]⟩ : ByteArray))) else (none)) else (none)) = some r := H
            have A10 := Aside0.mk A100
            clear A100
            by_cases c11 : (((((t197 ++ (⟨#[32]⟩ : ByteArray)) ++ t198) ++ (⟨#[32]⟩ : ByteArray)) ++ t199) ++ (⟨#[32]⟩ : ByteArray)).size + t200.size ≤ 9223372036854775807
            · rw [if_pos c11] at H
              have c11b0 := eq_true c11
              have c11b1 : decide ((((((t197 ++ (⟨#[32]⟩ : ByteArray)) ++ t198) ++ (⟨#[32]⟩ : ByteArray)) ++ t199) ++ (⟨#[32]⟩ : ByteArray)).size + t200.size ≤ 9223372036854775807) = true := decide_eq_true c11
              try have c11b2 : (9223372036854775807 < (((((t197 ++ (⟨#[32]⟩ : ByteArray)) ++ t198) ++ (⟨#[32]⟩ : ByteArray)) ++ t199) ++ (⟨#[32]⟩ : ByteArray)).size + t200.size) = False := eq_false (Nat.not_lt.2 c11)
              try (have c11b3 := c11b2; simp only [ByteArray.size_append, sz_mk_, List.length_cons, List.length_nil, Nat.zero_add, Nat.reduceAdd] at c11b3)
              by_cases c12 : ((((((t197 ++ (⟨#[32]⟩ : ByteArray)) ++ t198) ++ (⟨#[32]⟩ : ByteArray)) ++ t199) ++ (⟨#[32]⟩ : ByteArray)) ++ t200).size + 4 ≤ 9223372036854775807
              · rw [if_pos c12] at H
                have c12b0 := eq_true c12
                have c12b1 : decide (((((((t197 ++ (⟨#[32]⟩ : ByteArray)) ++ t198) ++ (⟨#[32]⟩ : ByteArray)) ++ t199) ++ (⟨#[32]⟩ : ByteArray)) ++ t200).size + 4 ≤ 9223372036854775807) = true := decide_eq_true c12
                try have c12b2 : (9223372036854775807 < ((((((t197 ++ (⟨#[32]⟩ : ByteArray)) ++ t198) ++ (⟨#[32]⟩ : ByteArray)) ++ t199) ++ (⟨#[32]⟩ : ByteArray)) ++ t200).size + 4) = False := eq_false (Nat.not_lt.2 c12)
                try (have c12b3 := c12b2; simp only [ByteArray.size_append, sz_mk_, List.length_cons, List.length_nil, Nat.zero_add, Nat.reduceAdd] at c12b3)
                obtain rfl := Option.some.inj H
                go_enter Tryd.func37, Tryd.ntmps37
                try go_wp2_with (first | ((with_reducible refine gate_dst (N := 1) rfl ?_); refine box_event ?hg (N := 1) ?hd (cs := #[.int .i64 a0_0, .int .i64 a0_1, .int .i64 a0_2, .int .i64 a0_3]) (t := 48) ?hr ?_; (case hd => rfl); (case hg => rfl); (case hr => first | (go_simp; done) | (go_simp; rfl)); intro gb196 hg w13 hbox hb; have n0_ := Aside0.mk (below_step (by repeat (first | (with_reducible first | exact HB.out | apply below_alloc | apply pw_below_drewN | apply below_drew1) | exact HB.out)) hb); have n1_ := Aside0.mk (hbox); have n2_ := Aside0.mk ((by rw [hg]; exact (below_size (by repeat (first | (with_reducible first | exact HB.out | apply below_alloc | apply pw_below_drewN | apply below_drew1) | exact HB.out))) : w.heap.size ≤ gb196)); have n3_ := Aside0.mk ((by rw [hg]; exact (below_size (by repeat (first | (with_reducible first | exact HB.out | apply below_alloc | apply pw_below_drewN | apply below_drew1) | exact HB.out))) : w.heap.size ≤ gb196)); clear HB; have HB := n0_; have BK196 := n1_; have GW196 := n2_; have GE196 := n3_; clear n0_ n1_ n2_ n3_; clear hb hbox hg))
                have n0_ := Aside0.mk (blk_drew BK196.out)
                have n1_ := Aside0.mk (below_drew1 HB.out)
                clear BK196
                clear HB
                have BK196 := n0_
                have HB := n1_
                clear n0_ n1_
                refine start_ (n := 26) (S := fun w' => w'.cell? ⟨gb196, 0, none⟩ = some (.int .i64 a0_0) ∧ w'.cell? ⟨gb196, 1, none⟩ = some (.int .i64 a0_1) ∧ w'.cell? ⟨gb196, 2, none⟩ = some (.int .i64 a0_2) ∧ w'.cell? ⟨gb196, 3, none⟩ = some (.int .i64 a0_3)) (ds := []) #[false, false, false, false, false, false, false, false, false, false, false, false, false, false, false, false, false, false, false, false, false, false, false, false, false, false] (by kernel_rfl) rfl rfl ⟨(blk_cell BK196.out 0).trans rfl, (blk_cell BK196.out 1).trans rfl, (blk_cell BK196.out 2).trans rfl, (blk_cell BK196.out 3).trans rfl⟩ (fun hHeld => ?_); refine with_tabW colophonref15_box.tab1 colophonref15_box.bits1 (fun HT_ HW_ => ?_)
                generalize w13.drew = w14 at BK196 HB hHeld ⊢
                refine pure_ (i := 0) (N := some 3) (v := ?_) (a' := ?_) #[true, false, false, false, false, false, false, false, false, false, false, false, false, false, false, false, false, false, false, false, false, false, false, false, false, false] rfl rfl (any_of HT_.out (by kernel_rfl)) (fun _ _ _ h => h) (Or.inl ⟨by rfl, ?_⟩) ?_ ?_
                rotate_left
                · intro w'
                  go_simp
                  with_reducible rfl
                rotate_left
                · simp only [Act.put, List.setIfInBounds_toArray, List.set_cons_zero, List.set_cons_succ, i64_w, i32_w]
                  rfl
                refine pure_ (i := 4) (N := some 7) (v := ?_) (a' := ?_) #[true, false, false, false, true, false, false, false, false, false, false, false, false, false, false, false, false, false, false, false, false, false, false, false, false, false] rfl rfl (any_of HT_.out (by kernel_rfl)) (fun _ _ _ h => h) (Or.inl ⟨by rfl, ?_⟩) ?_ ?_
                rotate_left
                · intro w'
                  go_simp
                  with_reducible rfl
                rotate_left
                · simp only [Act.put, List.setIfInBounds_toArray, List.set_cons_zero, List.set_cons_succ, i64_w, i32_w]
                  rfl
                refine pure_ (i := 9) (N := some 12) (v := ?_) (a' := ?_) #[true, false, false, false, true, false, false, false, false, true, false, false, false, false, false, false, false, false, false, false, false, false, false, false, false, false] rfl rfl (any_of HT_.out (by kernel_rfl)) (fun _ _ _ h => h) (Or.inl ⟨by rfl, ?_⟩) ?_ ?_
                rotate_left
                · intro w'
                  go_simp
                  with_reducible rfl
                rotate_left
                · simp only [Act.put, List.setIfInBounds_toArray, List.set_cons_zero, List.set_cons_succ, i64_w, i32_w]
                  rfl
                refine pure_ (i := 11) (N := some 14) (v := ?_) (a' := ?_) #[true, false, false, false, true, false, false, false, false, true, false, true, false, false, false, false, false, false, false, false, false, false, false, false, false, false] rfl rfl (any_of HT_.out (by kernel_rfl)) (fun _ _ _ h => h) (Or.inl ⟨by rfl, ?_⟩) ?_ ?_
                rotate_left
                · intro w'
                  go_simp
                  with_reducible rfl
                rotate_left
                · simp only [Act.put, List.setIfInBounds_toArray, List.set_cons_zero, List.set_cons_succ, i64_w, i32_w]
                  rfl
                refine pure_ (i := 17) (N := some 20) (v := ?_) (a' := ?_) #[true, false, false, false, true, false, false, false, false, true, false, true, false, false, false, false, false, true, false, false, false, false, false, false, false, false] rfl rfl (any_of HT_.out (by kernel_rfl)) (fun _ _ _ h => h) (Or.inl ⟨by rfl, ?_⟩) ?_ ?_
                rotate_left
                · intro w'
                  go_simp
                  with_reducible rfl
                rotate_left
                · simp only [Act.put, List.setIfInBounds_toArray, List.set_cons_zero, List.set_cons_succ, i64_w, i32_w]
                  rfl
                refine pure_ (i := 19) (N := some 22) (v := ?_) (a' := ?_) #[true, false, false, false, true, false, false, false, false, true, false, true, false, false, false, false, false, true, false, true, false, false, false, false, false, false] rfl rfl (any_of HT_.out (by kernel_rfl)) (fun _ _ _ h => h) (Or.inl ⟨by rfl, ?_⟩) ?_ ?_
                rotate_left
                · intro w'
                  go_simp
                  with_reducible rfl
                rotate_left
                · simp only [Act.put, List.setIfInBounds_toArray, List.set_cons_zero, List.set_cons_succ, i64_w, i32_w]
                  rfl
                refine take_ (i := 1) (N := some 4) (v := ?_) (a' := ?_) #[true, true, false, false, true, false, false, false, false, true, false, true, false, false, false, false, false, true, false, true, false, false, false, false, false, false] rfl rfl (take_ofW HT_.out HW_.out (by kernel_rfl)) (fun _ _ _ h => h) (Or.inl ⟨by rfl, ?_⟩) hHeld ?_ ?_
                rotate_left
                · rintro w' ⟨s0, s1, s2, s3⟩
                  go_simp
                  with_reducible rfl
                rotate_left
                · simp only [Act.put, List.setIfInBounds_toArray, List.set_cons_zero, List.set_cons_succ, i64_w, i32_w]
                  rfl
                refine take_ (i := 5) (N := some 8) (v := ?_) (a' := ?_) #[true, true, false, false, true, true, false, false, false, true, false, true, false, false, false, false, false, true, false, true, false, false, false, false, false, false] rfl rfl (take_ofW HT_.out HW_.out (by kernel_rfl)) (fun _ _ _ h => h) (Or.inl ⟨by rfl, ?_⟩) hHeld ?_ ?_
                rotate_left
                · rintro w' ⟨s0, s1, s2, s3⟩
                  go_simp
                  with_reducible rfl
                rotate_left
                · simp only [Act.put, List.setIfInBounds_toArray, List.set_cons_zero, List.set_cons_succ, i64_w, i32_w]
                  rfl
                refine take_ (i := 10) (N := some 13) (v := ?_) (a' := ?_) #[true, true, false, false, true, true, false, false, false, true, true, true, false, false, false, false, false, true, false, true, false, false, false, false, false, false] rfl rfl (take_ofW HT_.out HW_.out (by kernel_rfl)) (fun _ _ _ h => h) (Or.inl ⟨by rfl, ?_⟩) hHeld ?_ ?_
                rotate_left
                · rintro w' ⟨s0, s1, s2, s3⟩
                  go_simp
                  with_reducible rfl
                rotate_left
                · simp only [Act.put, List.setIfInBounds_toArray, List.set_cons_zero, List.set_cons_succ, i64_w, i32_w]
                  rfl
                refine take_ (i := 12) (N := some 15) (v := ?_) (a' := ?_) #[true, true, false, false, true, true, false, false, false, true, true, true, true, false, false, false, false, true, false, true, false, false, false, false, false, false] rfl rfl (take_ofW HT_.out HW_.out (by kernel_rfl)) (fun _ _ _ h => h) (Or.inl ⟨by rfl, ?_⟩) hHeld ?_ ?_
                rotate_left
                · rintro w' ⟨s0, s1, s2, s3⟩
                  go_simp
                  with_reducible rfl
                rotate_left
                · simp only [Act.put, List.setIfInBounds_toArray, List.set_cons_zero, List.set_cons_succ, i64_w, i32_w]
                  rfl
                refine pure_ (i := 13) (N := some 16) (v := ?_) (a' := ?_) #[true, true, false, false, true, true, false, false, false, true, true, true, true, true, false, false, false, true, false, true, false, false, false, false, false, false] rfl rfl (any_of HT_.out (by kernel_rfl)) (fun _ _ _ h => h) (Or.inl ⟨by rfl, ?_⟩) ?_ ?_
                rotate_left
                · intro w'
                  go_simp
                  with_reducible rfl
                rotate_left
                · simp only [Act.put, List.setIfInBounds_toArray, List.set_cons_zero, List.set_cons_succ, i64_w, i32_w]
                  rfl
                refine take_ (i := 18) (N := some 21) (v := ?_) (a' := ?_) #[true, true, false, false, true, true, false, false, false, true, true, true, true, true, false, false, false, true, true, true, false, false, false, false, false, false] rfl rfl (take_ofW HT_.out HW_.out (by kernel_rfl)) (fun _ _ _ h => h) (Or.inl ⟨by rfl, ?_⟩) hHeld ?_ ?_
                rotate_left
                · rintro w' ⟨s0, s1, s2, s3⟩
                  go_simp
                  with_reducible rfl
                rotate_left
                · simp only [Act.put, List.setIfInBounds_toArray, List.set_cons_zero, List.set_cons_succ, i64_w, i32_w]
                  rfl
                refine take_ (i := 20) (N := some 23) (v := ?_) (a' := ?_) #[true, true, false, false, true, true, false, false, false, true, true, true, true, true, false, false, false, true, true, true, true, false, false, false, false, false] rfl rfl (take_ofW HT_.out HW_.out (by kernel_rfl)) (fun _ _ _ h => h) (Or.inl ⟨by rfl, ?_⟩) hHeld ?_ ?_
                rotate_left
                · rintro w' ⟨s0, s1, s2, s3⟩
                  go_simp
                  with_reducible rfl
                rotate_left
                · simp only [Act.put, List.setIfInBounds_toArray, List.set_cons_zero, List.set_cons_succ, i64_w, i32_w]
                  rfl
                refine pure_ (i := 21) (N := some 24) (v := ?_) (a' := ?_) #[true, true, false, false, true, true, false, false, false, true, true, true, true, true, false, false, false, true, true, true, true, true, false, false, false, false] rfl rfl (any_of HT_.out (by kernel_rfl)) (fun _ _ _ h => h) (Or.inl ⟨by rfl, ?_⟩) ?_ ?_
                rotate_left
                · intro w'
                  go_simp
                  with_reducible rfl
                rotate_left
                · simp only [Act.put, List.setIfInBounds_toArray, List.set_cons_zero, List.set_cons_succ, i64_w, i32_w]
                  rfl
                refine one_ (i := 2) (N := some 5) #[true, true, true, false, true, true, false, false, false, true, true, true, true, true, false, false, false, true, true, true, true, true, false, false, false, false] rfl rfl (one_of HT_.out (by kernel_rfl)) (by decide) (fun K hK => ?_)
                refine goes_ Tryd.func34 (by kernel_rfl) rfl #[.int .i64 a0_0] (by rfl) rfl rfl (by (try simp only [List.map_toArray, List.map_cons, List.map_nil]); first | done | rfl | (simp only [List.length_drop, List.length_take]; rfl) | (simp only [Array.mk.injEq, List.cons.injEq, Value.int.injEq, and_true, true_and]; (try unfold wrap64); omega)) ?_
                with_reducible refine (colophonref15_num.calls k a0_0 t197 _ A2.out).mono ?_
                rintro e w15 ⟨rfl, hb⟩
                refine ⟨_, rfl, ?_⟩
                have n0_ := Aside0.mk (blk_below (g := gb196) (o := .cells #[.int .i64 a0_0, .int .i64 a0_1, .int .i64 a0_2, .int .i64 a0_3] 48 (0, 0)) (by (with_reducible repeat (first | refine blk_drewN ?_ _ | refine blk_drew ?_ | refine blk_alloc ?_ _)); exact BK196.out) hb)
                have n1_ := Aside0.mk (below_step (by repeat (first | (with_reducible first | exact HB.out | apply below_alloc | apply pw_below_drewN | apply below_drew1 | refine below_set ?_ GE196.out) | exact HB.out)) hb)
                clear BK196
                clear HB
                have BK196 := n0_
                have HB := n1_
                clear n0_ n1_
                (try clear hb)
                (try clear hb2)
                (try clear hk)
                (try clear hi)
                refine hK.out _ _ ⟨(blk_cell BK196.out 0).trans rfl, (blk_cell BK196.out 1).trans rfl, (blk_cell BK196.out 2).trans rfl, (blk_cell BK196.out 3).trans rfl⟩ (fun hHeld => ?_)
                clear hK K
                refine norm_ (a' := ?_) ?_ ?_
                rotate_left
                · show Act.put _ (some 5) _ = _
                  simp only [Act.put, List.setIfInBounds_toArray, List.set_cons_zero, List.set_cons_succ, i64_w, i32_w]
                  rfl
                refine pure_ (i := 3) (N := some 6) (v := ?_) (a' := ?_) #[true, true, true, true, true, true, false, false, false, true, true, true, true, true, false, false, false, true, true, true, true, true, false, false, false, false] rfl rfl (any_of HT_.out (by kernel_rfl)) (fun _ _ _ h => h) (Or.inl ⟨by rfl, ?_⟩) ?_ ?_
                rotate_left
                · intro w'
                  go_simp
                  with_reducible rfl
                rotate_left
                · simp only [Act.put, List.setIfInBounds_toArray, List.set_cons_zero, List.set_cons_succ, i64_w, i32_w]
                  rfl
                refine one_ (i := 6) (N := some 9) #[true, true, true, true, true, true, true, false, false, true, true, true, true, true, false, false, false, true, true, true, true, true, false, false, false, false] rfl rfl (one_of HT_.out (by kernel_rfl)) (by decide) (fun K hK => ?_)
                refine goes_ Tryd.func34 (by kernel_rfl) rfl #[.int .i64 a0_1] (by rfl) rfl rfl (by (try simp only [List.map_toArray, List.map_cons, List.map_nil]); first | done | rfl | (simp only [List.length_drop, List.length_take]; rfl) | (simp only [Array.mk.injEq, List.cons.injEq, Value.int.injEq, and_true, true_and]; (try unfold wrap64); omega)) ?_
                with_reducible refine (colophonref15_num.calls k a0_1 t198 _ A4.out).mono ?_
                rintro e w16 ⟨rfl, hb⟩
                refine ⟨_, rfl, ?_⟩
                have n0_ := Aside0.mk (blk_below (g := gb196) (o := .cells #[.int .i64 a0_0, .int .i64 a0_1, .int .i64 a0_2, .int .i64 a0_3] 48 (0, 0)) (by (with_reducible repeat (first | refine blk_drewN ?_ _ | refine blk_drew ?_ | refine blk_alloc ?_ _)); exact BK196.out) hb)
                have n1_ := Aside0.mk (below_step (by repeat (first | (with_reducible first | exact HB.out | apply below_alloc | apply pw_below_drewN | apply below_drew1 | refine below_set ?_ GE196.out) | exact HB.out)) hb)
                clear BK196
                clear HB
                have BK196 := n0_
                have HB := n1_
                clear n0_ n1_
                (try clear hb)
                (try clear hb2)
                (try clear hk)
                (try clear hi)
                refine hK.out _ _ ⟨(blk_cell BK196.out 0).trans rfl, (blk_cell BK196.out 1).trans rfl, (blk_cell BK196.out 2).trans rfl, (blk_cell BK196.out 3).trans rfl⟩ (fun hHeld => ?_)
                clear hK K
                refine norm_ (a' := ?_) ?_ ?_
                rotate_left
                · show Act.put _ (some 9) _ = _
                  simp only [Act.put, List.setIfInBounds_toArray, List.set_cons_zero, List.set_cons_succ, i64_w, i32_w]
                  rfl
                refine pure_ (i := 7) (N := some 10) (v := ?_) (a' := ?_) #[true, true, true, true, true, true, true, true, false, true, true, true, true, true, false, false, false, true, true, true, true, true, false, false, false, false] rfl rfl (any_of HT_.out (by kernel_rfl)) (fun _ _ _ h => h) (Or.inl ⟨by rfl, ?_⟩) ?_ ?_
                rotate_left
                · intro w'
                  go_simp
                  with_reducible rfl
                rotate_left
                · simp only [Act.put, List.setIfInBounds_toArray, List.set_cons_zero, List.set_cons_succ, i64_w, i32_w]
                  rfl
                refine pure_ (i := 8) (N := some 11) (v := ?_) (a' := ?_) #[true, true, true, true, true, true, true, true, true, true, true, true, true, true, false, false, false, true, true, true, true, true, false, false, false, false] rfl rfl (any_of HT_.out (by kernel_rfl)) (fun _ _ _ h => h) (Or.inl ⟨by rfl, ?_⟩) ?_ ?_
                rotate_left
                · intro w'
                  go_simp
                  with_reducible rfl
                rotate_left
                · simp only [Act.put, List.setIfInBounds_toArray, List.set_cons_zero, List.set_cons_succ, i64_w, i32_w]
                  rfl
                refine one_ (i := 14) (N := some 17) #[true, true, true, true, true, true, true, true, true, true, true, true, true, true, true, false, false, true, true, true, true, true, false, false, false, false] rfl rfl (one_of HT_.out (by kernel_rfl)) (by decide) (fun K hK => ?_)
                refine goes_ Tryd.func34 (by kernel_rfl) rfl #[.int .i64 (wrap64 (a0_2 - a0_0))] (by rfl) rfl rfl (by (try simp only [List.map_toArray, List.map_cons, List.map_nil]); first | done | rfl | (simp only [List.length_drop, List.length_take]; rfl) | (simp only [Array.mk.injEq, List.cons.injEq, Value.int.injEq, and_true, true_and]; (try unfold wrap64); omega)) ?_
                with_reducible refine (colophonref15_num.calls k (wrap64 (a0_2 - a0_0)) t199 _ A7.out).mono ?_
                rintro e w17 ⟨rfl, hb⟩
                refine ⟨_, rfl, ?_⟩
                have n0_ := Aside0.mk (blk_below (g := gb196) (o := .cells #[.int .i64 a0_0, .int .i64 a0_1, .int .i64 a0_2, .int .i64 a0_3] 48 (0, 0)) (by (with_reducible repeat (first | refine blk_drewN ?_ _ | refine blk_drew ?_ | refine blk_alloc ?_ _)); exact BK196.out) hb)
                have n1_ := Aside0.mk (below_step (by repeat (first | (with_reducible first | exact HB.out | apply below_alloc | apply pw_below_drewN | apply below_drew1 | refine below_set ?_ GE196.out) | exact HB.out)) hb)
                clear BK196
                clear HB
                have BK196 := n0_
                have HB := n1_
                clear n0_ n1_
                (try clear hb)
                (try clear hb2)
                (try clear hk)
                (try clear hi)
                refine hK.out _ _ ⟨(blk_cell BK196.out 0).trans rfl, (blk_cell BK196.out 1).trans rfl, (blk_cell BK196.out 2).trans rfl, (blk_cell BK196.out 3).trans rfl⟩ (fun hHeld => ?_)
                clear hK K
                refine norm_ (a' := ?_) ?_ ?_
                rotate_left
                · show Act.put _ (some 17) _ = _
                  simp only [Act.put, List.setIfInBounds_toArray, List.set_cons_zero, List.set_cons_succ, i64_w, i32_w]
                  rfl
                refine pure_ (i := 15) (N := some 18) (v := ?_) (a' := ?_) #[true, true, true, true, true, true, true, true, true, true, true, true, true, true, true, true, false, true, true, true, true, true, false, false, false, false] rfl rfl (any_of HT_.out (by kernel_rfl)) (fun _ _ _ h => h) (Or.inl ⟨by rfl, ?_⟩) ?_ ?_
                rotate_left
                · intro w'
                  go_simp
                  with_reducible rfl
                rotate_left
                · simp only [Act.put, List.setIfInBounds_toArray, List.set_cons_zero, List.set_cons_succ, i64_w, i32_w]
                  rfl
                refine pure_ (i := 16) (N := some 19) (v := ?_) (a' := ?_) #[true, true, true, true, true, true, true, true, true, true, true, true, true, true, true, true, true, true, true, true, true, true, false, false, false, false] rfl rfl (any_of HT_.out (by kernel_rfl)) (fun _ _ _ h => h) (Or.inl ⟨by rfl, ?_⟩) ?_ ?_
                rotate_left
                · intro w'
                  go_simp
                  with_reducible rfl
                rotate_left
                · simp only [Act.put, List.setIfInBounds_toArray, List.set_cons_zero, List.set_cons_succ, i64_w, i32_w]
                  rfl
                refine one_ (i := 22) (N := some 25) #[true, true, true, true, true, true, true, true, true, true, true, true, true, true, true, true, true, true, true, true, true, true, true, false, false, false] rfl rfl (one_of HT_.out (by kernel_rfl)) (by decide) (fun K hK => ?_)
                refine goes_ Tryd.func34 (by kernel_rfl) rfl #[.int .i64 (wrap64 (a0_3 - a0_1))] (by rfl) rfl rfl (by (try simp only [List.map_toArray, List.map_cons, List.map_nil]); first | done | rfl | (simp only [List.length_drop, List.length_take]; rfl) | (simp only [Array.mk.injEq, List.cons.injEq, Value.int.injEq, and_true, true_and]; (try unfold wrap64); omega)) ?_
                with_reducible refine (colophonref15_num.calls k (wrap64 (a0_3 - a0_1)) t200 _ A10.out).mono ?_
                rintro e w18 ⟨rfl, hb⟩
                refine ⟨_, rfl, ?_⟩
                have n0_ := Aside0.mk (blk_below (g := gb196) (o := .cells #[.int .i64 a0_0, .int .i64 a0_1, .int .i64 a0_2, .int .i64 a0_3] 48 (0, 0)) (by (with_reducible repeat (first | refine blk_drewN ?_ _ | refine blk_drew ?_ | refine blk_alloc ?_ _)); exact BK196.out) hb)
                have n1_ := Aside0.mk (below_step (by repeat (first | (with_reducible first | exact HB.out | apply below_alloc | apply pw_below_drewN | apply below_drew1 | refine below_set ?_ GE196.out) | exact HB.out)) hb)
                clear BK196
                clear HB
                have BK196 := n0_
                have HB := n1_
                clear n0_ n1_
                (try clear hb)
                (try clear hb2)
                (try clear hk)
                (try clear hi)
                refine hK.out _ _ ⟨(blk_cell BK196.out 0).trans rfl, (blk_cell BK196.out 1).trans rfl, (blk_cell BK196.out 2).trans rfl, (blk_cell BK196.out 3).trans rfl⟩ (fun hHeld => ?_)
                clear hK K
                refine norm_ (a' := ?_) ?_ ?_
                rotate_left
                · show Act.put _ (some 25) _ = _
                  simp only [Act.put, List.setIfInBounds_toArray, List.set_cons_zero, List.set_cons_succ, i64_w, i32_w]
                  rfl
                refine pure_ (i := 23) (N := some 26) (v := ?_) (a' := ?_) #[true, true, true, true, true, true, true, true, true, true, true, true, true, true, true, true, true, true, true, true, true, true, true, true, false, false] rfl rfl (any_of HT_.out (by kernel_rfl)) (fun _ _ _ h => h) (Or.inl ⟨by rfl, ?_⟩) ?_ ?_
                rotate_left
                · intro w'
                  go_simp
                  with_reducible rfl
                rotate_left
                · simp only [Act.put, List.setIfInBounds_toArray, List.set_cons_zero, List.set_cons_succ, i64_w, i32_w]
                  rfl
                refine pure_ (i := 24) (N := some 27) (v := ?_) (a' := ?_) #[true, true, true, true, true, true, true, true, true, true, true, true, true, true, true, true, true, true, true, true, true, true, true, true, true, false] rfl rfl (any_of HT_.out (by kernel_rfl)) (fun _ _ _ h => h) (Or.inl ⟨by rfl, ?_⟩) ?_ ?_
                rotate_left
                · intro w'
                  go_simp
                  with_reducible rfl
                rotate_left
                · simp only [Act.put, List.setIfInBounds_toArray, List.set_cons_zero, List.set_cons_succ, i64_w, i32_w]
                  rfl
                refine pure_ (i := 25) (N := some 2) (v := ?_) (a' := ?_) #[true, true, true, true, true, true, true, true, true, true, true, true, true, true, true, true, true, true, true, true, true, true, true, true, true, true] rfl rfl (any_of HT_.out (by kernel_rfl)) (fun _ _ _ h => h) (Or.inl ⟨by rfl, ?_⟩) ?_ ?_
                rotate_left
                · intro w'
                  go_simp
                  with_reducible rfl
                rotate_left
                · simp only [Act.put, List.setIfInBounds_toArray, List.set_cons_zero, List.set_cons_succ, i64_w, i32_w]
                  rfl
                refine done_ (done_of HT_.out (by kernel_rfl)) ?_
                try go_wp2
                go_ret
                exact ⟨by first | rfl | (simp [errW_none, errW_some] <;> rfl) | (simp [*, errW_none, errW_some] <;> rfl), by repeat (first | (with_reducible first | exact HB.out | apply below_alloc | apply pw_below_drewN | apply below_drew1 | refine below_set ?_ GE196.out) | exact HB.out)⟩
              · rw [if_neg c12] at H
                exact absurd H (by simp)
            · rw [if_neg c11] at H
              exact absurd H (by simp)
          · rw [if_neg c9] at H
            exact absurd H (by simp)
        · rw [if_neg c8] at H
          exact absurd H (by simp)
      · rw [if_neg c6] at H
        exact absurd H (by simp)
    · rw [if_neg c5] at H
      exact absurd H (by simp)
  · rw [if_neg c3] at H
    exact absurd H (by simp)
end Go.Proofs.YtekifiblehmafaaDoor.Y
end
section
set_option linter.unusedVariables false
set_option linter.unusedSimpArgs false
namespace Go.Proofs.YtekifiblehmafaaDoor.Y
open Go.RowKit Go.Shelf Go.Proofs.YtekifiblehmafaaDoor.X Go.Proofs.YtekifiblehmafaaDoorW.PrintWords
theorem num_ev (x : Int) : Ev (fun k => colophonref15_num.f k x) (num x) := by
  refine Ev.congr (fun k => ?_) (Ev.bind (f := fun _ r => some r.1) (ref_text_is x) (Ev.now _))
  rfl
theorem num_size (x : Int) : (num x).size ≤ 40 := by have := num_len x; rwa [data_length] at this
theorem ref_num (x : Int) (w : World) : Calls Tryd.prog 34 #[.int .i64 x] w fun e w' => e = .returned (.string (num x)) ∧ Below w.heap.size w w' := by
  obtain ⟨k, h⟩ := (num_ev x).rounds
  exact colophonref15_num.calls k x _ w h
def decW (u : Int) : ByteArray := ⟨(Lib.itoa u).toArray⟩
theorem ref_dec (u : Int) (h0 : 0 ≤ u) (h1 : u ≤ 99) (w : World) : Calls Tryd.prog 33 #[.int .i64 u] w fun e w' => e = .returned (.string (decW u)) ∧ Below w.heap.size w w' := by
  obtain ⟨n, rfl⟩ : ∃ n : Nat, u = (n : Int) := ⟨u.toNat, by omega⟩
  obtain ⟨k, h⟩ := (decimal_is n (by omega)).rounds
  rw [show decW (n : Int) = bs (asU (natDigits n)) from by rw [decW, Lib.itoa_nonneg, decDigits_asU]; rfl]
  exact colophonref02_Decimal.calls k (n : Int) _ w h
def boxW (x0 y0 x1 y1 : Int) : ByteArray := ((((((num x0 ++ (⟨#[32]⟩ : ByteArray)) ++ num y0) ++ (⟨#[32]⟩ : ByteArray)) ++ num (wrap64 (x1 - x0))) ++ (⟨#[32]⟩ : ByteArray)) ++ num (wrap64 (y1 - y0))) ++ (⟨#[32, 114, 101, 10]⟩ : ByteArray)
theorem box_ev (x0 y0 x1 y1 : Int) : Ev (fun k => colophonref15_box.f k x0 y0 x1 y1) (boxW x0 y0 x1 y1) := by
  have h0 := num_size x0
  have h1 := num_size y0
  have h2 := num_size (wrap64 (x1 - x0))
  have h3 := num_size (wrap64 (y1 - y0))
  have s1 : (⟨#[32]⟩ : ByteArray).size = 1 := rfl
  have s4 : (⟨#[32, 114, 101, 10]⟩ : ByteArray).size = 4 := rfl
  have c1 : (num x0).size + 1 ≤ 9223372036854775807 := by omega
  have c2 : (num x0 ++ (⟨#[32]⟩ : ByteArray)).size + (num y0).size ≤ 9223372036854775807 := by simp only [ByteArray.size_append]; omega
  have c3 : (num x0 ++ (⟨#[32]⟩ : ByteArray) ++ num y0).size + 1 ≤ 9223372036854775807 := by simp only [ByteArray.size_append]; omega
  have c4 : (num x0 ++ (⟨#[32]⟩ : ByteArray) ++ num y0 ++ (⟨#[32]⟩ : ByteArray)).size + (num (wrap64 (x1 - x0))).size ≤ 9223372036854775807 := by simp only [ByteArray.size_append]; omega
  have c5 : (num x0 ++ (⟨#[32]⟩ : ByteArray) ++ num y0 ++ (⟨#[32]⟩ : ByteArray) ++ num (wrap64 (x1 - x0))).size + 1 ≤ 9223372036854775807 := by simp only [ByteArray.size_append]; omega
  have c6 : (num x0 ++ (⟨#[32]⟩ : ByteArray) ++ num y0 ++ (⟨#[32]⟩ : ByteArray) ++ num (wrap64 (x1 - x0)) ++ (⟨#[32]⟩ : ByteArray)).size + (num (wrap64 (y1 - y0))).size ≤ 9223372036854775807 := by simp only [ByteArray.size_append]; omega
  have c7 : (num x0 ++ (⟨#[32]⟩ : ByteArray) ++ num y0 ++ (⟨#[32]⟩ : ByteArray) ++ num (wrap64 (x1 - x0)) ++ (⟨#[32]⟩ : ByteArray) ++ num (wrap64 (y1 - y0))).size + 4 ≤ 9223372036854775807 := by simp only [ByteArray.size_append]; omega
  unfold colophonref15_box.f
  refine Ev.bind (num_ev x0) ?_
  simp only [if_pos c1]
  refine Ev.bind (num_ev y0) ?_
  simp only [if_pos c2, if_pos c3]
  refine Ev.bind (num_ev (wrap64 (x1 - x0))) ?_
  simp only [if_pos c4, if_pos c5]
  refine Ev.bind (num_ev (wrap64 (y1 - y0))) ?_
  simp only [if_pos c6, if_pos c7]
  exact Ev.now _
theorem ref_box (x0 y0 x1 y1 : Int) (w : World) : Calls Tryd.prog 37 #[.agg #[.int .i64 x0, .int .i64 y0, .int .i64 x1, .int .i64 y1]] w fun e w' => e = .returned (.string (boxW x0 y0 x1 y1)) ∧ Below w.heap.size w w' := by
  obtain ⟨k, h⟩ := (box_ev x0 y0 x1 y1).rounds
  exact colophonref15_box.calls k x0 y0 x1 y1 _ w h
theorem lower_bt (d : Nat) (h : d < 16) : bt (⟨#[48, 49, 50, 51, 52, 53, 54, 55, 56, 57, 97, 98, 99, 100, 101, 102]⟩ : ByteArray) (d : Int) = ((hexB d).toNat : Int) := by
  obtain ⟨c, e1, e2⟩ := lowerHex_at d h
  rw [← e2, ← e1]
  exact (bt_at _ _ (by rw [Int.toNat_natCast]; exact h)).symm
theorem two_bt (a b : Int) (ha : 0 ≤ a ∧ a < 256) (hb : 0 ≤ b ∧ b < 256) : bt (strOfNums [a, b]) 0 = a ∧ bt (strOfNums [a, b]) 1 = b := by
  constructor
  · rw [bt, dif_pos (show (0 : Int).toNat < (strOfNums [a, b]).size from by rw [strOfNums_size]; simp)]
    show (((UInt8.ofNat a.toNat).toNat : Nat) : Int) = a
    rw [UInt8.toNat_ofNat']; omega
  · rw [bt, dif_pos (show (1 : Int).toNat < (strOfNums [a, b]).size from by rw [strOfNums_size]; simp)]
    show (((UInt8.ofNat b.toNat).toNat : Nat) : Int) = b
    rw [UInt8.toNat_ofNat']; omega
theorem hex_step (k : Nat) (s : ByteArray) (x : List Int) (i v : Int) (hi : 0 ≤ i) (hs : i < (s.size : Int)) (hv : bt s i = v) (h0 : 0 ≤ v) (h1 : v < 256) (hx : x.length ≤ 1000) (hn : wrap64 (i + 1) = i + 1) :
    colophonref14_Hex.l0 (k + 1) s x i = colophonref14_Hex.l0 k s (x ++ [((hexB (v / 16).toNat).toNat : Int), ((hexB (v % 16).toNat).toNat : Int)]) (i + 1) := by
  have e1 : Int.tdiv v 16 % 256 = (((v / 16).toNat : Nat) : Int) := by rw [Int.tdiv_eq_ediv_of_nonneg h0]; omega
  have e2 : Int.tmod v 16 = (((v % 16).toNat : Nat) : Int) := by rw [Int.tmod_eq_emod_of_nonneg h0]; omega
  rw [colophonref14_Hex.l0, if_pos hs, if_pos hi, hv, e1, e2, if_pos (by omega), if_pos (by omega), if_pos (by omega), if_pos (by omega), lower_bt _ (by omega), lower_bt _ (by omega), Option.bind_some, if_pos (by simp; omega), hn]
theorem hex_ev (g : Int) (h0 : 0 ≤ g) (h1 : g ≤ 65535) : Ev (fun k => colophonref14_Hex.f k (strOfNums [(g / 256) % 256, g % 256])) ⟨(hex4 g).toArray⟩ := by
  obtain ⟨b0, b1⟩ := two_bt ((g / 256) % 256) (g % 256) (by omega) (by omega)
  refine Ev.step (f := fun k => colophonref14_Hex.l0 k (strOfNums [(g / 256) % 256, g % 256]) ([] ++ [((hexB ((g / 256) % 256 / 16).toNat).toNat : Int), ((hexB ((g / 256) % 256 % 16).toNat).toNat : Int)]) (0 + 1)) (fun k => hex_step k _ [] 0 _ (by omega) (by rw [strOfNums_size]; simp) b0 (by omega) (by omega) (by simp) (by unfold wrap64; omega)) ?_
  refine Ev.step (f := fun k => colophonref14_Hex.l0 k (strOfNums [(g / 256) % 256, g % 256]) ([] ++ [((hexB ((g / 256) % 256 / 16).toNat).toNat : Int), ((hexB ((g / 256) % 256 % 16).toNat).toNat : Int)] ++ [((hexB (g % 256 / 16).toNat).toNat : Int), ((hexB (g % 256 % 16).toNat).toNat : Int)]) (0 + 1 + 1)) (fun k => hex_step k _ _ (0 + 1) _ (by omega) (by rw [strOfNums_size]; simp) b1 (by omega) (by omega) (by simp) (by unfold wrap64; omega)) ?_
  refine Ev.step (f := fun _ => some _) (fun k => ?_) (Ev.now _)
  rw [colophonref14_Hex.l0, if_neg (by rw [strOfNums_size]; simp)]
  congr 1
  unfold strOfNums hex4
  rw [show ((g / 256) % 256 / 16).toNat = ((g / 4096) % 16).toNat from by omega, show ((g / 256) % 256 % 16).toNat = ((g / 256) % 16).toNat from by omega, show (g % 256 / 16).toNat = ((g / 16) % 16).toNat from by omega, show (g % 256 % 16).toNat = (g % 16).toNat from by omega]
  simp
theorem ref_hex (g : Int) (h0 : 0 ≤ g) (h1 : g ≤ 65535) (w : World) : Calls Tryd.prog 35 #[.string (strOfNums [(g / 256) % 256, g % 256])] w fun e w' => e = .returned (.string ⟨(hex4 g).toArray⟩) ∧ Below w.heap.size w w' := by
  obtain ⟨k, h⟩ := (hex_ev g h0 h1).rounds
  exact colophonref14_Hex.calls k _ _ w h
theorem ref_two (g : Int) (w : World) : Calls Tryd.prog 36 #[.int .i64 g] w fun e w' => e = .returned (.string (strOfNums [(g / 256) % 256, g % 256])) ∧ Below w.heap.size w w' :=
  colophonref08_Two.calls g _ w rfl
end Go.Proofs.YtekifiblehmafaaDoor.Y
end
