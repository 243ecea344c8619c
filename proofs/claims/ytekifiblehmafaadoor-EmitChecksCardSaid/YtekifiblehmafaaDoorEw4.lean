/- Part 4 of a proof: what it needs of the program's functions as plain Lean functions, with the proof that the machine's calls come to them, and of plain laws; put together out of smaller texts. No conditions besides those that each statement names. -/
import Derived.Test.YtekifiblehmafaaDoorEw2
import Derived.Test.YtekifiblehmafaaDoorEw3
section
set_option linter.unusedVariables false
set_option linter.unusedSimpArgs false
namespace Go.Proofs.YtekifiblehmafaaDoor.X
open Go.RowKit Go.Shelf Go.Proofs.YtekifiblehmafaaDoorW.PrintWords
def fontWord (ft : Int) : ByteArray := ⟨#[47, 70]⟩ ++ ⟨(Lib.itoa ft).toArray⟩
def textLines (ft sz px py : Int) (gl : List Int) : List UInt8 :=
  line [⟨#[66, 84]⟩] ++ line [fontWord ft, num sz, ⟨#[84, 102]⟩] ++ line [⟨#[49, 32, 48, 32, 48, 32, 49]⟩, num px, num py, ⟨#[84, 109]⟩] ++ line [⟨(60 :: (gl.map hex4).flatten ++ [62]).toArray⟩, ⟨#[84, 106]⟩] ++ line [⟨#[69, 84]⟩]
theorem hex4_len (g : Int) : (hex4 g).length = 4 := rfl
theorem flat_len : ∀ l : List Int, ((l.map hex4).flatten).length = 4 * l.length
  | [] => rfl
  | g :: l => by rw [List.map_cons, List.flatten_cons, List.length_append, hex4_len, flat_len l, List.length_cons]; omega
theorem add_block (ad : Addr) (n : Nat) : (ad.add n).block = ad.block := by unfold Addr.add; split <;> rfl
theorem font_len (ft : Int) (h0 : 0 ≤ ft) (h1 : ft ≤ 99) : (Lib.itoa ft).length ≤ 2 := by
  obtain ⟨u, rfl⟩ : ∃ u : Nat, ft = (u : Int) := ⟨ft.toNat, by omega⟩
  rw [Lib.itoa_nonneg, decDigits_asU, asU_length]
  exact natDigits_length 1 u (by omega)
theorem wrapped (gs : ByteArray) (l : List UInt8) (h : gs = ⟨l.toArray⟩) : (⟨#[60]⟩ : ByteArray) ++ gs ++ ⟨#[62]⟩ = ⟨(60 :: l ++ [62]).toArray⟩ := by
  rw [h]
  exact (by rw [show (⟨#[60]⟩ : ByteArray) = bs [60] from rfl, show (⟨l.toArray⟩ : ByteArray) = bs l from rfl, show (⟨#[62]⟩ : ByteArray) = bs [62] from rfl, bs_append, bs_append]; rfl)
set_option maxHeartbeats 4000000 in
set_option maxRecDepth 100000 in
theorem emit_text (B b gc : Nat) (ad : Addr) (T : List UInt8) (kd ft sz px py x0 y0 x1 y1 : Int) (gl : List Int) (w : World) (h : WR B b T w) (hBw : B ≤ w.heap.size) (hG : GB B w)
    (hf : 0 ≤ ft ∧ ft ≤ 99) (hg : ∀ g ∈ gl, 0 ≤ g ∧ g ≤ 65535) (hgb : ad.block < B) (hcs : ∀ i (hi : i < gl.length), w.cell? (ad.add i) = some (.int .i64 gl[i])) (hn : gl.length ≤ 100000) :
    Calls Tryd.prog 56 #[.pointer (some ⟨b, 0, none⟩), .agg #[.int .i64 kd, .int .i64 ft, .int .i64 sz, .int .i64 px, .int .i64 py, .slice (some ad) gl.length gc, .int .i64 x0, .int .i64 y0, .int .i64 x1, .int .i64 y1]] w fun e w' => e = .returned (.tuple #[]) ∧ Wk w B b (T ++ textLines ft sz px py gl) w' := by
  have HLT := Aside0.mk h.lt
  have HI := Aside0.mk (Wk.start hG h hBw)
  have HF := Aside0.mk hf
  have HGl := Aside0.mk hg
  have HGB := Aside0.mk hgb
  have HCS := Aside0.mk hcs
  have HN := Aside0.mk hn
  clear hG h hBw hf hg hgb hcs hn
  go_enter Tryd.func56, Tryd.ntmps56
  have HI := Aside0.mk (HI.out.alloc (.cells #[.int .i64 kd, .int .i64 ft, .int .i64 sz, .int .i64 px, .int .i64 py, .slice (some ad) gl.length gc, .int .i64 x0, .int .i64 y0, .int .i64 x1, .int .i64 y1] 50 (0, 0)))
  go_wp2_with (first
    | (go_at_call 80; refine (line_lit [⟨#[66, 84]⟩] #[.string ⟨#[66, 84]⟩] HI.out rfl (n := 1) rfl (by simp) (by simp) (by decide)).mono ?_; rintro e w2 ⟨rfl, hI2, hO2⟩; have HI := Aside0.mk hI2; have HP := Aside0.mk (kept_block hO2 (blk_new w _) (by have := HLT.out; omega) (by intro c fz; simp)); clear hI2 hO2))
  obtain ⟨fs, hfs⟩ : ∃ fs : ByteArray, fs = ⟨(Lib.itoa ft).toArray⟩ := ⟨_, rfl⟩
  have HIT : Aside0 (strconv_Itoa.f ft = some fs) := ⟨by have := HF.out; rw [strconv_Itoa.f, if_pos (by omega), hfs]⟩
  have HFW : Aside0 ((⟨#[47, 70]⟩ : ByteArray) ++ fs = fontWord ft) := ⟨by rw [hfs]; rfl⟩
  have HFS : Aside0 (fs.size ≤ 40) := ⟨by
    have := HF.out
    rw [hfs]
    have := font_len ft this.1 this.2
    show (Lib.itoa ft).toArray.size ≤ 40
    rw [List.size_toArray]; omega⟩
  clear hfs
  have hsz : (9223372036854775807 < 2 + fs.size) = False := eq_false (by have := HFS.out; omega)
  have HNE : Aside0 (w.heap.size ≠ b) := ⟨by have := HLT.out; omega⟩
  have HL2 : Aside0 ((line [⟨#[49, 32, 48, 32, 48, 32, 49]⟩, num px, num py, ⟨#[84, 109]⟩]).length ≤ 1048576) := ⟨by
    refine Nat.le_trans (line_len 64 _ ?_) (by simp)
    intro x hx
    simp only [List.mem_cons, List.not_mem_nil, or_false] at hx
    rcases hx with rfl | rfl | rfl | rfl
    · decide
    · have := num_len px; omega
    · have := num_len py; omega
    · decide⟩
  have HL3 : ∀ gs : ByteArray, gs.size ≤ 400000 → (line [⟨#[60]⟩ ++ gs ++ ⟨#[62]⟩, ⟨#[84, 106]⟩]).length ≤ 1048576 := by
    intro gs hgs
    refine Nat.le_trans (line_len 400002 _ ?_) (by simp)
    intro x hx
    simp only [List.mem_cons, List.not_mem_nil, or_false] at hx
    rcases hx with rfl | rfl
    · rw [data_length, ByteArray.size_append, ByteArray.size_append]; show 1 + gs.size + 1 ≤ _; omega
    · decide
  have HL3 := Aside0.mk HL3
  have HL1 : Aside0 ((line [⟨#[47, 70]⟩ ++ fs, num sz, ⟨#[84, 102]⟩]).length ≤ 1048576) := ⟨by
    refine Nat.le_trans (line_len 64 _ ?_) (by simp)
    intro x hx
    simp only [List.mem_cons, List.not_mem_nil, or_false] at hx
    rcases hx with rfl | rfl | rfl
    · rw [data_length, ByteArray.size_append]; have := HFS.out; show 2 + fs.size ≤ _; omega
    · have := num_len sz; omega
    · decide⟩
  generalize w.heap.size = p at HP HNE ⊢
  go_region_held3 (fun w' => w'.cell? ⟨p, 1, none⟩ = some (.int .i64 ft) ∧ w'.cell? ⟨p, 2, none⟩ = some (.int .i64 sz))
    (first
      | exact ⟨blk_cell HP.out 1, blk_cell HP.out 2⟩
      | exact ⟨blk_cell (blk_drew HP.out) 1, blk_cell (blk_drew HP.out) 2⟩
      | exact ⟨blk_cell (blk_alloc HP.out _) 1, blk_cell (blk_alloc HP.out _) 2⟩)
    (first
      | (go_at_call 44; refine (strconv_Itoa.calls ft fs _ ⟨HI.out.drew.gw⟩ HIT.out).mono ?_; rintro e w2 ⟨rfl, hb2⟩; have HI := Aside0.mk (HI.out.drew.step hb2); have HP := Aside0.mk (blk_below (blk_drew HP.out) hb2); clear hb2)
      | (go_at_call 81; refine (emit_n _ _ HI.out.gw).mono ?_; rintro e w2 ⟨rfl, hb2⟩; have HI := Aside0.mk (HI.out.step hb2); have HP := Aside0.mk (blk_below HP.out hb2); clear hb2)
      | (go_at_call 80; refine (line_lit [⟨#[47, 70]⟩ ++ fs, num sz, ⟨#[84, 102]⟩] #[.string (⟨#[47, 70]⟩ ++ fs), .string (num sz), .string ⟨#[84, 102]⟩] HI.out rfl (n := 3) rfl rfl (by simp) HL1.out).mono ?_; rintro e w2 ⟨rfl, hI2, hO2⟩; have HI := Aside0.mk hI2; have HP := Aside0.mk (kept_block hO2 HP.out HNE.out (by intro c fz; simp)); clear hI2 hO2))
  go_wp2
  go_region_held3 (fun w' => w'.cell? ⟨p, 3, none⟩ = some (.int .i64 px) ∧ w'.cell? ⟨p, 4, none⟩ = some (.int .i64 py))
    (first
      | exact ⟨blk_cell HP.out 3, blk_cell HP.out 4⟩
      | exact ⟨blk_cell (blk_drew HP.out) 3, blk_cell (blk_drew HP.out) 4⟩
      | exact ⟨blk_cell (blk_alloc HP.out _) 3, blk_cell (blk_alloc HP.out _) 4⟩)
    (first
      | (go_at_call_of 81 (Value.int IntKind.i64 px); refine (emit_n _ _ HI.out.drew.gw).mono ?_; rintro e w2 ⟨rfl, hb2⟩; have HI := Aside0.mk (HI.out.drew.step hb2); have HP := Aside0.mk (blk_below (blk_drew HP.out) hb2); clear hb2)
      | (go_at_call 81; refine (emit_n _ _ HI.out.gw).mono ?_; rintro e w2 ⟨rfl, hb2⟩; have HI := Aside0.mk (HI.out.step hb2); have HP := Aside0.mk (blk_below HP.out hb2); clear hb2)
      | (go_at_call 80; refine (line_lit [⟨#[49, 32, 48, 32, 48, 32, 49]⟩, num px, num py, ⟨#[84, 109]⟩] #[.string ⟨#[49, 32, 48, 32, 48, 32, 49]⟩, .string (num px), .string (num py), .string ⟨#[84, 109]⟩] HI.out rfl (n := 4) rfl rfl (by simp) HL2.out).mono ?_; rintro e w2 ⟨rfl, hI2, hO2⟩; have HI := Aside0.mk hI2; have HP := Aside0.mk (kept_block hO2 HP.out HNE.out (by intro c fz; simp)); clear hI2 hO2))
  have hP5 : (w2.alloc (.cells #[.pointer none, .slice none 0 0] 56)).cell? ⟨p, 5, none⟩ = some (.slice (some ad) gl.length gc) := blk_cell (blk_alloc HP.out _) 5
  go_wp2
  have HW : Aside0 (∀ i (hi : i < gl.length), w2.cell? (ad.add i) = some (.int .i64 gl[i])) := ⟨fun i hi => (HI.out.bel.cell (p := ad.add i) (by rw [add_block]; exact HGB.out)).trans (HCS.out i hi)⟩
  have HGS : Aside0 (ad.block < w2.heap.size) := ⟨Nat.lt_of_lt_of_le HGB.out HI.out.size⟩
  have HB0 : Aside0 (Lib.IsBuilderF 56 5 w2.heap.size w2.heap.size (Lib.byteCells ((gl.take 0).map hex4).flatten) (w2.alloc (.cells #[.pointer none, .slice none 0 0] 56))) := ⟨.inl ⟨Nat.le_refl _, .slice none 0 0, blk_new _ _, ⟨by simp [Lib.byteCells], .inl ⟨rfl, by simp [Lib.byteCells]⟩⟩, by simp [Value.ownBlock]⟩⟩
  have HB1 : Aside0 (Below w2.heap.size w2 (w2.alloc (.cells #[.pointer none, .slice none 0 0] 56))) := ⟨Below.alloc (Below.refl _ _) (Nat.le_refl _) _⟩
  clear hP5
  generalize w2.alloc (.cells #[.pointer none, .slice none 0 0] 56) = w3 at HB0 HB1 ⊢
  go_loopw [6, 32] (fun xv iv wr => ∃ j : Nat, j ≤ gl.length ∧ iv = .int .i64 j ∧ Hid (Lib.IsBuilderF 56 5 w2.heap.size w2.heap.size (Lib.byteCells ((gl.take j).map hex4).flatten) wr) ∧ Hid (Below w2.heap.size w2 wr)) (fun _ iv _ => gl.length - (intOf iv).toNat)
  case atStart => exact ⟨0, by omega, rfl, Lib.hid HB0.out, Lib.hid HB1.out⟩
  case round =>
    obtain ⟨j, hj, rfl, HBr, HBl⟩ := hrel
    by_cases hlt : j < gl.length
    · have hx : wr.cell? (ad.add j) = some (.int .i64 gl[j]) := (HBl.out.cell (p := ad.add j) (by rw [add_block]; exact HGS.out)).trans (HW.out j hlt)
      have HW1 : Aside0 (wrap64 ((j : Int) + 1) = ((j + 1 : Nat) : Int)) := ⟨by have := HN.out; unfold wrap64; omega⟩
      have hgj := HGl.out gl[j] (List.getElem_mem hlt)
      have HG0 := Aside0.mk hgj.1
      have HG1 := Aside0.mk hgj.2
      clear hgj
      obtain ⟨bv, hbv⟩ : ∃ v : List Value, v = Lib.byteCells ((gl.take j).map hex4).flatten := ⟨_, rfl⟩
      have HBV := Aside0.mk hbv
      have hbl : bv.length ≤ 400000 := by
        have := HN.out
        rw [hbv, Lib.byteCells_length, flat_len]
        simp; omega
      have HBL := Aside0.mk hbl
      rw [← hbv] at HBr
      clear hbv
      have hnb : (1048576 < (bv.length : Int)) = False := eq_false (by omega)
      have HS4 : Aside0 (bv.length + (⟨(hex4 gl[j]).toArray⟩ : ByteArray).size ≤ 140737488355328) := ⟨by show _ + 4 ≤ _; omega⟩
      clear hbl
      go_wp2_with (first
        | (go_at_call 31; refine (Tryd.Builder_Len_f w2.heap.size w2.heap.size _ _ HBr.out).mono ?_; rintro e w' ⟨rfl, hw⟩; rw [hw]; clear hw w')
        | (go_at_call 82; refine (emit_four gl[j] HG0.out HG1.out _).mono ?_; rintro e w4 ⟨rfl, hb4⟩)
        | (go_at_call 72; refine (Tryd.Builder_WriteString_k w2.heap.size w2.heap.size _ ⟨(hex4 gl[j]).toArray⟩ _ (Lib.IsBuilderF.below HBr.out hb4) HS4.out (Nat.le_trans HBl.out.size hb4.size)).mono ?_; rintro e w5 ⟨rfl, hb5, hB5, hO5⟩))
      go_roundw
      case rel =>
        refine ⟨j + 1, by omega, by rw [HW1.out], Lib.hid ?_, Lib.hid ?_⟩
        · rw [List.take_succ_eq_append_getElem hlt, List.map_append, List.flatten_append, Lib.byteCells_append, ← HBV.out]
          simp only [List.map_cons, List.map_nil, List.flatten_cons, List.flatten_nil, List.append_nil]
          exact .inr hb5
        · exact (HBl.out.trans (hb4.mono HBl.out.size)).trans hB5
      case measure => rw [HW1.out]; simp only [intOf]; omega
    · have hje : j = gl.length := by omega
      subst hje
      rw [List.take_length] at HBr
      have HS2 := Aside0.mk HBl.out.size
      obtain ⟨gs, hgs⟩ : ∃ s : ByteArray, s = ⟨((gl.map hex4).flatten).toArray⟩ := ⟨_, rfl⟩
      have HGs := Aside0.mk hgs
      have hgl : gs.size ≤ 400000 := by
        have := HN.out
        rw [hgs]
        show ((gl.map hex4).flatten).toArray.size ≤ _
        rw [List.size_toArray, flat_len]; omega
      clear hgs
      have HGL := Aside0.mk hgl
      have hz1 : (9223372036854775807 < 1 + gs.size) = False := eq_false (by omega)
      have hz2 : (9223372036854775807 < 1 + gs.size + 1) = False := eq_false (by omega)
      clear hgl
      go_wp2_with (first
        | (go_at_call 32; refine ((Tryd.Builder_String_any_k w2.heap.size w2.heap.size ((gl.map hex4).flatten) _ HBr.out HS2.out).mono (fun e w' h => (⟨by rw [HGs.out]; exact h.1, h.2.2.1⟩ : e = .returned (.string gs) ∧ Below w2.heap.size _ w'))).mono ?_; rintro e w6 ⟨rfl, hB6⟩; have HX := Aside0.mk (HI.out.step (HBl.out.trans hB6)); clear hB6)
        | (go_at_call_of 80 (Value.slice (some ⟨w6.heap.size, 0, none⟩) 2 2); refine (line_lit [⟨#[60]⟩ ++ gs ++ ⟨#[62]⟩, ⟨#[84, 106]⟩] #[.string (⟨#[60]⟩ ++ gs ++ ⟨#[62]⟩), .string ⟨#[84, 106]⟩] HX.out rfl (n := 2) rfl rfl (by simp) (HL3.out gs HGL.out)).mono ?_; rintro e w7 ⟨rfl, hI7, hO7⟩; have HY := Aside0.mk hI7; clear hI7 hO7)
        | (go_at_call_of 80 (Value.slice (some ⟨w7.heap.size, 0, none⟩) 1 1); refine (line_lit [⟨#[69, 84]⟩] #[.string ⟨#[69, 84]⟩] HY.out rfl (n := 1) rfl rfl (by simp) (by decide)).mono ?_; rintro e w8 ⟨rfl, hI8, hO8⟩; have HZ := Aside0.mk hI8; clear hI8 hO8))
      go_end0
      refine ⟨rfl, ?_⟩
      have h9 := HZ.out
      rw [HFW.out, wrapped gs _ HGs.out] at h9
      simpa [textLines, List.append_assoc] using h9
end Go.Proofs.YtekifiblehmafaaDoor.X
end
section
namespace Go.Proofs.YtekifiblehmafaaDoor.X
end Go.Proofs.YtekifiblehmafaaDoor.X
namespace Go.Proofs.YtekifiblehmafaaDoor.Y
open Go.RowKit Go.Proofs.YtekifiblehmafaaDoor.X Go.Proofs.YtekifiblehmafaaDoorW.PrintWords Go.Proofs.YtekifiblehmafaaDoorW.PrintLast Go.Proofs.YtekifiblehmafaaDoorW.PrintMore
attribute [local go_sem] max2_int min2_int max_two min_two max_three min_three max_four min_four   -- for this text's walks alone
set_option linter.unusedVariables false
set_option linter.unusedSimpArgs false
theorem eqA48 (d : Nat) (w : World) (x0 y0 : Int) (x1 y1 : Int) (x2 y2 : Int) (x3 y3 : Int) :
    (Op.equalIn (d + 2) 48 (.agg #[.int .i64 x0, .int .i64 x1, .int .i64 x2, .int .i64 x3]) (.agg #[.int .i64 y0, .int .i64 y1, .int .i64 y2, .int .i64 y3])).run Tryd.prog w = .ok (x0 == y0 && (x1 == y1 && (x2 == y2 && (x3 == y3)))) w := by
  refine eqA_of Tryd.underlying48 (by kernel_rfl) ?_
  refine eqf_cons (by rfl) (by go_simp; rfl) (by go_simp; rfl) (by go_simp) ?_
  refine eqf_cons (by rfl) (by go_simp; rfl) (by go_simp; rfl) (by go_simp) ?_
  refine eqf_cons (by rfl) (by go_simp; rfl) (by go_simp; rfl) (by go_simp) ?_
  exact eqf_last (by rfl) (by go_simp; rfl) (by go_simp; rfl) (by go_simp)
end Go.Proofs.YtekifiblehmafaaDoor.Y
end
