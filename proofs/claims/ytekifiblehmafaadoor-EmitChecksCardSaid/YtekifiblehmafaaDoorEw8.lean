/- Part 8 of a proof: what it needs of the program's functions as plain Lean functions, with the proof that the machine's calls come to them, and of plain laws; put together out of smaller texts. No conditions besides those that each statement names. -/
import Derived.Laws.EntriesVeiled
import Derived.Test.YtekifiblehmafaaDoorEw4
import Derived.Test.YtekifiblehmafaaDoorEw7
section
set_option linter.unusedVariables false
set_option linter.unusedSimpArgs false
namespace Go.Proofs.YtekifiblehmafaaDoor.Y
open Go.RowKit Go.Shelf Go.Proofs.YtekifiblehmafaaDoor.X Go.Proofs.YtekifiblehmafaaDoorW.PrintWords
def kindCells (b : Nat) : Array Value :=
  #[.int .i64 1, .func (.func 56) #[.pointer (some ⟨b, 0, none⟩)] #[], .int .i64 2, .func (.func 57) #[.pointer (some ⟨b, 0, none⟩)] #[],
    .int .i64 3, .func (.func 58) #[.pointer (some ⟨b, 0, none⟩)] #[], .int .i64 4, .func (.func 59) #[.pointer (some ⟨b, 0, none⟩)] #[]]
set_option maxHeartbeats 4000000 in
set_option maxRecDepth 100000 in
theorem emit_kinds (b : Nat) (w : World) :
    Calls Tryd.prog 30 #[.pointer (some ⟨b, 0, none⟩)] w fun e w' => e = .returned (.slice (some ⟨w.heap.size, 0, none⟩) 4 4) ∧ w' = w.alloc (.cells (kindCells b) 63) := by
  go_enter Tryd.func30, Tryd.ntmps30
  go_wp2
  go_ret
  exact ⟨rfl, rfl⟩
def markLines (m : S50) : List UInt8 :=
  if m.f0 = 1 then textLines m.f1 m.f2 m.f3 m.f4 m.f5
  else if m.f0 = 2 then boxLine m.f6.f0 m.f6.f1 m.f6.f2 m.f6.f3 ++ line [⟨#[102]⟩]
  else if m.f0 = 3 then line [⟨#[113]⟩] ++ boxLine m.f6.f0 m.f6.f1 m.f6.f2 m.f6.f3 ++ line [⟨#[87, 32, 110]⟩]
  else line [⟨#[81]⟩]
def Good (m : S50) : Prop := 1 ≤ m.f0 ∧ m.f0 ≤ 4 ∧ (m.f0 = 1 → (0 ≤ m.f1 ∧ m.f1 ≤ 99) ∧ (∀ g ∈ m.f5, 0 ≤ g ∧ g ≤ 65535) ∧ m.f5 ≠ [] ∧ m.f5.length ≤ 100000)
def allLines (l : List S50) : List UInt8 := (l.map markLines).flatten
def emitRes (l : List S50) : Value := if (allLines l).length ≤ 1048576 then .tuple #[.string ⟨(allLines l).toArray⟩, .int .i64 0] else .tuple #[.string ⟨#[]⟩, .int .i64 2]
theorem line_ne (xs : List ByteArray) : line xs ≠ [] := by simp [line]
theorem markLines_ne (m : S50) : markLines m ≠ [] := by
  unfold markLines textLines
  repeat' split
  all_goals simp [line_ne]
theorem allLines_ne {l : List S50} (h : l ≠ []) : allLines l ≠ [] := by
  cases l with
  | nil => exact absurd rfl h
  | cons m l => simp [allLines, markLines_ne]
theorem glyph_cells {w : World} {A : Option Addr} {n : Nat} {xs : List Int} (h : Kd.C (Kd.int .i64) w A n xs) (hx : xs ≠ []) (hn : n = xs.length) : ∃ ad, Aside0 (A = some ad ∧ ad.block < w.heap.size) ∧ Aside0 (∀ i (hi : i < xs.length), w.cell? (ad.add i) = some (.int .i64 xs[i])) := by
  have hp : 0 < xs.length := List.length_pos_iff.2 hx
  obtain ⟨ad, e, h0⟩ := Kd.at_int h 0 (by omega) (by omega)
  refine ⟨ad, ⟨e, ?_⟩, ⟨fun i hi => ?_⟩⟩
  · have := World.block_lt_of_cell? w _ h0
    rwa [X.add_block] at this
  · obtain ⟨ad2, e2, h1⟩ := Kd.at_int h (i : Int) (by omega) (by omega)
    obtain rfl : ad = ad2 := Option.some.inj (e.symm.trans e2)
    rw [show rd xs (i : Int) = xs[i] from by simp [rd, hi]] at h1
    simpa using h1
set_option maxHeartbeats 8000000 in
set_option maxRecDepth 100000 in
theorem emit_walk (k c : Nat) (A : Option Addr) (l : List S50) (w : World) (hG : GW w) (hr : Kd.C k50 w A l.length l) (hc : l.length ≤ c) (hck : emit_Check.f k l = some 0) (hl : l ≠ []) (hN : l.length ≤ 8192) (hg : ∀ m ∈ l, Good m) :
    Calls Tryd.prog 15 #[.slice A l.length c] w fun e w' => e = .returned (emitRes l) ∧ Below w.heap.size w w' := by
  have HG := Aside0.mk hG
  have HR := Aside0.mk hr
  have HC := Aside0.mk hc
  have HK := Aside0.mk hck
  have HL := Aside0.mk hl
  have HN := Aside0.mk hN
  have HGd := Aside0.mk hg
  clear hG hr hc hck hl hN hg
  go_enter Tryd.func15, Tryd.ntmps15
  go_wp2_with (first
    | (go_at_call 18; refine (emit_Check.calls k A c l 0 _ HR.out HC.out HK.out).mono ?_; rintro e w1 ⟨rfl, hb1⟩)
    | (go_at_call 30; refine (emit_kinds _ _).mono ?_; rintro e w2 ⟨rfl, rfl⟩))
  have H0 : Aside0 (Wk w w.heap.size w1.heap.size (allLines (l.take 0)) ((w1.alloc (.cells #[.pointer none, .slice none 0 0] 58)).alloc (.cells (kindCells w1.heap.size) 63))) := ⟨by
    have hq : Below w.heap.size w ((w1.alloc (.cells #[.pointer none, .slice none 0 0] 58)).alloc (.cells (kindCells w1.heap.size) 63)) :=
      (hb1.alloc hb1.size _).alloc (by have := hb1.size; simp; omega) _
    refine ⟨GB.of HG.out, ⟨[], .inl ?_, by simp [Fits, allLines]⟩, hq, others_below hq, hq.size⟩
    exact Lib.BuilderAtF.alloc (⟨hb1.size, .slice none 0 0, blk_new _ _, ⟨by simp [Lib.byteCells], .inl ⟨rfl, by simp [Lib.byteCells]⟩⟩, by simp [Value.ownBlock]⟩ : Lib.BuilderAtF 58 5 w.heap.size w1.heap.size (.pointer none) (Lib.byteCells []) (w1.alloc (.cells #[.pointer none, .slice none 0 0] 58))) _⟩
  have HKB : Aside0 (((w1.alloc (.cells #[.pointer none, .slice none 0 0] 58)).alloc (.cells (kindCells w1.heap.size) 63)).heap[w1.heap.size + 1]? = some (.cells (kindCells w1.heap.size) 63 (0, 0))) := ⟨by
    have := blk_new (w1.alloc (.cells #[.pointer none, .slice none 0 0] 58)) (.cells (kindCells w1.heap.size) 63)
    simpa using this⟩
  have HS1 := Aside0.mk hb1.size
  clear hb1
  generalize ((w1.alloc (.cells #[.pointer none, .slice none 0 0] 58)).alloc (.cells (kindCells w1.heap.size) 63)) = w2 at H0 HKB ⊢
  generalize w1.heap.size = b at H0 HKB HS1 ⊢
  have HNE : Aside0 (b + 1 ≠ b) := ⟨by omega⟩
  go_loopw [22] (fun iv wr => ∃ i : Nat, i ≤ l.length ∧ iv = .int .i64 i ∧ Aside0 (Wk w w.heap.size b (allLines (l.take i)) wr) ∧ Aside0 (wr.heap[b + 1]? = some (.cells (kindCells b) 63 (0, 0)))) (fun iv _ => l.length - (intOf iv).toNat)
  case atStart => exact ⟨0, by omega, rfl, H0, HKB⟩
  case round =>
    clear H0 HKB
    obtain ⟨i, hi, rfl, HI, HKB⟩ := hrel
    by_cases hlt : i < l.length
    · obtain ⟨ad, A5, c5, e5, hx0, hx1, hx2, hx3, hx4, hx5, hx6, hx7, hx8, hx9, hl5, hi5⟩ := at_T50 HR.out (i : Int) (by omega) (by omega)
      cases e5
      have hb := HI.out.bel
      replace hx0 := (hb.cell (World.block_lt_of_cell? w _ hx0)).trans hx0
      replace hx1 := (hb.cell (World.block_lt_of_cell? w _ hx1)).trans hx1
      replace hx2 := (hb.cell (World.block_lt_of_cell? w _ hx2)).trans hx2
      replace hx3 := (hb.cell (World.block_lt_of_cell? w _ hx3)).trans hx3
      replace hx4 := (hb.cell (World.block_lt_of_cell? w _ hx4)).trans hx4
      replace hx5 := (hb.cell (World.block_lt_of_cell? w _ hx5)).trans hx5
      replace hx6 := (hb.cell (World.block_lt_of_cell? w _ hx6)).trans hx6
      replace hx7 := (hb.cell (World.block_lt_of_cell? w _ hx7)).trans hx7
      replace hx8 := (hb.cell (World.block_lt_of_cell? w _ hx8)).trans hx8
      replace hx9 := (hb.cell (World.block_lt_of_cell? w _ hx9)).trans hx9
      have HL5 := Aside0.mk hl5
      have HI5 := Aside0.mk hi5
      have hm : rd_T50 l (i : Int) = l[i] := by
        show l.getD (i : Int).toNat z50 = _
        rw [Int.toNat_natCast]; simp [hlt]
      rw [hm] at hx0 hx1 hx2 hx3 hx4 hx5 hx6 hx7 hx8 hx9 HL5 HI5
      have HGm := Aside0.mk (HGd.out l[i] (List.getElem_mem hlt))
      have HT : Aside0 (allLines (l.take (i + 1)) = allLines (l.take i) ++ markLines l[i]) := ⟨by
        rw [List.take_succ_eq_append_getElem hlt]
        unfold allLines
        rw [List.map_append, List.flatten_append]
        simp only [List.map_cons, List.map_nil, List.flatten_cons, List.flatten_nil, List.append_nil]⟩
      clear hl5 hi5 hm hb
      generalize l[i] = m at hx0 hx1 hx2 hx3 hx4 hx5 hx6 hx7 hx8 hx9 HL5 HI5 HGm HT
      simp only [Int.toNat_natCast] at hx0 hx1 hx2 hx3 hx4 hx5 hx6 hx7 hx8 hx9
      --INNER
      go_wp2
      have HPB : Aside0 (wr.heap.size ≠ b) := ⟨by have := HI.out.wr.lt; omega⟩
      have HP : Aside0 ((wr.alloc (.cells #[.int .i64 m.f0, .int .i64 m.f1, .int .i64 m.f2, .int .i64 m.f3, .int .i64 m.f4, .slice A5 m.f5.length c5, .int .i64 m.f6.f0, .int .i64 m.f6.f1, .int .i64 m.f6.f2, .int .i64 m.f6.f3] 50)).heap[wr.heap.size]? = some (.cells #[.int .i64 m.f0, .int .i64 m.f1, .int .i64 m.f2, .int .i64 m.f3, .int .i64 m.f4, .slice A5 m.f5.length c5, .int .i64 m.f6.f0, .int .i64 m.f6.f1, .int .i64 m.f6.f2, .int .i64 m.f6.f3] 50 (0, 0))) := ⟨blk_new _ _⟩
      have HI := Aside0.mk (HI.out.alloc (.cells #[.int .i64 m.f0, .int .i64 m.f1, .int .i64 m.f2, .int .i64 m.f3, .int .i64 m.f4, .slice A5 m.f5.length c5, .int .i64 m.f6.f0, .int .i64 m.f6.f1, .int .i64 m.f6.f2, .int .i64 m.f6.f3] 50))
      have HKB := Aside0.mk (blk_alloc HKB.out (.cells #[.int .i64 m.f0, .int .i64 m.f1, .int .i64 m.f2, .int .i64 m.f3, .int .i64 m.f4, .slice A5 m.f5.length c5, .int .i64 m.f6.f0, .int .i64 m.f6.f1, .int .i64 m.f6.f2, .int .i64 m.f6.f3] 50))
      clear hx0 hx1 hx2 hx3 hx4 hx5 hx6 hx7 hx8 hx9
      have HBL := HI.out.bel
      generalize wr.heap.size = p at HPB HP ⊢
      generalize wr.alloc (.cells #[.int .i64 m.f0, .int .i64 m.f1, .int .i64 m.f2, .int .i64 m.f3, .int .i64 m.f4, .slice A5 m.f5.length c5, .int .i64 m.f6.f0, .int .i64 m.f6.f1, .int .i64 m.f6.f2, .int .i64 m.f6.f3] 50) = w3 at HP HI HKB HBL ⊢
      obtain ⟨T, hT⟩ : ∃ T, T = allLines (l.take i) := ⟨_, rfl⟩
      rw [← hT] at HI HT
      have hTH := Aside0.mk hT
      clear hT
      go_loopw [28] (fun jv wr => ∃ j : Nat, j ≤ 4 ∧ jv = .int .i64 j ∧ Aside0 (Wk w w.heap.size b (if m.f0 ≤ j then T ++ markLines m else T) wr) ∧ Aside0 (wr.heap[b + 1]? = some (.cells (kindCells b) 63 (0, 0))) ∧ Aside0 (wr.heap[p]? = some (.cells #[.int .i64 m.f0, .int .i64 m.f1, .int .i64 m.f2, .int .i64 m.f3, .int .i64 m.f4, .slice A5 m.f5.length c5, .int .i64 m.f6.f0, .int .i64 m.f6.f1, .int .i64 m.f6.f2, .int .i64 m.f6.f3] 50 (0, 0)))) (fun jv _ => 4 - (intOf jv).toNat)
      case atStart =>
        refine ⟨0, by omega, rfl, ⟨?_⟩, HKB, HP⟩
        have := HGm.out.1
        rw [if_neg (by omega)]
        exact HI.out
      case round =>
        clear HI HKB HP HBL
        obtain ⟨j, hj, rfl, HI, HKB, HP⟩ := hrel
        have hg1 := HGm.out.1
        have hg2 := HGm.out.2.1
        have HG1 := Aside0.mk hg1
        have HG2 := Aside0.mk hg2
        clear hg1 hg2
        match j, hj with
        | 0, _ =>
          have k0 : wr.cell? ⟨b + 1, 0, none⟩ = some (.int .i64 1) := blk_cell HKB.out 0
          have k1 : wr.cell? ⟨b + 1, 1, none⟩ = some (.func (.func 56) #[.pointer (some ⟨b, 0, none⟩)] #[]) := blk_cell HKB.out 1
          have q0 : (wr.alloc (.cells #[.int .i64 1, .func (.func 56) #[.pointer (some ⟨b, 0, none⟩)] #[]] 63)).cell? ⟨p, 0, none⟩ = some (.int .i64 m.f0) := blk_cell (blk_alloc HP.out _) 0
          have q1 : (wr.alloc (.cells #[.int .i64 1, .func (.func 56) #[.pointer (some ⟨b, 0, none⟩)] #[]] 63)).cell? ⟨p, 1, none⟩ = some (.int .i64 m.f1) := blk_cell (blk_alloc HP.out _) 1
          have q2 : (wr.alloc (.cells #[.int .i64 1, .func (.func 56) #[.pointer (some ⟨b, 0, none⟩)] #[]] 63)).cell? ⟨p, 2, none⟩ = some (.int .i64 m.f2) := blk_cell (blk_alloc HP.out _) 2
          have q3 : (wr.alloc (.cells #[.int .i64 1, .func (.func 56) #[.pointer (some ⟨b, 0, none⟩)] #[]] 63)).cell? ⟨p, 3, none⟩ = some (.int .i64 m.f3) := blk_cell (blk_alloc HP.out _) 3
          have q4 : (wr.alloc (.cells #[.int .i64 1, .func (.func 56) #[.pointer (some ⟨b, 0, none⟩)] #[]] 63)).cell? ⟨p, 4, none⟩ = some (.int .i64 m.f4) := blk_cell (blk_alloc HP.out _) 4
          have q5 : (wr.alloc (.cells #[.int .i64 1, .func (.func 56) #[.pointer (some ⟨b, 0, none⟩)] #[]] 63)).cell? ⟨p, 5, none⟩ = some (.slice A5 m.f5.length c5) := blk_cell (blk_alloc HP.out _) 5
          have q6 : (wr.alloc (.cells #[.int .i64 1, .func (.func 56) #[.pointer (some ⟨b, 0, none⟩)] #[]] 63)).cell? ⟨p, 6, none⟩ = some (.int .i64 m.f6.f0) := blk_cell (blk_alloc HP.out _) 6
          have q7 : (wr.alloc (.cells #[.int .i64 1, .func (.func 56) #[.pointer (some ⟨b, 0, none⟩)] #[]] 63)).cell? ⟨p, 7, none⟩ = some (.int .i64 m.f6.f1) := blk_cell (blk_alloc HP.out _) 7
          have q8 : (wr.alloc (.cells #[.int .i64 1, .func (.func 56) #[.pointer (some ⟨b, 0, none⟩)] #[]] 63)).cell? ⟨p, 8, none⟩ = some (.int .i64 m.f6.f2) := blk_cell (blk_alloc HP.out _) 8
          have q9 : (wr.alloc (.cells #[.int .i64 1, .func (.func 56) #[.pointer (some ⟨b, 0, none⟩)] #[]] 63)).cell? ⟨p, 9, none⟩ = some (.int .i64 m.f6.f3) := blk_cell (blk_alloc HP.out _) 9
          have HI := Aside0.mk (HI.out.alloc (.cells #[.int .i64 1, .func (.func 56) #[.pointer (some ⟨b, 0, none⟩)] #[]] 63))
          have HKB := Aside0.mk (blk_alloc HKB.out (.cells #[.int .i64 1, .func (.func 56) #[.pointer (some ⟨b, 0, none⟩)] #[]] 63))
          have HP := Aside0.mk (blk_alloc HP.out (.cells #[.int .i64 1, .func (.func 56) #[.pointer (some ⟨b, 0, none⟩)] #[]] 63))
          by_cases hk : m.f0 = 1
          · have HML : Aside0 (markLines m = textLines m.f1 m.f2 m.f3 m.f4 m.f5) := ⟨by simp [markLines, hk]⟩
            rw [if_neg (by omega)] at HI
            have HF := Aside0.mk (HGm.out.2.2 hk)
            obtain ⟨ad5, HGB, HCS⟩ : ∃ ad5, Aside0 (A5 = some ad5 ∧ ad5.block < w.heap.size) ∧ Aside0 (∀ i (hi : i < m.f5.length), w.cell? (ad5.add i) = some (.int .i64 m.f5[i])) := glyph_cells HI5.out HF.out.2.2.1 rfl
            obtain ⟨rfl, hgb⟩ := HGB.out
            have HGB := Aside0.mk hgb
            clear hgb
            have HCS : Aside0 (∀ i (hi : i < m.f5.length), (wr.alloc (.cells #[.int .i64 1, .func (.func 56) #[.pointer (some ⟨b, 0, none⟩)] #[]] 63)).cell? (ad5.add i) = some (.int .i64 m.f5[i])) := ⟨fun i hi => (HI.out.bel.cell (p := ad5.add i) (by rw [X.add_block]; exact HGB.out)).trans (HCS.out i hi)⟩
            have hkb : (1 == m.f0) = true := by rw [hk]; rfl
            have hkc : m.f0 = 1 := hk
            have HKC := Aside0.mk hk
            clear hk hkc
            go_wp2_with (first | (go_at_call 56; refine (emit_text w.heap.size b c5 ad5 T m.f0 m.f1 m.f2 m.f3 m.f4 m.f6.f0 m.f6.f1 m.f6.f2 m.f6.f3 m.f5 _ HI.out.wr HI.out.size (HI.out.gb.below HI.out.bel) HF.out.1 HF.out.2.1 HGB.out HCS.out HF.out.2.2.2).mono ?_; rintro e w4 ⟨rfl, hI4⟩))
            go_roundw
            case rel =>
              refine ⟨1, by omega, rfl, ⟨?_⟩, ⟨kept_block hI4.oth HKB.out HNE.out (by intro c fz; simp)⟩, ⟨kept_block hI4.oth HP.out HPB.out (by intro c fz; simp)⟩⟩
              have := HKC.out
              rw [if_pos (by omega), HML.out]
              simpa [List.append_assoc] using HI.out.next hI4
            case measure => simp [intOf]
          · have hkb : (1 == m.f0) = false := by simp; omega
            have HKC := Aside0.mk hk
            clear hk
            go_wp2
            go_roundw
            case rel =>
              refine ⟨1, by omega, rfl, ⟨?_⟩, HKB, HP⟩
              have := HI.out
              have hkc := HKC.out
              have e : (m.f0 ≤ ((1 : Nat) : Int)) = (m.f0 ≤ ((0 : Nat) : Int)) := by apply propext; omega
              simpa only [e] using this
            case measure => simp [intOf]
        | 1, _ =>
          have k0 : wr.cell? ⟨b + 1, 2, none⟩ = some (.int .i64 2) := blk_cell HKB.out 2
          have k1 : wr.cell? ⟨b + 1, 3, none⟩ = some (.func (.func 57) #[.pointer (some ⟨b, 0, none⟩)] #[]) := blk_cell HKB.out 3
          have q0 : (wr.alloc (.cells #[.int .i64 2, .func (.func 57) #[.pointer (some ⟨b, 0, none⟩)] #[]] 63)).cell? ⟨p, 0, none⟩ = some (.int .i64 m.f0) := blk_cell (blk_alloc HP.out _) 0
          have q1 : (wr.alloc (.cells #[.int .i64 2, .func (.func 57) #[.pointer (some ⟨b, 0, none⟩)] #[]] 63)).cell? ⟨p, 1, none⟩ = some (.int .i64 m.f1) := blk_cell (blk_alloc HP.out _) 1
          have q2 : (wr.alloc (.cells #[.int .i64 2, .func (.func 57) #[.pointer (some ⟨b, 0, none⟩)] #[]] 63)).cell? ⟨p, 2, none⟩ = some (.int .i64 m.f2) := blk_cell (blk_alloc HP.out _) 2
          have q3 : (wr.alloc (.cells #[.int .i64 2, .func (.func 57) #[.pointer (some ⟨b, 0, none⟩)] #[]] 63)).cell? ⟨p, 3, none⟩ = some (.int .i64 m.f3) := blk_cell (blk_alloc HP.out _) 3
          have q4 : (wr.alloc (.cells #[.int .i64 2, .func (.func 57) #[.pointer (some ⟨b, 0, none⟩)] #[]] 63)).cell? ⟨p, 4, none⟩ = some (.int .i64 m.f4) := blk_cell (blk_alloc HP.out _) 4
          have q5 : (wr.alloc (.cells #[.int .i64 2, .func (.func 57) #[.pointer (some ⟨b, 0, none⟩)] #[]] 63)).cell? ⟨p, 5, none⟩ = some (.slice A5 m.f5.length c5) := blk_cell (blk_alloc HP.out _) 5
          have q6 : (wr.alloc (.cells #[.int .i64 2, .func (.func 57) #[.pointer (some ⟨b, 0, none⟩)] #[]] 63)).cell? ⟨p, 6, none⟩ = some (.int .i64 m.f6.f0) := blk_cell (blk_alloc HP.out _) 6
          have q7 : (wr.alloc (.cells #[.int .i64 2, .func (.func 57) #[.pointer (some ⟨b, 0, none⟩)] #[]] 63)).cell? ⟨p, 7, none⟩ = some (.int .i64 m.f6.f1) := blk_cell (blk_alloc HP.out _) 7
          have q8 : (wr.alloc (.cells #[.int .i64 2, .func (.func 57) #[.pointer (some ⟨b, 0, none⟩)] #[]] 63)).cell? ⟨p, 8, none⟩ = some (.int .i64 m.f6.f2) := blk_cell (blk_alloc HP.out _) 8
          have q9 : (wr.alloc (.cells #[.int .i64 2, .func (.func 57) #[.pointer (some ⟨b, 0, none⟩)] #[]] 63)).cell? ⟨p, 9, none⟩ = some (.int .i64 m.f6.f3) := blk_cell (blk_alloc HP.out _) 9
          have HI := Aside0.mk (HI.out.alloc (.cells #[.int .i64 2, .func (.func 57) #[.pointer (some ⟨b, 0, none⟩)] #[]] 63))
          have HKB := Aside0.mk (blk_alloc HKB.out (.cells #[.int .i64 2, .func (.func 57) #[.pointer (some ⟨b, 0, none⟩)] #[]] 63))
          have HP := Aside0.mk (blk_alloc HP.out (.cells #[.int .i64 2, .func (.func 57) #[.pointer (some ⟨b, 0, none⟩)] #[]] 63))
          by_cases hk : m.f0 = 2
          · have HML : Aside0 (markLines m = boxLine m.f6.f0 m.f6.f1 m.f6.f2 m.f6.f3 ++ line [⟨#[102]⟩]) := ⟨by simp [markLines, hk]⟩
            rw [if_neg (by omega)] at HI
            have hkb : (2 == m.f0) = true := by rw [hk]; rfl
            have hkc : m.f0 = 2 := hk
            have HKC := Aside0.mk hk
            clear hk hkc
            go_wp2_with (first | (go_at_call 57; refine (emit_rule w.heap.size b T m.f0 m.f1 m.f2 m.f3 m.f4 (.slice A5 m.f5.length c5) m.f6.f0 m.f6.f1 m.f6.f2 m.f6.f3 _ HI.out.wr HI.out.size (HI.out.gb.below HI.out.bel)).mono ?_; rintro e w4 ⟨rfl, hI4⟩))
            go_roundw
            case rel =>
              refine ⟨2, by omega, rfl, ⟨?_⟩, ⟨kept_block hI4.oth HKB.out HNE.out (by intro c fz; simp)⟩, ⟨kept_block hI4.oth HP.out HPB.out (by intro c fz; simp)⟩⟩
              have := HKC.out
              rw [if_pos (by omega), HML.out]
              simpa [List.append_assoc] using HI.out.next hI4
            case measure => simp [intOf]
          · have hkb : (2 == m.f0) = false := by simp; omega
            have HKC := Aside0.mk hk
            clear hk
            go_wp2
            go_roundw
            case rel =>
              refine ⟨2, by omega, rfl, ⟨?_⟩, HKB, HP⟩
              have := HI.out
              have hkc := HKC.out
              have e : (m.f0 ≤ ((2 : Nat) : Int)) = (m.f0 ≤ ((1 : Nat) : Int)) := by apply propext; omega
              simpa only [e] using this
            case measure => simp [intOf]
        | 2, _ =>
          have k0 : wr.cell? ⟨b + 1, 4, none⟩ = some (.int .i64 3) := blk_cell HKB.out 4
          have k1 : wr.cell? ⟨b + 1, 5, none⟩ = some (.func (.func 58) #[.pointer (some ⟨b, 0, none⟩)] #[]) := blk_cell HKB.out 5
          have q0 : (wr.alloc (.cells #[.int .i64 3, .func (.func 58) #[.pointer (some ⟨b, 0, none⟩)] #[]] 63)).cell? ⟨p, 0, none⟩ = some (.int .i64 m.f0) := blk_cell (blk_alloc HP.out _) 0
          have q1 : (wr.alloc (.cells #[.int .i64 3, .func (.func 58) #[.pointer (some ⟨b, 0, none⟩)] #[]] 63)).cell? ⟨p, 1, none⟩ = some (.int .i64 m.f1) := blk_cell (blk_alloc HP.out _) 1
          have q2 : (wr.alloc (.cells #[.int .i64 3, .func (.func 58) #[.pointer (some ⟨b, 0, none⟩)] #[]] 63)).cell? ⟨p, 2, none⟩ = some (.int .i64 m.f2) := blk_cell (blk_alloc HP.out _) 2
          have q3 : (wr.alloc (.cells #[.int .i64 3, .func (.func 58) #[.pointer (some ⟨b, 0, none⟩)] #[]] 63)).cell? ⟨p, 3, none⟩ = some (.int .i64 m.f3) := blk_cell (blk_alloc HP.out _) 3
          have q4 : (wr.alloc (.cells #[.int .i64 3, .func (.func 58) #[.pointer (some ⟨b, 0, none⟩)] #[]] 63)).cell? ⟨p, 4, none⟩ = some (.int .i64 m.f4) := blk_cell (blk_alloc HP.out _) 4
          have q5 : (wr.alloc (.cells #[.int .i64 3, .func (.func 58) #[.pointer (some ⟨b, 0, none⟩)] #[]] 63)).cell? ⟨p, 5, none⟩ = some (.slice A5 m.f5.length c5) := blk_cell (blk_alloc HP.out _) 5
          have q6 : (wr.alloc (.cells #[.int .i64 3, .func (.func 58) #[.pointer (some ⟨b, 0, none⟩)] #[]] 63)).cell? ⟨p, 6, none⟩ = some (.int .i64 m.f6.f0) := blk_cell (blk_alloc HP.out _) 6
          have q7 : (wr.alloc (.cells #[.int .i64 3, .func (.func 58) #[.pointer (some ⟨b, 0, none⟩)] #[]] 63)).cell? ⟨p, 7, none⟩ = some (.int .i64 m.f6.f1) := blk_cell (blk_alloc HP.out _) 7
          have q8 : (wr.alloc (.cells #[.int .i64 3, .func (.func 58) #[.pointer (some ⟨b, 0, none⟩)] #[]] 63)).cell? ⟨p, 8, none⟩ = some (.int .i64 m.f6.f2) := blk_cell (blk_alloc HP.out _) 8
          have q9 : (wr.alloc (.cells #[.int .i64 3, .func (.func 58) #[.pointer (some ⟨b, 0, none⟩)] #[]] 63)).cell? ⟨p, 9, none⟩ = some (.int .i64 m.f6.f3) := blk_cell (blk_alloc HP.out _) 9
          have HI := Aside0.mk (HI.out.alloc (.cells #[.int .i64 3, .func (.func 58) #[.pointer (some ⟨b, 0, none⟩)] #[]] 63))
          have HKB := Aside0.mk (blk_alloc HKB.out (.cells #[.int .i64 3, .func (.func 58) #[.pointer (some ⟨b, 0, none⟩)] #[]] 63))
          have HP := Aside0.mk (blk_alloc HP.out (.cells #[.int .i64 3, .func (.func 58) #[.pointer (some ⟨b, 0, none⟩)] #[]] 63))
          by_cases hk : m.f0 = 3
          · have HML : Aside0 (markLines m = line [⟨#[113]⟩] ++ boxLine m.f6.f0 m.f6.f1 m.f6.f2 m.f6.f3 ++ line [⟨#[87, 32, 110]⟩]) := ⟨by simp [markLines, hk]⟩
            rw [if_neg (by omega)] at HI
            have hkb : (3 == m.f0) = true := by rw [hk]; rfl
            have hkc : m.f0 = 3 := hk
            have HKC := Aside0.mk hk
            clear hk hkc
            go_wp2_with (first | (go_at_call 58; refine (emit_clip w.heap.size b T m.f0 m.f1 m.f2 m.f3 m.f4 (.slice A5 m.f5.length c5) m.f6.f0 m.f6.f1 m.f6.f2 m.f6.f3 _ HI.out.wr HI.out.size (HI.out.gb.below HI.out.bel)).mono ?_; rintro e w4 ⟨rfl, hI4⟩))
            go_roundw
            case rel =>
              refine ⟨3, by omega, rfl, ⟨?_⟩, ⟨kept_block hI4.oth HKB.out HNE.out (by intro c fz; simp)⟩, ⟨kept_block hI4.oth HP.out HPB.out (by intro c fz; simp)⟩⟩
              have := HKC.out
              rw [if_pos (by omega), HML.out]
              simpa [List.append_assoc] using HI.out.next hI4
            case measure => simp [intOf]
          · have hkb : (3 == m.f0) = false := by simp; omega
            have HKC := Aside0.mk hk
            clear hk
            go_wp2
            go_roundw
            case rel =>
              refine ⟨3, by omega, rfl, ⟨?_⟩, HKB, HP⟩
              have := HI.out
              have hkc := HKC.out
              have e : (m.f0 ≤ ((3 : Nat) : Int)) = (m.f0 ≤ ((2 : Nat) : Int)) := by apply propext; omega
              simpa only [e] using this
            case measure => simp [intOf]
        | 3, _ =>
          have k0 : wr.cell? ⟨b + 1, 6, none⟩ = some (.int .i64 4) := blk_cell HKB.out 6
          have k1 : wr.cell? ⟨b + 1, 7, none⟩ = some (.func (.func 59) #[.pointer (some ⟨b, 0, none⟩)] #[]) := blk_cell HKB.out 7
          have q0 : (wr.alloc (.cells #[.int .i64 4, .func (.func 59) #[.pointer (some ⟨b, 0, none⟩)] #[]] 63)).cell? ⟨p, 0, none⟩ = some (.int .i64 m.f0) := blk_cell (blk_alloc HP.out _) 0
          have q1 : (wr.alloc (.cells #[.int .i64 4, .func (.func 59) #[.pointer (some ⟨b, 0, none⟩)] #[]] 63)).cell? ⟨p, 1, none⟩ = some (.int .i64 m.f1) := blk_cell (blk_alloc HP.out _) 1
          have q2 : (wr.alloc (.cells #[.int .i64 4, .func (.func 59) #[.pointer (some ⟨b, 0, none⟩)] #[]] 63)).cell? ⟨p, 2, none⟩ = some (.int .i64 m.f2) := blk_cell (blk_alloc HP.out _) 2
          have q3 : (wr.alloc (.cells #[.int .i64 4, .func (.func 59) #[.pointer (some ⟨b, 0, none⟩)] #[]] 63)).cell? ⟨p, 3, none⟩ = some (.int .i64 m.f3) := blk_cell (blk_alloc HP.out _) 3
          have q4 : (wr.alloc (.cells #[.int .i64 4, .func (.func 59) #[.pointer (some ⟨b, 0, none⟩)] #[]] 63)).cell? ⟨p, 4, none⟩ = some (.int .i64 m.f4) := blk_cell (blk_alloc HP.out _) 4
          have q5 : (wr.alloc (.cells #[.int .i64 4, .func (.func 59) #[.pointer (some ⟨b, 0, none⟩)] #[]] 63)).cell? ⟨p, 5, none⟩ = some (.slice A5 m.f5.length c5) := blk_cell (blk_alloc HP.out _) 5
          have q6 : (wr.alloc (.cells #[.int .i64 4, .func (.func 59) #[.pointer (some ⟨b, 0, none⟩)] #[]] 63)).cell? ⟨p, 6, none⟩ = some (.int .i64 m.f6.f0) := blk_cell (blk_alloc HP.out _) 6
          have q7 : (wr.alloc (.cells #[.int .i64 4, .func (.func 59) #[.pointer (some ⟨b, 0, none⟩)] #[]] 63)).cell? ⟨p, 7, none⟩ = some (.int .i64 m.f6.f1) := blk_cell (blk_alloc HP.out _) 7
          have q8 : (wr.alloc (.cells #[.int .i64 4, .func (.func 59) #[.pointer (some ⟨b, 0, none⟩)] #[]] 63)).cell? ⟨p, 8, none⟩ = some (.int .i64 m.f6.f2) := blk_cell (blk_alloc HP.out _) 8
          have q9 : (wr.alloc (.cells #[.int .i64 4, .func (.func 59) #[.pointer (some ⟨b, 0, none⟩)] #[]] 63)).cell? ⟨p, 9, none⟩ = some (.int .i64 m.f6.f3) := blk_cell (blk_alloc HP.out _) 9
          have HI := Aside0.mk (HI.out.alloc (.cells #[.int .i64 4, .func (.func 59) #[.pointer (some ⟨b, 0, none⟩)] #[]] 63))
          have HKB := Aside0.mk (blk_alloc HKB.out (.cells #[.int .i64 4, .func (.func 59) #[.pointer (some ⟨b, 0, none⟩)] #[]] 63))
          have HP := Aside0.mk (blk_alloc HP.out (.cells #[.int .i64 4, .func (.func 59) #[.pointer (some ⟨b, 0, none⟩)] #[]] 63))
          by_cases hk : m.f0 = 4
          · have HML : Aside0 (markLines m = line [⟨#[81]⟩]) := ⟨by simp [markLines, hk]⟩
            rw [if_neg (by omega)] at HI
            have hkb : (4 == m.f0) = true := by rw [hk]; rfl
            have hkc : m.f0 = 4 := hk
            have HKC := Aside0.mk hk
            clear hk hkc
            go_wp2_with (first | (go_at_call 59; refine (emit_end w.heap.size b T m.f0 m.f1 m.f2 m.f3 m.f4 (.slice A5 m.f5.length c5) m.f6.f0 m.f6.f1 m.f6.f2 m.f6.f3 _ HI.out.wr HI.out.size (HI.out.gb.below HI.out.bel)).mono ?_; rintro e w4 ⟨rfl, hI4⟩))
            go_roundw
            case rel =>
              refine ⟨4, by omega, rfl, ⟨?_⟩, ⟨kept_block hI4.oth HKB.out HNE.out (by intro c fz; simp)⟩, ⟨kept_block hI4.oth HP.out HPB.out (by intro c fz; simp)⟩⟩
              have := HKC.out
              rw [if_pos (by omega), HML.out]
              simpa [List.append_assoc] using HI.out.next hI4
            case measure => simp [intOf]
          · have hkb : (4 == m.f0) = false := by simp; omega
            have HKC := Aside0.mk hk
            clear hk
            go_wp2
            go_roundw
            case rel =>
              refine ⟨4, by omega, rfl, ⟨?_⟩, HKB, HP⟩
              have := HI.out
              have hkc := HKC.out
              have e : (m.f0 ≤ ((4 : Nat) : Int)) = (m.f0 ≤ ((3 : Nat) : Int)) := by apply propext; omega
              simpa only [e] using this
            case measure => simp [intOf]
        | 4, _ =>
          go_wp2
          have HW1 : wrap64 ((i : Int) + 1) = ((i + 1 : Nat) : Int) := by have := HN.out; unfold wrap64; omega
          refine ⟨⟨i + 1, by omega, by rw [HW1], ⟨?_⟩, HKB⟩, by rw [HW1]; simp only [intOf]; omega⟩
          have h1 := HI.out
          have h2 := HG2.out
          rw [if_pos (by omega)] at h1
          rw [HT.out]
          exact h1
    · have hie : i = l.length := by omega
      subst hie
      rw [List.take_length] at HI
      obtain ⟨cc, hcb, hcf⟩ := HI.out.wr
      have HCF := Aside0.mk hcf
      clear hcf
      by_cases hT : (allLines l).length ≤ 1048576
      · have hce := HCF.out.2.1 hT
        subst hce
        have HT := Aside0.mk hT
        have hnn : (1048576 < ((allLines l).length : Int)) = False := eq_false (by omega)
        have hbl : (Lib.byteCells (allLines l)).length = (allLines l).length := Lib.byteCells_length _
        clear hT
        have HCB := Aside0.mk hcb
        clear hcb
        go_wp2_with (first
          | (go_at_call 31; refine (wr_Len w.heap.size b _ _ HCB.out).mono ?_; rintro e w' ⟨rfl, hw⟩; rw [hw]; clear hw w')
          | (go_at_call 32; refine (wr_String w.heap.size b _ _ HCB.out (allLines_ne HL.out)).mono ?_; rintro e w6 ⟨rfl, hB6⟩))
        go_ret2
        rw [emitRes, if_pos HT.out]
        exact ⟨rfl, HI.out.bel.trans hB6⟩
      · have hce := HCF.out.2.2 hT
        have HT := Aside0.mk hT
        have hnn : (1048576 < (cc.length : Int)) = True := eq_true (by omega)
        have hbl : (Lib.byteCells cc).length = cc.length := Lib.byteCells_length _
        clear hT hce
        have HCB := Aside0.mk hcb
        clear hcb
        go_wp2_with (first
          | (go_at_call 31; refine (wr_Len w.heap.size b _ _ HCB.out).mono ?_; rintro e w' ⟨rfl, hw⟩; rw [hw]; clear hw w'))
        go_ret2
        rw [emitRes, if_neg HT.out]
        exact ⟨rfl, HI.out.bel⟩
end Go.Proofs.YtekifiblehmafaaDoor.Y
end
section
set_option linter.unusedVariables false
set_option linter.unusedSimpArgs false
namespace Go.Proofs.YtekifiblehmafaaDoor.Y
open Go.RowKit Go.Shelf Go.Proofs.YtekifiblehmafaaDoor.X Go.Proofs.YtekifiblehmafaaDoorW.PrintWords
set_option maxHeartbeats 1000000 in
set_option maxRecDepth 100000 in
theorem wr_String_nil (b : Nat) (w : World) (hbk : w.heap[b]? = some (.cells #[.pointer none, .slice none 0 0] 58 (0, 0))) :
    Calls Tryd.prog 32 #[.pointer (some ⟨b, 0, none⟩)] w fun e w' => e = .returned (.string ⟨#[]⟩) ∧ Below w.heap.size w w' := by
  have hUS := Any.unsafeString_none Tryd.lays169 Tryd.Builder_Extra_169
  have c1 : w.drew.cell? ⟨b, 1, none⟩ = some (.slice none 0 0) := by
    have : w.drew.heap[b]? = some (.cells #[.pointer none, .slice none 0 0] 58 (0, 0)) := hbk
    rw [Lib.cell_of_heap this]; rfl
  have hSD : (Builtin.unsafeSliceData_ #[54] 82 #[.slice none 0 0]).run Tryd.prog w.drew = .ok (.pointer none) w.drew := rfl
  have hUS2 : (Builtin.unsafeString_ #[82, 3] 9 #[.pointer none, .int .i64 0]).run Tryd.prog w.drew = .ok (.string ⟨#[]⟩) w.drew := hUS _ none
  clear hUS
  go_enter Tryd.func32, Tryd.ntmps32
  go_wp2
  go_region
  all_goals (go_wp2; go_ret; exact ⟨rfl, Below.drew (Below.refl _ w)⟩)
set_option maxHeartbeats 8000000 in
set_option maxRecDepth 100000 in
theorem emit_nil (k c : Nat) (A : Option Addr) (w : World) (hr : Kd.C k50 w A 0 []) (hck : emit_Check.f k [] = some 0) :
    Calls Tryd.prog 15 #[.slice A 0 c] w fun e w' => e = .returned (emitRes []) ∧ Below w.heap.size w w' := by
  have HR := Aside0.mk hr
  have HK := Aside0.mk hck
  clear hr hck
  go_enter Tryd.func15, Tryd.ntmps15
  go_wp2_with (first
    | (go_at_call 18; refine (emit_Check.calls k A c [] 0 _ HR.out (Nat.zero_le _) HK.out).mono ?_; rintro e w1 ⟨rfl, hb1⟩)
    | (go_at_call 30; refine (emit_kinds _ _).mono ?_; rintro e w2 ⟨rfl, rfl⟩))
  have HB : Aside0 (Below w.heap.size w ((w1.alloc (.cells #[.pointer none, .slice none 0 0] 58)).alloc (.cells (kindCells w1.heap.size) 63))) := ⟨(hb1.alloc hb1.size _).alloc (by have := hb1.size; simp; omega) _⟩
  have HW : Aside0 (((w1.alloc (.cells #[.pointer none, .slice none 0 0] 58)).alloc (.cells (kindCells w1.heap.size) 63)).heap[w1.heap.size]? = some (.cells #[.pointer none, .slice none 0 0] 58 (0, 0))) := ⟨blk_alloc (blk_new w1 (.cells #[.pointer none, .slice none 0 0] 58)) _⟩
  have HS := Aside0.mk hb1.size
  clear hb1
  generalize ((w1.alloc (.cells #[.pointer none, .slice none 0 0] 58)).alloc (.cells (kindCells w1.heap.size) 63)) = w2 at HB HW ⊢
  generalize w1.heap.size = b at HW HS ⊢
  go_loopw [22] (fun iv wr => iv = .int .i64 0 ∧ Aside0 (Below w.heap.size w wr) ∧ Aside0 (wr.heap[b]? = some (.cells #[.pointer none, .slice none 0 0] 58 (0, 0)))) (fun iv _ => 0)
  case atStart => exact ⟨rfl, HB, HW⟩
  case round =>
    clear HB HW
    obtain ⟨rfl, HB, HW⟩ := hrel
    have HI : Aside0 (Lib.IsBuilderF 58 5 w.heap.size b (Lib.byteCells []) wr) := ⟨.inl ⟨HS.out, .slice none 0 0, HW.out, ⟨by simp [Lib.byteCells], .inl ⟨rfl, by simp [Lib.byteCells]⟩⟩, by simp [Value.ownBlock]⟩⟩
    have hbl : (Lib.byteCells []).length = 0 := rfl
    go_wp2_with (first
      | (go_at_call 31; refine (wr_Len w.heap.size b _ _ HI.out).mono ?_; rintro e w' ⟨rfl, hw⟩; rw [hw]; clear hw w')
      | (go_at_call 32; refine (wr_String_nil b _ HW.out).mono ?_; rintro e w6 ⟨rfl, hB6⟩))
    go_ret2
    exact ⟨rfl, HB.out.trans (hB6.mono HB.out.size)⟩
theorem emit_all (k c : Nat) (A : Option Addr) (l : List S50) (w : World) (hG : GW w) (hr : Kd.C k50 w A l.length l) (hc : l.length ≤ c) (hck : emit_Check.f k l = some 0) (hN : l.length ≤ 8192) (hg : ∀ m ∈ l, Good m) :
    Calls Tryd.prog 15 #[.slice A l.length c] w fun e w' => e = .returned (emitRes l) ∧ Below w.heap.size w w' := by
  by_cases hl : l = []
  · subst hl
    exact emit_nil k c A w hr hck
  · exact emit_walk k c A l w hG hr hc hck hl hN hg
set_option maxHeartbeats 8000000 in
set_option maxRecDepth 100000 in
theorem emit_no (k c : Nat) (A : Option Addr) (l : List S50) (r : Int) (w : World) (hr : Kd.C k50 w A l.length l) (hc : l.length ≤ c) (hck : emit_Check.f k l = some r) (hn : r ≠ 0) :
    Calls Tryd.prog 15 #[.slice A l.length c] w fun e w' => e = .returned (.tuple #[.string ⟨#[]⟩, .int .i64 r]) ∧ Below w.heap.size w w' := by
  have HR := Aside0.mk hr
  have HC := Aside0.mk hc
  have HK := Aside0.mk hck
  have hb0 : (r != 0) = true := bne_iff_ne.mpr hn
  have hb1 : (r == 0) = false := beq_eq_false_iff_ne.mpr hn
  clear hr hc hck hn
  go_enter Tryd.func15, Tryd.ntmps15
  go_wp2_with (first
    | (go_at_call 18; refine (emit_Check.calls k A c l r _ HR.out HC.out HK.out).mono ?_; rintro e w1 ⟨rfl, hb1⟩))
  go_ret2
  exact ⟨rfl, hb1⟩
end Go.Proofs.YtekifiblehmafaaDoor.Y
end
