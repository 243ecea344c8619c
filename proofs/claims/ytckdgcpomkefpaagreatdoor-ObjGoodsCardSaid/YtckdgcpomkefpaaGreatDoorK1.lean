/- Names, and the keys of a dictionary: the program's tests, as plain Lean, and their calls. -/
import Derived.Test.YtckdgcpomkefpaaGreatDoorShelf
import Derived.Maps.Own
import Derived.Maps.Views
import Derived.Lib.Hide
import Derived.WalkKit
set_option linter.unusedVariables false
set_option linter.unusedSimpArgs false
namespace Go.Proofs.YtckdgcpomkefpaaGreatDoor.X
open Go.RowKit Go.WideMaps Go.Maps

def namedB (s : ByteArray) : Bool := decide (1 ≤ s.size) && (decide (s.size ≤ 127) && decide (Lib.indexByte s.data.toList 0 < 0))
set_option maxHeartbeats 1000000 in
theorem named_calls (s : ByteArray) (w : World) : Calls Tryz.prog 63 #[.string s] w fun e w' => e = .returned (.bool (namedB s)) ∧ w' = w := by
  by_cases h1 : 1 ≤ s.size
  · by_cases h2 : s.size ≤ 127
    · have e1 : decide ((1 : Int) ≤ (s.size : Int)) = true := decide_eq_true (by omega)
      have e2 : decide ((s.size : Int) ≤ 127) = true := decide_eq_true (by omega)
      have HB := Lib.hid (show namedB s = decide (Lib.indexByte s.data.toList 0 < 0) by simp [namedB, h1, h2])
      clear h1 h2
      go_enter Tryz.func63, Tryz.ntmps63
      go_wp2_with (go_at_call 95; refine (Tryz.strings_IndexByte s 0 _).mono ?_; rintro e w' ⟨rfl, rfl⟩)
      go_ret
      exact ⟨by rw [HB.out]; rfl, rfl⟩
    · have e1 : decide ((1 : Int) ≤ (s.size : Int)) = true := decide_eq_true (by omega)
      have e2 : decide ((s.size : Int) ≤ 127) = false := decide_eq_false (by omega)
      have HB := Lib.hid (show namedB s = false by simp [namedB, h2])
      clear h1 h2
      go_enter Tryz.func63, Tryz.ntmps63
      go_wp2
      go_ret
      exact ⟨by rw [HB.out]; rfl, rfl⟩
  · have e1 : decide ((1 : Int) ≤ (s.size : Int)) = false := decide_eq_false (by omega)
    have HB := Lib.hid (show namedB s = false by simp [namedB, h1])
    clear h1
    go_enter Tryz.func63, Tryz.ntmps63
    go_wp2
    go_ret
    exact ⟨by rw [HB.out]; rfl, rfl⟩

/-! ### keys -/
theorem law : Keyed Tryz.prog 9 := string_keyed Tryz.underlying9
theorem zeroI (w : World) : (zeroValue 3).run Tryz.prog w = .ok (.int .i64 0) w := by kernel_rfl
def kl (b : List UInt8) : Lit := .string b
theorem kl_ne {a b : List UInt8} (h : a ≠ b) : kl a ≠ kl b := by
  intro e
  unfold kl at e
  injection e with e
  exact h e
theorem isKey (b : List UInt8) : WideAt.IsKeyLit (kl b) := by
  unfold kl
  simp [WideAt.IsKeyLit]
def i64 {H : Type} (n : Int) : DataW H := .lit (.int .i64 n)
def keysOf (l : List ByteArray) : List (List UInt8) := l.map (·.data.toList)
/-- The map that was made, behind the first j keys: each that was met is there once. -/
def Met (W : World) (l : List ByteArray) (j : Nat) (w : World) : Prop :=
  ∃ D : DataW Unit, w.ownsMap Tryz.prog 9 (plainElem Tryz.prog 3) W.heap.size j D ∧ IsMap D ∧ ∀ b : List UInt8, D.atKey (kl b) (i64 0) = i64 (if b ∈ (keysOf l).take j then 1 else 0)
def keyedB (l : List ByteArray) : Bool := l.all namedB && decide (keysOf l).Nodup
set_option maxHeartbeats 4000000 in
set_option maxRecDepth 100000 in
theorem keyed_calls (A : Option Addr) (c : Nat) (l : List ByteArray) (w : World) (hcs : ∀ i (hi : i < l.length), ∃ ad, A = some ad ∧ w.cell? (ad.add i) = some (.string l[i])) (hsz : ∀ s ∈ l, s.size ≤ maxLen) (hn : l.length ≤ 140737488355328) :
    Calls Tryz.prog 65 #[.slice A l.length c] w fun e w' => e = .returned (.bool (keyedB l)) ∧ Below w.heap.size w w' := by
  have HC := Lib.hid hcs
  have HS := Lib.hid hsz
  have HN := Lib.hid hn
  clear hcs hsz hn
  have hmm := @run_makeMap Tryz.prog
  go_enter Tryz.func65, Tryz.ntmps65
  go_wp2
  go_loopw [9] (fun iv wr => ∃ j : Nat, j ≤ l.length ∧ iv = .int .i64 j ∧ Hid (Met w l j wr) ∧ Hid (Below w.heap.size w wr) ∧ Hid ((l.take j).all namedB = true ∧ (keysOf (l.take j)).Nodup)) (fun iv _ => l.length - (intOf iv).toNat)
  case atStart =>
    refine ⟨0, by omega, rfl, Lib.hid ⟨.map [], World.ownsMap_made _ _ _ _, isMap_empty, fun b => ?_⟩, Lib.hid ((Below.refl _ _).alloc (Nat.le_refl _) _), Lib.hid (by simp [keysOf])⟩
    rw [if_neg (by simp)]
    exact atKey_of_not_has rfl _
  case round =>
    obtain ⟨j, hj, rfl, HM, HB, HD⟩ := hrel
    by_cases hlt : j < l.length
    · obtain ⟨ad, rfl, hx0⟩ := HC.out j hlt
      have hx : wr.cell? (ad.add j) = some (.string l[j]) := (HB.out.cell (World.block_lt_of_cell? w _ hx0)).trans hx0
      clear hx0
      have HSJ := Lib.hid (HS.out l[j] (List.getElem_mem hlt))
      have HK : Hid ((l.take (j + 1)) = l.take j ++ [l[j]]) := Lib.hid (List.take_succ_eq_append_getElem hlt)
      have HNO : Hid (namedB l[j] = false → keyedB l = false) := Lib.hid (fun h => by
        have : l.all namedB = false := by
          rw [List.all_eq_false]
          exact ⟨l[j], List.getElem_mem hlt, by simp [h]⟩
        simp [keyedB, this])
      have HTW : Hid (l[j].data.toList ∈ (keysOf l).take j → keyedB l = false) := Lib.hid (fun h => by
        have hnd : ¬ (keysOf l).Nodup := by
          intro hn
          rw [← List.take_append_drop j (keysOf l)] at hn
          have h2 := (List.nodup_append.1 hn).2.2 _ h (l[j].data.toList)
          refine h2 ?_ rfl
          have hj2 : j < (keysOf l).length := by simpa [keysOf] using hlt
          rw [List.drop_eq_getElem_cons hj2]
          simp [keysOf]
        simp [keyedB, hnd])
      obtain ⟨s, hs⟩ : ∃ s, s = l[j] := ⟨_, rfl⟩
      rw [← hs] at hx HSJ HK HNO HTW
      have HSE := Lib.hid hs
      clear hs
      obtain ⟨D, hown, hmap, hat⟩ := HM.out
      have HAT := Lib.hid hat
      have HMAP := Lib.hid hmap
      clear hat hmap HM
      have hkey : keyOf Tryz.prog 9 (.string s) = some (kl s.data.toList) := keyOf_string_mk Tryz.underlying9 HSJ.out
      obtain ⟨c2, hrun, hat, _⟩ := hown.lookup_int law Tryz.underlying117 Tryz.underlying3 (zeroI _) hkey
      have hc2 : c2 = if s.data.toList ∈ (keysOf l).take j then 1 else 0 := by
        have h1 := HAT.out s.data.toList
        have h2 : (i64 c2 : DataW Unit) = i64 (if s.data.toList ∈ (keysOf l).take j then 1 else 0) := hat.symm.trans h1
        unfold i64 at h2
        injection h2 with h2
        injection h2 with h2
      clear hat
      by_cases hnm : namedB s = true
      · have HNM := Lib.hid hnm
        clear hnm
        by_cases hin : s.data.toList ∈ (keysOf l).take j
        · rw [if_pos hin] at hc2
          subst hc2
          have HF := Lib.hid (HTW.out hin)
          clear hin
          go_wp2_with (go_at_call 63; refine ((named_calls s _).mono (fun e w' h => (⟨by rw [h.1, HNM.out], h.2⟩ : e = .returned (.bool true) ∧ w' = _))).mono ?_; rintro e w' ⟨rfl, hw⟩; rw [hw]; clear hw w')
          go_ret
          exact ⟨by rw [HF.out]; rfl, HB.out⟩
        · rw [if_neg hin] at hc2
          subst hc2
          have HF := Lib.hid hin
          clear hin
          have HLT := Lib.hid hlt
          go_wp2_with (first
            | (go_at_call 63; refine ((named_calls s _).mono (fun e w' h => (⟨by rw [h.1, HNM.out], h.2⟩ : e = .returned (.bool true) ∧ w' = _))).mono ?_; rintro e w' ⟨rfl, hw⟩; rw [hw]; clear hw w')
            | (at_mapUpdate; refine wpList_mapUpdate_own _ rfl _ _ _ 117 rfl 9 3 law Tryz.underlying117 _ w.heap.size j _ rfl hown (by have := HN.out; unfold maxLen; omega) _ _ _ rfl rfl hkey _ [] (plainElem_int Tryz.underlying3 (by decide)) ?_; intro w1 hown1 hgrow1))
          have hw1 : wrap64 ((j : Int) + 1) = ((j + 1 : Nat) : Int) := by have := HN.out; unfold wrap64; omega
          have hk1 : keysOf (l.take (j + 1)) = (keysOf l).take j ++ [s.data.toList] := by
            rw [HK.out]; simp [keysOf]
          have hk2 : (keysOf l).take (j + 1) = (keysOf l).take j ++ [s.data.toList] := by
            rw [← hk1]; simp [keysOf]
          have hkt : keysOf (l.take j) = (keysOf l).take j := by simp [keysOf]
          refine ⟨⟨j + 1, HLT.out, by rw [hw1], Lib.hid ⟨_, hown1, HMAP.out.put _ _, fun b => ?_⟩, Lib.hid (HB.out.grown hgrow1 HB.out.size (fun q hq => by cases hq; exact Nat.le_refl _)), Lib.hid ⟨?_, ?_⟩⟩, by have := HLT.out; rw [hw1]; simp only [intOf]; omega⟩
          · rw [hk2]
            by_cases hb : b = s.data.toList
            · subst hb
              rw [if_pos (by simp)]
              exact atKey_put_same HMAP.out (isKey _) _ _
            · rw [atKey_put_other (kl_ne hb), HAT.out b]
              simp [hb]
          · rw [HK.out, List.all_append, HD.out.1]
            simp [HNM.out]
          · rw [hk1, List.nodup_append]
            refine ⟨by rw [← hkt]; exact HD.out.2, by simp, ?_⟩
            intro a ha q hq e
            simp at hq
            rw [e, hq] at ha
            exact HF.out ha
      · have HNM := Lib.hid (by simpa using hnm : namedB s = false)
        clear hnm hc2
        go_wp2_with (go_at_call 63; refine ((named_calls s _).mono (fun e w' h => (⟨by rw [h.1, HNM.out], h.2⟩ : e = .returned (.bool false) ∧ w' = _))).mono ?_; rintro e w' ⟨rfl, hw⟩; rw [hw]; clear hw w')
        go_ret
        exact ⟨by rw [HNO.out HNM.out]; rfl, HB.out⟩
    · have hje : j = l.length := by omega
      subst hje
      have hd := HD.out
      rw [List.take_length] at hd
      have HD2 := Lib.hid hd
      clear hd
      go_wp2
      go_ret
      exact ⟨by have := HD2.out; simp [keyedB, this.1, this.2], HB.out⟩
end Go.Proofs.YtckdgcpomkefpaaGreatDoor.X
