/- The law's 'eight' (a number as eight digits): what its call comes to. -/
import Derived.Test.YtekifiblehmafaaDoorXE2
import Derived.Lib.SmallJoins
namespace Go.Proofs.YtekifiblehmafaaDoor.X
open Go.RowKit Go.Proofs.YtekifiblehmafaaDoorW.PrintWords Go.Proofs.YtekifiblehmafaaDoorW.PrintLast Go.Proofs.YtekifiblehmafaaDoorW.PrintMore
set_option linter.unusedVariables false
set_option linter.unusedSimpArgs false

def lowD : Nat → Nat → List Nat
  | 0, _ => []
  | j + 1, n => (n / 10 ^ j % 10) :: lowD j n
theorem lowD_length : ∀ j n, (lowD j n).length = j
  | 0, _ => rfl
  | j + 1, n => by simp [lowD, lowD_length j n]
theorem lowD_digits : ∀ j n, ∀ d ∈ lowD j n, d < 10
  | 0, _, d, h => by simp [lowD] at h
  | j + 1, n, d, h => by
    simp only [lowD, List.mem_cons] at h
    rcases h with rfl | h
    · exact Nat.mod_lt _ (by omega)
    · exact lowD_digits j n d h
theorem lowD_set (j n : Nat) (hj : j < 8) : (List.replicate (8 - j) 0 ++ lowD j n).set (7 - j) (n / 10 ^ j % 10) = List.replicate (8 - (j + 1)) 0 ++ lowD (j + 1) n := by
  obtain ⟨m, hm⟩ : ∃ m, 8 - j = m + 1 := ⟨7 - j, by omega⟩
  rw [hm, show 7 - j = m from by omega, show 8 - (j + 1) = m from by omega, List.replicate_succ', List.append_assoc, List.set_append_right _ _ (by simp)]
  simp [lowD]
def colophonlaw02_eight.f (a0 : Int) : Option ByteArray := if 0 ≤ a0 ∧ a0 ≤ 99999999 then some (strOfNums ((lowD 8 a0.toNat).map fun d : Nat => 48 + (d : Int))) else none

set_option maxHeartbeats 1000000 in
theorem eight_walk (n : Nat) (hn : n ≤ 99999999) (w : World) :
    Calls Tryd.prog 28 #[.int .i64 n] w fun e w' => e = .returned (.string (strOfNums ((lowD 8 n).map fun d : Nat => 48 + (d : Int)))) ∧ Below w.heap.size w w' := by
  have kc := fun (w : World) (C : Array Value) (n c : Nat) => Lib.run_convert_bytes_const (P := Tryd.prog) w 54 5 C n c Tryd.underlying54 Tryd.underlying5
  go_enter Tryd.func28, Tryd.ntmps28
  go_wp2
  go_loopw [0, 4] (fun nv iv wr => ∃ j : Nat, j ≤ 8 ∧ iv = .int .i64 (7 - (j : Int)) ∧ nv = .int .i64 ((n / 10 ^ j : Nat) : Int) ∧ Hid (RowD w.heap.size w wr (List.replicate (8 - j) 0 ++ lowD j n))) (fun _ iv _ => (intOf iv + 1).toNat)
  case atStart =>
    refine ⟨0, by omega, rfl, by simp, Lib.hid ⟨#[.int .u8 48, .int .u8 48, .int .u8 48, .int .u8 48, .int .u8 48, .int .u8 48, .int .u8 48, .int .u8 48], (by show (w.heap.push _)[w.heap.size]? = _; simp), ?_, ?_, ?_⟩⟩
    · simp [lowD]
    · rfl
    · exact (Below.refl _ w).alloc (Nat.le_refl _) _
  case round =>
    obtain ⟨j, hj, rfl, rfl, HR⟩ := hrel
    have hq : n / 10 ^ j ≤ 99999999 := Nat.le_trans (Nat.div_le_self _ _) hn
    have hq1 : n / 10 ^ (j + 1) = n / 10 ^ j / 10 := by rw [Nat.pow_succ, Nat.div_div_eq_div_mul]
    have hlen : (List.replicate (8 - j) 0 ++ lowD j n).length = 8 := by rw [List.length_append, List.length_replicate, lowD_length]; omega
    have hset := fun h => lowD_set j n h
    have hdig : ∀ d ∈ lowD 8 n, d < 10 := lowD_digits 8 n
    obtain ⟨m, hm⟩ : ∃ m, m = n / 10 ^ j := ⟨_, rfl⟩
    rw [← hm] at hq hq1 hset
    rw [← hm]
    have Hm := Lib.hid hm
    have Hset := Lib.hid hset
    have Hlen := Lib.hid hlen
    have Hdig := Lib.hid hdig
    have Hq1 := Lib.hid hq1
    clear hm hset hlen hdig hq1
    have hsz := HR.out.size
    by_cases hlt : j < 8
    · obtain ⟨k, hkj⟩ : ∃ k, k = 7 - j := ⟨_, rfl⟩
      have hk : k < (List.replicate (8 - j) 0 ++ lowD j n).length := by rw [Hlen.out]; omega
      have hfz := HR.out.unfrozen k hk
      have hcell := HR.out.cell k hk
      rw [show (7 : Int) - (j : Int) = (k : Int) from by omega]
      have hk8 : k < 8 := by omega
      have Hkj := Lib.hid hkj
      clear hkj
      go_wp2
      have hk7 := Hkj.out
      refine ⟨⟨j + 1, by omega, by rw [show (k : Int) - 1 = 7 - ((j + 1 : Nat) : Int) from by omega], by rw [Hq1.out]; rfl, Lib.hid ?_⟩, by simp [intOf]⟩
      have h1 := HR.out.set (Nat.le_refl _) k hk (m % 10)
      rw [hk7, Hset.out hlt, ← hk7] at h1
      exact h1
    · obtain rfl : j = 8 := by omega
      rw [show (7 : Int) - ((8 : Nat) : Int) = (-1 : Int) from rfl]
      have HL := HR.out
      rw [show List.replicate (8 - 8) 0 ++ lowD 8 n = lowD 8 n from rfl] at HL
      have HL := Lib.hid HL
      have hcv2 := run_convert_bytes_arg (P := Tryd.prog) wr 54 5 Tryd.underlying54 Tryd.underlying5 w.heap.size 0 8 8 ((lowD 8 n).map fun d : Nat => 48 + (d : Int)) (by rw [List.length_map, lowD_length]) (fun i hi => by
          have h3 : i < (lowD 8 n).length := by rw [lowD_length]; exact hi
          have := HL.out.cell i h3
          rw [Nat.zero_add, this]
          simp [List.getD, h3]) 9 Tryd.underlying9
      go_wp2
      go_ret
      exact ⟨rfl, HL.out.below⟩
theorem colophonlaw02_eight.calls (a0 : Int) (r : ByteArray) (w : World) (h : colophonlaw02_eight.f a0 = some r) :
    Calls Tryd.prog 28 #[.int .i64 a0] w fun e w' => e = .returned (.string r) ∧ Below w.heap.size w w' := by
  unfold colophonlaw02_eight.f at h
  split at h
  · rename_i hb
    obtain rfl := Option.some.inj h
    have := eight_walk a0.toNat (by omega) w
    rw [Int.toNat_of_nonneg hb.1] at this
    exact this
  · cases h
end Go.Proofs.YtekifiblehmafaaDoor.X
