/- Plain arithmetic of decimals: digits of a number, a fraction's digits, trimming, doubling. No program and no memory. -/
import Derived.Test.YtekifiblehmafaaDoorXE3
namespace Go.Proofs.YtekifiblehmafaaDoor.X
open Go.RowKit Go.Proofs.YtekifiblehmafaaDoorW.PrintWords
set_option linter.unusedVariables false
set_option linter.unusedSimpArgs false

/-! ### digits as numbers -/
def val (l : List Nat) : Nat := l.foldl (fun n d => 10 * n + d) 0
theorem val_from (l : List Nat) : ∀ n, l.foldl (fun n d => 10 * n + d) n = n * 10 ^ l.length + val l := by
  induction l with
  | nil => intro n; simp [val]
  | cons a l ih =>
    intro n
    simp only [List.foldl_cons, List.length_cons, val]
    rw [ih, ih (10 * 0 + a), Nat.pow_succ]
    have : (10 * n + a) * 10 ^ l.length = n * (10 ^ l.length * 10) + a * 10 ^ l.length := by
      rw [Nat.add_mul]; congr 1
      rw [Nat.mul_comm 10 n, Nat.mul_assoc, Nat.mul_comm 10]
    rw [this]; simp; omega
theorem val_cons (a : Nat) (l : List Nat) : val (a :: l) = a * 10 ^ l.length + val l := by
  show l.foldl _ (10 * 0 + a) = _
  rw [val_from]; simp
theorem val_snoc (l : List Nat) (a : Nat) : val (l ++ [a]) = 10 * val l + a := by simp [val]
theorem val_lt : ∀ l : List Nat, (∀ d ∈ l, d < 10) → val l < 10 ^ l.length
  | [], _ => by simp [val]
  | a :: l, h => by
    have h1 := val_lt l (fun d hd => h d (List.mem_cons_of_mem _ hd))
    have h2 := h a List.mem_cons_self
    rw [val_cons, List.length_cons, Nat.pow_succ]
    have : a * 10 ^ l.length ≤ 9 * 10 ^ l.length := Nat.mul_le_mul_right _ (by omega)
    omega
theorem val_inj : ∀ a b : List Nat, a.length = b.length → (∀ d ∈ a, d < 10) → (∀ d ∈ b, d < 10) → val a = val b → a = b
  | [], [], _, _, _, _ => rfl
  | [], _ :: _, h, _, _, _ => by simp at h
  | _ :: _, [], h, _, _, _ => by simp at h
  | x :: a, y :: b, hl, ha, hb, hv => by
    have hl' : a.length = b.length := by simpa using hl
    have h1 := val_lt a (fun d hd => ha d (List.mem_cons_of_mem _ hd))
    have h2 := val_lt b (fun d hd => hb d (List.mem_cons_of_mem _ hd))
    rw [val_cons, val_cons, hl'] at hv
    rw [hl'] at h1
    have hxy : x = y := by
      have e1 : (x * 10 ^ b.length + val a) / 10 ^ b.length = x := by
        rw [Nat.mul_comm, Nat.mul_add_div (Nat.pow_pos (by omega)), Nat.div_eq_of_lt h1]; rfl
      have e2 : (y * 10 ^ b.length + val b) / 10 ^ b.length = y := by
        rw [Nat.mul_comm, Nat.mul_add_div (Nat.pow_pos (by omega)), Nat.div_eq_of_lt h2]; rfl
      rw [← e1, ← e2, hv]
    subst hxy
    rw [val_inj a b hl' (fun d hd => ha d (List.mem_cons_of_mem _ hd)) (fun d hd => hb d (List.mem_cons_of_mem _ hd)) (by omega)]
theorem val_replicate (k : Nat) (l : List Nat) : val (List.replicate k 0 ++ l) = val l := by
  induction k with
  | zero => simp
  | succ k ih => rw [List.replicate_succ, List.cons_append, val_cons, ih]; simp

def natDigits (u : Nat) : List Nat := if h : u < 10 then [u] else natDigits (u / 10) ++ [u % 10]
termination_by u
decreasing_by omega
theorem natDigits_small {u : Nat} (h : u < 10) : natDigits u = [u] := by rw [natDigits, dif_pos h]
theorem natDigits_big {u : Nat} (h : ¬ u < 10) : natDigits u = natDigits (u / 10) ++ [u % 10] := by rw [natDigits, dif_neg h]
theorem natDigits_digits (u : Nat) : ∀ d ∈ natDigits u, d < 10 := by
  induction u using Nat.strongRecOn with
  | _ u ih =>
    by_cases h : u < 10
    · rw [natDigits_small h]; simpa using h
    · rw [natDigits_big h]
      intro d hd
      rcases List.mem_append.1 hd with h1 | h1
      · exact ih (u / 10) (by omega) d h1
      · simp at h1; omega
theorem val_natDigits (u : Nat) : val (natDigits u) = u := by
  induction u using Nat.strongRecOn with
  | _ u ih =>
    by_cases h : u < 10
    · rw [natDigits_small h]; simp [val]
    · rw [natDigits_big h, val_snoc, ih (u / 10) (by omega)]; omega
theorem natDigits_length_le (u : Nat) : (natDigits u).length ≤ u + 1 := by
  induction u using Nat.strongRecOn with
  | _ u ih =>
    by_cases h : u < 10
    · rw [natDigits_small h]; simp
    · rw [natDigits_big h, List.length_append, List.length_singleton]
      have := ih (u / 10) (by omega)
      omega
theorem natDigits_pos (u : Nat) : 1 ≤ (natDigits u).length := by
  by_cases h : u < 10
  · rw [natDigits_small h]; simp
  · rw [natDigits_big h]; simp
theorem natDigits_length (k : Nat) : ∀ u, u < 10 ^ (k + 1) → (natDigits u).length ≤ k + 1 := by
  induction k with
  | zero => intro u h; rw [natDigits_small (by simpa using h)]; simp
  | succ k ih =>
    intro u h
    by_cases h1 : u < 10
    · rw [natDigits_small h1]; simp
    · rw [natDigits_big h1, List.length_append, List.length_singleton]
      have := ih (u / 10) (by rw [Nat.pow_succ] at h; omega)
      omega
/-- No zero at the front, but of 0 itself. -/
theorem natDigits_head (u : Nat) (h : u ≠ 0) : ∃ a l, natDigits u = a :: l ∧ a ≠ 0 := by
  induction u using Nat.strongRecOn with
  | _ u ih =>
    by_cases h1 : u < 10
    · exact ⟨u, [], natDigits_small h1, h⟩
    · obtain ⟨a, l, e, ha⟩ := ih (u / 10) (by omega) (by omega)
      exact ⟨a, l ++ [u % 10], by rw [natDigits_big h1, e]; rfl, ha⟩

/-! ### a fraction's digits -/
def full : Nat → Nat → List Nat
  | 0, _ => []
  | k + 1, r => (r * 10 / 65536) :: full k (r * 10 % 65536)
def remk : Nat → Nat → Nat
  | 0, r => r
  | k + 1, r => remk k (r * 10 % 65536)
def fracD : Nat → Nat → List Nat
  | 0, _ => []
  | k + 1, r => if r = 0 then [] else (r * 10 / 65536) :: fracD k (r * 10 % 65536)
theorem full_length : ∀ k r, (full k r).length = k
  | 0, _ => rfl
  | k + 1, r => by simp [full, full_length k]
theorem full_digits : ∀ k r, r < 65536 → ∀ d ∈ full k r, d < 10
  | 0, _, _, d, h => by simp [full] at h
  | k + 1, r, hr, d, h => by
    simp only [full, List.mem_cons] at h
    rcases h with rfl | h
    · omega
    · exact full_digits k _ (Nat.mod_lt _ (by omega)) d h
theorem full_val : ∀ k r, r < 65536 → val (full k r) * 65536 + remk k r = r * 10 ^ k ∧ remk k r < 65536
  | 0, r, hr => by simp [full, remk, val, hr]
  | k + 1, r, hr => by
    obtain ⟨h1, h2⟩ := full_val k (r * 10 % 65536) (Nat.mod_lt _ (by omega))
    refine ⟨?_, h2⟩
    simp only [full, remk]
    rw [val_cons, full_length, Nat.add_mul, Nat.add_assoc, h1, Nat.pow_succ]
    have e : r * (10 ^ k * 10) = (r * 10) * 10 ^ k := by rw [Nat.mul_comm (10 ^ k) 10, Nat.mul_assoc]
    rw [e, Nat.mul_right_comm, ← Nat.add_mul, Nat.div_add_mod']
theorem fracD_zero (k : Nat) : fracD k 0 = [] := by cases k <;> simp [fracD]
theorem fracD_digits : ∀ k r, r < 65536 → ∀ d ∈ fracD k r, d < 10
  | 0, _, _, d, h => by simp [fracD] at h
  | k + 1, r, hr, d, h => by
    simp only [fracD] at h
    split at h
    · cases h
    · rcases List.mem_cons.1 h with rfl | h
      · omega
      · exact fracD_digits k _ (Nat.mod_lt _ (by omega)) d h
theorem fracD_length : ∀ k r, (fracD k r).length ≤ k
  | 0, _ => by simp [fracD]
  | k + 1, r => by
    simp only [fracD]
    split
    · simp
    · have := fracD_length k (r * 10 % 65536)
      simp; omega
def trimZ (l : List Nat) : List Nat := (l.reverse.dropWhile (· == 0)).reverse
theorem dropWhile_append_ {α : Type} (p : α → Bool) (a b : List α) : (a ++ b).dropWhile p = if a.dropWhile p = [] then b.dropWhile p else a.dropWhile p ++ b := by
  induction a with
  | nil => simp
  | cons x a ih =>
    simp only [List.cons_append, List.dropWhile_cons]
    split
    · exact ih
    · simp
theorem trimZ_cons (d : Nat) (l : List Nat) : trimZ (d :: l) = if trimZ l = [] ∧ d = 0 then [] else d :: trimZ l := by
  unfold trimZ
  rw [List.reverse_cons, dropWhile_append_]
  by_cases h : l.reverse.dropWhile (· == 0) = []
  · rw [if_pos h, h]
    by_cases hd : d = 0
    · subst hd; simp
    · simp [hd]
  · rw [if_neg h]
    simp [h]
theorem trimZ_full : ∀ k r, r < 65536 → remk k r = 0 → trimZ (full k r) = fracD k r
  | 0, _, _, _ => rfl
  | k + 1, r, hr, h => by
    have ih := trimZ_full k (r * 10 % 65536) (Nat.mod_lt _ (by omega)) h
    simp only [full, trimZ_cons, ih, fracD]
    by_cases h0 : r = 0
    · subst h0; simp [fracD_zero]
    · rw [if_neg h0, if_neg]
      rintro ⟨h1, h2⟩
      have h3 : r * 10 % 65536 = 0 := by
        cases k with
        | zero => simpa [remk] using h
        | succ k =>
          simp only [fracD] at h1
          split at h1
          · assumption
          · cases h1
      omega
theorem ten16 : (10 : Nat) ^ 16 = 152587890625 * 65536 := by decide
theorem rem_key (v m r : Nat) (h1 : v * 65536 + m = r * 10 ^ 16) (h2 : m < 65536) : m = 0 ∧ v = r * 152587890625 := by
  rw [ten16, ← Nat.mul_assoc] at h1
  obtain ⟨q, hq⟩ : ∃ q, q = r * 152587890625 := ⟨_, rfl⟩
  rw [← hq] at h1 ⊢
  omega
theorem rem16 (r : Nat) (hr : r < 65536) : remk 16 r = 0 ∧ val (full 16 r) = r * 152587890625 :=
  rem_key _ _ r (full_val 16 r hr).1 (full_val 16 r hr).2
theorem fracD_end : ∀ k r, r < 65536 → remk k r = 0 → r ≠ 0 → fracD k r ≠ []
  | 0, r, _, h, h0 => absurd h h0
  | k + 1, r, hr, h, h0 => by simp [fracD, h0]
theorem fracD_succ (k r : Nat) : fracD (k + 1) r = if r = 0 then [] else (r * 10 / 65536) :: fracD k (r * 10 % 65536) := rfl
theorem remk_succ (k r : Nat) : remk (k + 1) r = remk k (r * 10 % 65536) := rfl
theorem remk_zero (r : Nat) : remk 0 r = r := rfl
attribute [irreducible] full fracD remk

end Go.Proofs.YtekifiblehmafaaDoor.X
