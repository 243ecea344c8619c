/- colophonlaw05.ObjGets is true of every object. -/
import Derived.Test.YtckdgcpomkefpaaGreatDoorO3
import Derived.Test.YtckdgcpomkefpaaGreatDoorC2
set_option linter.unusedVariables false
set_option linter.unusedSimpArgs false
set_option maxRecDepth 100000
namespace Go.Proofs.YtckdgcpomkefpaaGreatDoor.En
open Go
theorem itemsN_all {f : Dat → Int → Int} : ∀ (l : List Dat) (n : Int), 0 ≤ itemsN f l n → ∀ d ∈ l, ∃ n', 0 ≤ n' ∧ 0 ≤ f d n'
  | [], n, _, d, hd => by cases hd
  | e :: l, n, h, d, hd => by
    have h' : 0 ≤ (bif decide (n ≥ 0) then itemsN f l (f e n) else n) := h
    by_cases hn : n ≥ 0
    · rw [decide_eq_true hn] at h'
      rcases List.mem_cons.1 hd with rfl | hd
      · refine ⟨n, hn, ?_⟩
        rcases Int.lt_or_le (f d n) 0 with hneg | hpos
        · have : itemsN f l (f d n) = f d n ∨ l = [] := by
            cases l with
            | nil => exact .inr rfl
            | cons a l =>
              left
              show (bif decide (f d n ≥ 0) then _ else _) = _
              rw [decide_eq_false (by omega)]; rfl
          rcases this with e | e
          · rw [cond_true, e] at h'; exact h'
          · subst e; exact h'
        · exact hpos
      · exact itemsN_all l _ h' d hd
    · rw [decide_eq_false hn, cond_false] at h'
      exact absurd h' hn
theorem large_fit : ∀ (j k : Nat) (d : Dat) (nest ahead : Int), nest + j = 101 → 0 ≤ nest → 0 ≤ ahead → 0 ≤ largeO k d nest ahead → 0 < j ∧ fitO j (d.at 4).toL (d.at 5).toL
  | j, 0, d, nest, ahead, _, _, _, h => by simp [largeO] at h
  | 0, k + 1, d, nest, ahead, hj, _, ha, h => by
    unfold largeO at h
    rw [show decide (nest > 100) = true from decide_eq_true (by simp at hj; omega), Bool.or_true] at h
    simp at h
  | j + 1, k + 1, d, nest, ahead, hj, hn, ha, h => by
    unfold largeO at h
    cases hc : decide (headN (d.at 3).toS (d.at 4).toL (d.at 5).toL ahead > 2000) || decide (nest > 100)
    · rw [hc, cond_false] at h
      rw [Bool.or_eq_false_iff] at hc
      have c1 := of_decide_eq_false hc.1
      rw [headN_eq] at c1
      refine ⟨by omega, by omega, by omega, fun e he => ?_⟩
      obtain ⟨n', h1, h2⟩ := itemsN_all _ _ h e he
      exact (large_fit j k e (nest + 1) n' (by push_cast at hj; omega) (by omega) h1 h2).2
    · rw [hc] at h
      simp at h
theorem keysEq_refl : ∀ l : List Dat, keysEq l l = true
  | [] => rfl
  | d :: l => by rw [keysEq, keysEq_refl l]; simp
theorem sameO_copy : ∀ (k : Nat) (d : Dat), fitO k (d.at 4).toL (d.at 5).toL → sameO k (copyO k d) d = true
  | 0, d, h => h.elim
  | k + 1, d, h => by
    obtain ⟨h1, h2, h3⟩ := h
    have hl : ∀ l : List Dat, (∀ e ∈ l, fitO k (e.at 4).toL (e.at 5).toL) → allEq (sameO k) (l.map (copyO k)) l = true := fun l => by
      induction l with
      | nil => intro _; rfl
      | cons e l ih =>
        intro hl
        rw [List.map_cons, allEq, sameO_copy k e (hl e (by simp)), ih fun x hx => hl x (by simp [hx])]
        rfl
    show (((d.at 0).toI == (d.at 0).toI) && (((d.at 1).toB == (d.at 1).toB) && (((d.at 2).toI == (d.at 2).toI) && (((d.at 3).toS.toList == (d.at 3).toS.toList) && (keysEq (d.at 4).toL (d.at 4).toL && allEq (sameO k) ((d.at 5).toL.map (copyO k)) (d.at 5).toL))))) = true
    rw [hl _ h3, keysEq_refl]
    simp
theorem fitO_copy : ∀ (k : Nat) (d : Dat), fitO k (d.at 4).toL (d.at 5).toL → fitO k ((copyO k d).at 4).toL ((copyO k d).at 5).toL
  | 0, d, h => h
  | k + 1, d, h => by
    obtain ⟨h1, h2, h3⟩ := h
    refine ⟨h1, by show ((d.at 5).toL.map (copyO k)).length ≤ _; rw [List.length_map]; exact h2, fun e he => ?_⟩
    have he' : e ∈ (d.at 5).toL.map (copyO k) := he
    obtain ⟨x, hx, rfl⟩ := List.mem_map.1 he'
    exact fitO_copy k x (h3 x hx)
theorem getO_map (f : Dat → Dat) (ks l : List Dat) (key : ByteArray) : getO ks (l.map f) key = (getO ks l key).map f := by
  unfold getO
  cases findK key ks 0 with
  | none => rfl
  | some i => rw [Option.bind_some, Option.bind_some, List.getElem?_map]
theorem getO_mem {ks l : List Dat} {key : ByteArray} {d : Dat} (h : getO ks l key = some d) : d ∈ l := by
  unfold getO at h
  obtain ⟨i, _, h2⟩ := Option.bind_eq_some_iff.1 h
  exact List.mem_of_getElem? h2
/-! ### Large -/
noncomputable def LargeE : List AV → Bx → Option (Bool × Out)
  | [.agg [.v (.int .i64 k1), .v (.bool b1), .v (.int .i64 n1), .v (.string s1), .row none 9 ks1, .row none 43 l1]], [none] =>
    some (zB 102 s1 ks1 l1 0 0, .ret (B (decide (largeO 102 (mkO k1 n1 b1 s1 ks1 l1) 0 0 < 0))) [none])
  | _, _ => none
theorem Large_0 (ext : CallF) (m : Nat) (k1 n1 : Int) (b1 : Bool) (s1 : ByteArray) (ks1 l1 : List Dat) : evFn PR TK (largeC 102 ext) m 22 [.agg (obA k1 n1 b1 s1 ks1 l1)] [none] =
  bif zB 102 s1 ks1 l1 0 0 then some (.ret (B (decide (largeO 102 (mkO k1 n1 b1 s1 ks1 l1) 0 0 < 0))) [none]) else none := by kernel_rfl
theorem Large_sound : SoundCall PR (addF 22 LargeE (largeC 102 fun _ _ _ => none)) := by
  refine sound_add (takes := TK) hmixP (large_sound sound_none 102) _ (fn := (PR.funcs[22]?).getD default) (by kernel_rfl) (by kernel_rfl) LargeE fun xs bs out h => ?_
  unfold LargeE at h
  split at h
  · injection h with h
    injection h with h1 h2
    subst h2
    refine ⟨1, (Large_0 _ _ _ _ _ _ _ _).trans ?_⟩
    rw [h1]; rfl
  · cases h
/-! ### the law -/
/-- Told of the one or of the other. -/
theorem sound_both {f : FuncId} {ent : List AV → Bx → Option (Bool × Out)} {a b : CallF} (ha : SoundCall PR (addF f ent a)) (hb : SoundCall PR b) : SoundCall PR (addF f ent b) := fun g xs bs out ho => by
  unfold addF at ho
  cases hg : Nat.beq g f <;> rw [hg] at ho <;> simp only [cond_true, cond_false] at ho
  · exact hb g xs bs out ho
  · refine ha g xs bs out ?_
    unfold addF
    rw [hg]; exact ho
noncomputable def callG : CallF := addF 23 wakesE (addF 22 LargeE (addF 25 (copyE 101) (addF 35 getE (addF 36 getE (addF 28 (sameE 100) fun _ _ _ => none)))))
theorem callG_sound : SoundCall PR callG :=
  sound_both wakes_sound (sound_both Large_sound (sound_both (copy_sound sound_none 101) (sound_both (oget_sound sound_none) (sound_both (rget_sound sound_none) (same_sound sound_none 100)))))
section
variable (m : Nat) (k1 n1 : Int) (b1 : Bool) (s1 key : ByteArray) (ks1 l1 : List Dat)
def getX (k1 : Int) (ks1 l1 : List Dat) (key : ByteArray) : Option Dat := bif k1 == 7 then getO ks1 l1 key else none
theorem gets_0 : evFn PR TK callG m 11 [.agg (obA k1 n1 b1 s1 ks1 l1), S key] [none, none] =
  bif zB 102 s1 ks1 l1 0 0 then (bif decide (largeO 102 (mkO k1 n1 b1 s1 ks1 l1) 0 0 < 0) then some (.ret (B true) [none, none]) else
    bif fitB 101 ks1 l1 then (bif (Nat.ble ks1.length 1000000 && Nat.ble (l1.map (copyO 100)).length 1000000) then (bif (Nat.ble ks1.length 1000000 && Nat.ble l1.length 1000000) then
      (bif ((getX k1 ks1 (l1.map (copyO 100)) key).isSome == (getX k1 ks1 l1 key).isSome) then
        (bif fitB 100 (((getX k1 ks1 (l1.map (copyO 100)) key).getD zeroO).at 4).toL (((getX k1 ks1 (l1.map (copyO 100)) key).getD zeroO).at 5).toL then
          some (sameO 100 (nrm ((getX k1 ks1 (l1.map (copyO 100)) key).getD zeroO)) (nrm ((getX k1 ks1 l1 key).getD zeroO))) else none) else some false).bind fun t =>
        (bif t then some true else some false).bind fun t => some (.ret (B t) [none, none]) else none) else none) else none) else none := by kernel_rfl
end
theorem getX_map (k1 : Int) (ks1 l1 : List Dat) (key : ByteArray) (f : Dat → Dat) : getX k1 ks1 (l1.map f) key = (getX k1 ks1 l1 key).map f := by
  unfold getX
  cases (k1 == 7)
  · rfl
  · exact getO_map f ks1 l1 key
theorem gets_run {k1 n1 : Int} {b1 : Bool} {s1 key : ByteArray} {ks1 l1 : List Dat} (hz : ∀ k, fitZ k s1 ks1 l1) : evFn PR TK callG 1 11 [.agg (obA k1 n1 b1 s1 ks1 l1), S key] [none, none] = some (.ret (B true) [none, none]) := by
  rw [gets_0]
  have h0 : zB 102 s1 ks1 l1 0 0 = true := decP_eq ⟨by decide, by decide, by decide, by decide, by decide, hz 102⟩
  rw [h0, cond_true]
  cases hL : decide (largeO 102 (mkO k1 n1 b1 s1 ks1 l1) 0 0 < 0)
  · have hL := of_decide_eq_false hL
    have hf : fitO 101 ks1 l1 := (large_fit 101 102 (mkO k1 n1 b1 s1 ks1 l1) 0 0 (by decide) (by decide) (by decide) (by omega)).2
    have hf' := hf
    obtain ⟨f1, f2, f3⟩ := hf
    have e1 : Nat.ble ks1.length 1000000 = true := Nat.ble_eq_true_of_le f1
    have e2 : Nat.ble l1.length 1000000 = true := Nat.ble_eq_true_of_le f2
    rw [cond_false, fitB_eq hf', List.length_map, e1, e2, getX_map]
    simp only [cond_true, Bool.and_self]
    have hzero : fitO 100 (zeroO.at 4).toL (zeroO.at 5).toL := ⟨by decide, by decide, fun d hd => by cases hd⟩
    cases hg : getX k1 ks1 l1 key with
    | none =>
      simp only [Option.map_none, Option.getD_none, Option.isSome_none]
      rw [fitB_eq hzero, sameO_nrm]
      have : sameO 100 zeroO zeroO = true := sameO_copy 100 zeroO hzero
      rw [this]; rfl
    | some d =>
      have hd : d ∈ l1 := by
        unfold getX at hg
        cases hk : (k1 == 7) <;> rw [hk] at hg
        · cases hg
        · exact getO_mem hg
      simp only [Option.map_some, Option.getD_some, Option.isSome_some]
      rw [fitB_eq (fitO_copy 100 d (f3 d hd)), sameO_nrm, sameO_copy 100 d (f3 d hd)]
      rfl
  · rfl
end Go.Proofs.YtckdgcpomkefpaaGreatDoor.En
