/- obj.good and obj.all, told; obj.Good is colophonref05.Good. -/
import Derived.Test.YtckdgcpomkefpaaGreatDoorP5
set_option linter.unusedVariables false
set_option linter.unusedSimpArgs false
set_option maxRecDepth 100000
namespace Go.Proofs.YtckdgcpomkefpaaGreatDoor.En
open Go
noncomputable def finR (k : Nat) (ok : Bool) (left n1 : Int) (b1 : Bool) (s1 : ByteArray) (ks1 l1 : List Dat) : Option Out :=
  (bif ok then (bif fitB (k + 1) ks1 l1 then some (sm (k + 1) n1 b1 s1 ks1 l1) else none) else some false).bind fun t => aR t left
noncomputable def goodK (k : Nat) (k1 n1 : Int) (b1 : Bool) (s1 : ByteArray) (ks1 l1 : List Dat) (deep left : Int) : Option Out :=
  bif k1 == 0 then finR k true left n1 b1 s1 ks1 l1 else bif k1 == 1 then finR k true left n1 false s1 ks1 l1 else
  bif k1 == 2 then finR k (inB n1) left 0 b1 s1 ks1 l1 else bif k1 == 3 then andK (inB n1) ((n1.tmod 65536) != 0) fun t => finR k t left 0 b1 s1 ks1 l1 else
  bif k1 == 4 then finR k (namedB s1) left n1 b1 ⟨#[]⟩ ks1 l1 else bif k1 == 5 then finR k (decide ((s1.size : Int) ≤ 65536)) left n1 b1 ⟨#[]⟩ ks1 l1 else
  bif k1 == 6 then (bif decP (okA k l1 deep left) then finR k (allO (ogO k) l1 deep left).1 (allO (ogO k) l1 deep left).2 n1 b1 s1 ks1 [] else none) else
  bif k1 == 7 then (bif decP (okK ks1) then andK (keysR [] ks1) ((ks1.length : Int) == l1.length) fun t => bif (t == true) then (bif decP (okA k l1 deep left) then finR k (allO (ogO k) l1 deep left).1 (allO (ogO k) l1 deep left).2 n1 b1 s1 [] [] else none) else finR k false left n1 b1 s1 [] [] else none) else
  bif k1 == 8 then andK (decide (1 ≤ n1)) (decide (n1 ≤ 4096)) fun t => finR k t left 0 b1 s1 ks1 l1 else aR false left
theorem good_0 (k m : Nat) (k1 n1 : Int) (b1 : Bool) (s1 : ByteArray) (ks1 l1 : List Dat) (deep left : Int) : evFn PR TK (ogC2 k) m 44 [.agg (obA k1 n1 b1 s1 ks1 l1), I deep, .box 2 0] [none, none, some [I left]] =
    bif decide (W (left - 1) < 0) then aR false (W (left - 1)) else goodK k k1 n1 b1 s1 ks1 l1 deep (W (left - 1)) := by kernel_rfl
theorem sound_le0 {f : FuncId} {ent : List AV → Bx → Option (Bool × Out)} (h : ∀ xs bs out, ent xs bs = some (true, out) → False) : SoundCall PR (addF f ent fun _ _ _ => none) := fun g xs bs out ho => by
  unfold addF at ho
  cases hg : Nat.beq g f <;> rw [hg] at ho <;> simp only [cond_true, cond_false] at ho
  · cases ho
  · exact (h _ _ _ ho).elim
theorem ogI_bd {f : Dat → Int → Int → Bool × Int} (hf : ∀ d deep left, 0 ≤ left → (f d deep left).1 = true → 0 ≤ (f d deep left).2 ∧ (f d deep left).2 ≤ left) (deep : Int) : ∀ (l : List Dat) (left : Int), 0 ≤ left → (ogI f deep l left).1 = true → 0 ≤ (ogI f deep l left).2 ∧ (ogI f deep l left).2 ≤ left
  | [], left, h0, _ => ⟨h0, Int.le_refl _⟩
  | d :: l, left, h0, h => by
    unfold ogI at h ⊢
    cases hq : (f d (deep - 1) left).1
    · rw [hq] at h; cases h
    · rw [hq, Bool.not_true, cond_false] at h
      rw [Bool.not_true, cond_false]
      have h1 := hf d (deep - 1) left h0 hq
      have h2 := ogI_bd hf deep l _ h1.1 h
      omega
theorem allO_bd {f : Dat → Int → Int → Bool × Int} (hf : ∀ d deep left, 0 ≤ left → (f d deep left).1 = true → 0 ≤ (f d deep left).2 ∧ (f d deep left).2 ≤ left) (l : List Dat) (deep left : Int) (h0 : 0 ≤ left) (h : (allO f l deep left).1 = true) : 0 ≤ (allO f l deep left).2 ∧ (allO f l deep left).2 ≤ left := by
  unfold allO at h ⊢
  cases hd : decide (deep < 1)
  · rw [hd] at h; exact ogI_bd hf deep l left h0 h
  · rw [hd] at h; cases h
theorem ogO_bd : ∀ (k : Nat) (d : Dat) (deep left : Int), 0 ≤ left → (ogO k d deep left).1 = true → 0 ≤ (ogO k d deep left).2 ∧ (ogO k d deep left).2 ≤ left
  | 0, d, deep, left, _, h => by cases h
  | k + 1, d, deep, left, h0, h => by
    unfold ogO at h ⊢
    cases hc : decide (left - 1 < 0)
    · rw [hc, cond_false] at h
      rw [cond_false]
      have h1 : 0 ≤ left - 1 := by have := of_decide_eq_false hc; omega
      have key : ∀ (x : Bool × Int), (x.1 = true → 0 ≤ x.2 ∧ x.2 ≤ left - 1) → x.1 = true → 0 ≤ x.2 ∧ x.2 ≤ left := fun x hx hx1 => by have := hx hx1; omega
      refine key _ (fun h => ?_) h
      have pl : ∀ (b : Bool), (b, left - 1).1 = true → 0 ≤ (b, left - 1).2 ∧ (b, left - 1).2 ≤ left - 1 := fun b _ => ⟨h1, Int.le_refl _⟩
      have al : ∀ (b : Bool) (l : List Dat), (((allO (ogO k) l deep (left - 1)).1 && b, (allO (ogO k) l deep (left - 1)).2) : Bool × Int).1 = true → 0 ≤ (((allO (ogO k) l deep (left - 1)).1 && b, (allO (ogO k) l deep (left - 1)).2) : Bool × Int).2 ∧ (((allO (ogO k) l deep (left - 1)).1 && b, (allO (ogO k) l deep (left - 1)).2) : Bool × Int).2 ≤ left - 1 := fun b l hb => by
        have hb' : ((allO (ogO k) l deep (left - 1)).1 && b) = true := hb
        rw [Bool.and_eq_true] at hb'
        exact allO_bd (fun d deep left => ogO_bd k d deep left) l deep (left - 1) h1 hb'.1
      unfold ogS at h ⊢
      revert h
      generalize (d.at 0).toI = k1
      cases k1 == 0
      · cases k1 == 1
        · cases k1 == 2
          · cases k1 == 3
            · cases k1 == 4
              · cases k1 == 5
                · cases k1 == 6
                  · cases k1 == 7
                    · cases k1 == 8
                      · intro h; cases h
                      · exact pl _
                    · cases keysR [] (d.at 4).toL && (((d.at 4).toL.length : Int) == (d.at 5).toL.length)
                      · intro h; cases h
                      · exact al _ _
                  · exact al _ _
                · exact pl _
              · exact pl _
            · exact pl _
          · exact pl _
        · exact pl _
      · exact pl _
    · rw [hc] at h; cases h
theorem all_loop {k m : Nat} {l1 : List Dat} {deep : Int} (hd1 : 1 ≤ deep) (hd2 : deep ≤ 32) (hl : l1.length ≤ 1000000) (hk : ∀ d ∈ l1, fitO k (d.at 4).toL (d.at 5).toL) (hz : ∀ d ∈ l1, keyZ k (d.at 4).toL (d.at 5).toL) :
    ∀ (q i r : Nat) (left : Int), i + q = l1.length → q < r → 0 ≤ left → left ≤ 65536 → allL (ogC k) m r l1 deep left (i : Int) = aR (ogI (ogO k) deep (l1.drop i) left).1 (ogI (ogO k) deep (l1.drop i) left).2 := by
  intro q
  induction q with
  | zero =>
    intro i r left hi hr h1 h2
    cases r with
    | zero => omega
    | succ r =>
      rw [all_1, show decide ((i : Int) < l1.length) = false from decide_eq_false (by omega), cond_false, List.drop_eq_nil_of_le (by omega)]
      rfl
  | succ q ih =>
    intro i r left hi hr h1 h2
    cases r with
    | zero => omega
    | succ r =>
      have hlt : i < l1.length := by omega
      have hm := List.getElem_mem hlt
      have hok : okO' k (l1[i].at 4).toL (l1[i].at 5).toL (deep - 1) left := ⟨hk _ hm, hz _ hm, by omega, by omega, h1, h2⟩
      rw [all_1, show decide ((i : Int) < l1.length) = true from decide_eq_true (by omega), cond_true, idx_at hlt, Option.bind_some, W_in (n := deep - 1) (by omega), decP_eq hok, cond_true, ogO_nrm, W_in (n := (i : Int) + 1) (by omega), List.drop_eq_getElem_cons hlt]
      unfold ogI
      cases hq : (ogO k l1[i] (deep - 1) left).1
      · rfl
      · have hb := ogO_bd k l1[i] (deep - 1) left h1 hq
        have ih := ih (i + 1) r (ogO k l1[i] (deep - 1) left).2 (by omega) (by omega) hb.1 (by omega)
        rw [show ((i + 1 : Nat) : Int) = (i : Int) + 1 by omega] at ih
        rw [Bool.not_true, cond_false, cond_false, ih]
theorem all_run {k m : Nat} {l1 : List Dat} {deep left : Int} (h : okA k l1 deep left) (hm : 1000000 < m) :
    evFn PR TK (ogC k) m 64 [.row none 43 l1, I deep, .box 2 0] [none, none, some [I left]] = aR (allO (ogO k) l1 deep left).1 (allO (ogO k) l1 deep left).2 := by
  obtain ⟨⟨h1, h2, h3⟩, h4, h5, h6, h7⟩ := h
  rw [all_0]
  unfold allO
  by_cases hd : deep < 1
  · rw [decide_eq_true hd]; rfl
  · have e := all_loop (k := k) (m := m) (deep := deep) (by omega) h5 h1 h2 h3 l1.length 0 m left (by omega) (by omega) h6 h7
    rw [List.drop_zero, show ((0 : Nat) : Int) = 0 from rfl] at e
    rw [decide_eq_false hd, cond_false, cond_false, e]
theorem finR_eq {k : Nat} {ks1 l1 : List Dat} (h : fitO (k + 1) ks1 l1) (ok : Bool) (left n1 : Int) (b1 : Bool) (s1 : ByteArray) : finR k ok left n1 b1 s1 ks1 l1 = aR (ok && sm (k + 1) n1 b1 s1 ks1 l1) left := by
  unfold finR
  rw [fitB_eq h]
  cases ok <;> rfl
theorem good_run {k m : Nat} {k1 n1 : Int} {b1 : Bool} {s1 : ByteArray} {ks1 l1 : List Dat} {deep left : Int} (h : okO' (k + 1) ks1 l1 deep left) :
    evFn PR TK (ogC2 k) m 44 [.agg (obA k1 n1 b1 s1 ks1 l1), I deep, .box 2 0] [none, none, some [I left]] = aR (ogO (k + 1) (mkO k1 n1 b1 s1 ks1 l1) deep left).1 (ogO (k + 1) (mkO k1 n1 b1 s1 ks1 l1) deep left).2 := by
  obtain ⟨hfit, ⟨z1, z2⟩, h3, h4, h5, h6⟩ := h
  have hfit' := hfit
  obtain ⟨f1, f2, f3⟩ := hfit'
  have hfa : fitO (k + 1) ks1 [] := ⟨f1, by simp, fun d hd => by cases hd⟩
  have hfb : fitO (k + 1) [] [] := ⟨by simp, by simp, fun d hd => by cases hd⟩
  rw [good_0, W_in (n := left - 1) (by omega)]
  show _ = aR (bif decide (left - 1 < 0) then (false, left - 1) else ogS (k + 1) (ogO k) k1 n1 b1 s1 ks1 l1 deep (left - 1)).1 (bif decide (left - 1 < 0) then (false, left - 1) else ogS (k + 1) (ogO k) k1 n1 b1 s1 ks1 l1 deep (left - 1)).2
  by_cases hl : left - 1 < 0
  · rw [decide_eq_true hl]; rfl
  · have hA : okA k l1 deep (left - 1) := ⟨⟨f2, f3, z2⟩, h3, h4, by omega, by omega⟩
    have hK : okK ks1 := ⟨f1, z1⟩
    rw [decide_eq_false hl, cond_false, cond_false]
    unfold goodK ogS
    rw [decP_eq hA, decP_eq hK]
    simp only [andK_eq, finR_eq hfit, finR_eq hfa, finR_eq hfb, cond_true]
    cases k1 == 0
    · cases k1 == 1
      · cases k1 == 2
        · cases k1 == 3
          · cases k1 == 4
            · cases k1 == 5
              · cases k1 == 6
                · cases k1 == 7
                  · cases k1 == 8 <;> rfl
                  · cases keysR [] ks1 && ((ks1.length : Int) == l1.length) <;> rfl
                · rfl
              · rfl
            · rfl
          · rfl
        · rfl
      · rfl
    · rfl
theorem og_sound : ∀ k, SoundCall PR (ogC k)
  | 0 => sound_both (sound_le0 fun xs bs out h => by
      unfold ogE at h
      split at h
      · injection h with h
        injection h with h _
        exact (decP_of h).1
      · cases h) sound_none
  | k + 1 => by
    have ih := og_sound k
    have hall : SoundCall PR (addF 64 (allE k) (ogC k)) := sound_add (takes := TK) hmixP ih _ (fn := (PR.funcs[64]?).getD default) (by kernel_rfl) (by kernel_rfl) (allE k) fun xs bs out h => by
      unfold allE at h
      split at h
      · injection h with h
        injection h with h1 h2
        subst h2
        exact ⟨1000001, all_run (decP_of h1) (by omega)⟩
      · cases h
    have h2 : SoundCall PR (ogC2 k) := sound_both hall (osame_sound (keyed_sound (named_sound (in_sound sound_none))) (k + 1))
    refine sound_both (sound_add (takes := TK) hmixP h2 _ (fn := (PR.funcs[44]?).getD default) (by kernel_rfl) (by kernel_rfl) (ogE (k + 1)) fun xs bs out h => ?_) sound_none
    unfold ogE at h
    split at h
    · injection h with h
      injection h with h1 h2
      subst h2
      exact ⟨1, good_run (decP_of h1)⟩
    · cases h
noncomputable def GoodE : List AV → Bx → Option (Bool × Out)
  | [.agg [.v (.int .i64 k1), .v (.bool b1), .v (.int .i64 n1), .v (.string s1), .row none 9 ks1, .row none 43 l1]], [none] =>
    some (decP (okO' 101 ks1 l1 32 65536), .ret (B (ogO 101 (mkO k1 n1 b1 s1 ks1 l1) 32 65536).1) [none])
  | _, _ => none
theorem Good_0 (m : Nat) (k1 n1 : Int) (b1 : Bool) (s1 : ByteArray) (ks1 l1 : List Dat) : evFn PR TK (ogC 101) m 24 [.agg (obA k1 n1 b1 s1 ks1 l1)] [none] =
  bif decP (okO' 101 ks1 l1 32 65536) then some (.ret (B (ogO 101 (mkO k1 n1 b1 s1 ks1 l1) 32 65536).1) [none]) else none := by kernel_rfl
theorem Good_sound : SoundCall PR (addF 24 GoodE fun _ _ _ => none) := by
  refine sound_both (sound_add (takes := TK) hmixP (og_sound 101) _ (fn := (PR.funcs[24]?).getD default) (by kernel_rfl) (by kernel_rfl) GoodE fun xs bs out h => ?_) sound_none
  unfold GoodE at h
  split at h
  · injection h with h
    injection h with h1 h2
    subst h2
    refine ⟨1, (Good_0 _ _ _ _ _ _ _).trans ?_⟩
    rw [h1]; rfl
  · cases h
end Go.Proofs.YtckdgcpomkefpaaGreatDoor.En
