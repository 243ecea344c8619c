/- A region that draws its order: evaluated in the text's order. -/
import Derived.Test.YtckdgcpomkefpaaGreatDoorEn18
import Derived.Orders
set_option linter.unusedVariables false
set_option linter.unusedSimpArgs false
namespace Go.Proofs.YtckdgcpomkefpaaGreatDoor.En
open Go
def drawnOk (P : Program) (ops : List Oper) : Bool :=
  let ms := masks ops []
  (List.range ops.length).all fun j => match ops[j]? with
    | some y => y.after.toList.all (fun e => !Region.binds .any e || Nat.blt e.on j) &&
        (List.range j).all fun i => (ms.getD j 0).testBit i || (match ops[i]? with | some x => pairOk P ops x y || pairDyn P ops i j x y | none => true)
    | none => true
section
variable {P : Program} {F : Fx} {np : Nat} {takes : FuncId → Option Nat} {call : CallF} {ops : List Oper}

/-! ### who waits for whom -/
theorem masks_spec : ∀ (l : List Oper) (ms : List Nat), ∃ ext, masks l ms = ms ++ ext ∧ ext.length = l.length ∧ ∀ (k : Nat) o, l[k]? = some o → (masks l ms)[ms.length + k]? = some (maskOf o ((masks l ms).take (ms.length + k)))
  | [], ms => ⟨[], by simp [masks], rfl, fun k o h => by simp at h⟩
  | o :: l, ms => by
    obtain ⟨ext, h1, h2, h3⟩ := masks_spec l (ms ++ [maskOf o ms])
    have he : masks (o :: l) ms = ms ++ (maskOf o ms :: ext) := by
      show masks l (ms ++ [maskOf o ms]) = _
      rw [h1]; simp
    refine ⟨maskOf o ms :: ext, he, by simp [h2], fun k o' hk => ?_⟩
    cases k with
    | zero =>
      simp at hk
      subst hk
      rw [he]
      simp
    | succ k =>
      have := h3 k o' (by simpa using hk)
      rw [show (ms ++ [maskOf o ms]).length + k = ms.length + (k + 1) by simp; omega] at this
      exact this
theorem mask_bits {o : Oper} {ms : List Nat} {i : Nat} (h : (maskOf o ms).testBit i = true) : ∃ e ∈ o.after.toList, Region.binds .any e = true ∧ (i = e.on ∨ (ms.getD e.on 0).testBit i = true) := by
  unfold maskOf at h
  have gen : ∀ (l : List Edge) (m : Nat), (l.foldl (fun m e => bif Region.binds .any e then m ||| (2 ^ e.on ||| ms.getD e.on 0) else m) m).testBit i = true →
      m.testBit i = true ∨ ∃ e ∈ l, Region.binds .any e = true ∧ (i = e.on ∨ (ms.getD e.on 0).testBit i = true) := by
    intro l
    induction l with
    | nil => intro m h; exact .inl h
    | cons e l ih =>
      intro m h
      rw [List.foldl_cons] at h
      rcases ih _ h with h1 | ⟨e', he', h2⟩
      · cases hb : Region.binds .any e <;> rw [hb] at h1 <;> simp only [cond_true, cond_false] at h1
        · exact .inl h1
        · rw [Nat.testBit_or, Nat.testBit_or, Bool.or_eq_true, Bool.or_eq_true] at h1
          rcases h1 with h1 | h1 | h1
          · exact .inl h1
          · rw [Nat.testBit_two_pow] at h1
            exact .inr ⟨e, by simp, hb, .inl (show e.on = i by simpa using h1).symm⟩
          · exact .inr ⟨e, by simp, hb, .inr h1⟩
      · exact .inr ⟨e', by simp [he'], h2⟩
  rcases gen _ 0 h with h1 | h1
  · simp at h1
  · exact h1
def Closed (ops : List Oper) (listed : Array Bool) : Prop := ∀ (k : Nat) o, ops[k]? = some o → listed.getD k false = true → ∀ e ∈ o.after.toList, Region.binds .any e = true → listed.getD e.on false = true
theorem waits_listed {listed : Array Bool} (hs : ∀ (j : Nat) o, ops[j]? = some o → ∀ e ∈ o.after.toList, Region.binds .any e = true → e.on < j) (hc : Closed ops listed) :
    ∀ (j : Nat) o, ops[j]? = some o → (∀ e ∈ o.after.toList, Region.binds .any e = true → listed.getD e.on false = true) → ∀ i, ((masks ops []).getD j 0).testBit i = true → listed.getD i false = true := by
  intro j
  induction j using Nat.strongRecOn with
  | _ j ih =>
    intro o ho hd i hi
    obtain ⟨ext, h1, h2, h3⟩ := masks_spec ops []
    have hj := h3 j o ho
    rw [List.length_nil, Nat.zero_add] at hj
    rw [List.getD_eq_getElem?_getD, hj, Option.getD_some] at hi
    obtain ⟨e, he, hb, hi⟩ := mask_bits hi
    rcases hi with rfl | hi
    · exact hd e he hb
    · have hlt := hs j o ho e he hb
      have hjl := (List.getElem?_eq_some_iff.1 ho).1
      obtain ⟨o', ho'⟩ : ∃ o', ops[e.on]? = some o' := ⟨_, List.getElem?_eq_getElem (by omega)⟩
      refine ih e.on hlt o' ho' (fun e' he' hb' => hc e.on o' ho' (hd e he hb) e' he' hb') i ?_
      rw [List.getD_eq_getElem?_getD, List.getElem?_take, if_pos hlt] at hi
      rw [List.getD_eq_getElem?_getD]
      exact hi

/-! ### runs by number -/
def stI (P : Program) (np : Nat) (takes : FuncId → Option Nat) (call : CallF) (ops : List Oper) (i : Nat) (s : St) : Option (St ⊕ Value) := match ops[i]? with | some o => stO P np true takes call ops o s | none => some (.inl s)
def runI (P : Program) (np : Nat) (takes : FuncId → Option Nat) (call : CallF) (ops : List Oper) : List Nat → St → Option (St ⊕ Value)
  | [], s => some (.inl s)
  | i :: l, s => thenR (stI P np takes call ops i s) (runI P np takes call ops l)
theorem runI_range : ∀ (l : List Oper) (k : Nat) (s : St), (∀ j, j < l.length → l[j]? = ops[k + j]?) → runI P np takes call ops (List.range' k l.length) s = runO P np true takes call ops l s
  | [], k, s, _ => rfl
  | o :: l, k, s, h => by
    have h0 : ops[k]? = some o := by simpa using (h 0 (by simp)).symm
    simp only [List.length_cons, List.range'_succ, runI, runO, stI, h0]
    congr 1
    funext s'
    exact runI_range l (k + 1) s' (fun j hj => by have := h (j + 1) (by simp; omega); simpa [Nat.add_assoc, Nat.add_comm 1 j] using this)
theorem evX_thr {β : Type} {thr thr' : Value → Option β} {o : Oper} {s : St} {k : St → Option β} (h : isThr o = false) : evX P np takes call thr o s k = evX P np takes call thr' o s k := by
  obtain ⟨dst, op, ty, pos, after, guard⟩ := o
  unfold evX
  simp only [appendK_eq]
  (try dsimp only)
  split <;> first | rfl | (exact Bool.noConfusion h)
theorem stO_thr {o : Oper} {s : St} {v : Value} (h : stO P np true takes call ops o s = some (.inr v)) : isThr o = true := by
  cases hi : isThr o with
  | true => rfl
  | false =>
    unfold stO at h
    have h' := Option.bind_eq_some_iff.1 h
    clear h
    obtain ⟨wn, _, h⟩ := h'
    cases wn
    · cases h
    · simp only [cond_true] at h
      unfold stE at h
      rw [evOp_def] at h
      cases hr : reads P o.op <;> rw [hr] at h <;> simp only [cond_true, cond_false] at h
      · cases hb : true && bsOp o <;> rw [hb] at h <;> simp only [cond_true, cond_false] at h
        · have e1 := evX_st (P := P) (np := np) (takes := takes) (call := call) (β := St ⊕ Value) (fun _ => none) o s (fun s => some (.inl s))
          rw [h] at e1
          rw [evX_thr (thr' := fun _ => none) hi] at h
          rw [h] at e1
          cases e1
        · obtain ⟨x, _, e⟩ := Option.bind_eq_some_iff.1 h
          cases e
      · obtain ⟨x, _, e⟩ := Option.bind_eq_some_iff.1 h
        cases e

theorem runI_thr : ∀ (l : List Nat) (s : St) (v : Value), runI P np takes call ops l s = some (.inr v) → ∃ i ∈ l, thrAt ops i = true
  | [], s, v, h => by cases h
  | i :: l, s, v, h => by
    simp only [runI] at h
    cases hi : stI P np takes call ops i s with
    | none => rw [hi] at h; cases h
    | some r1 =>
      rw [hi] at h
      cases r1 with
      | inr v' =>
        refine ⟨i, by simp, ?_⟩
        unfold stI at hi
        unfold thrAt
        cases ho : ops[i]? with
        | none => rw [ho] at hi; cases hi
        | some o => rw [ho] at hi; exact stO_thr hi
      | inl s1 =>
        obtain ⟨k, hk, ht⟩ := runI_thr l s1 v h
        exact ⟨k, by simp [hk], ht⟩
theorem runI_keep {z : Operand} (ha : ops.all (fun o => wOp P o || xOp P o || (ptrCall P o).isSome || isStore o) = true) : ∀ (l : List Nat) (s s' : St), (∀ k ∈ l, ∀ o, ops[k]? = some o → ∀ t, z = .tmp t → o.dst ≠ some t) → runI P np takes call ops l s = some (.inl s') → boxOf (s'.ev z) = boxOf (s.ev z)
  | [], s, s', _, h => by cases h; rfl
  | i :: l, s, s', hk, h => by
    simp only [runI] at h
    cases hi : stI P np takes call ops i s with
    | none => rw [hi] at h; cases h
    | some r1 =>
      rw [hi] at h
      cases r1 with
      | inr v' => cases h
      | inl s1 =>
        rw [runI_keep ha l s1 s' (fun k hm => hk k (by simp [hm])) h]
        unfold stI at hi
        cases ho : ops[i]? with
        | none => rw [ho] at hi; cases hi; rfl
        | some o =>
          rw [ho] at hi
          exact boxOf_keep (List.all_eq_true.1 ha o (List.mem_of_getElem? ho)) hi (hk i (by simp) o ho)
theorem lc_looks {x y : Oper} {p : Operand × List Operand} (h : lcOf P x y = some p) : (loadOf x = some p.1 ∧ ptrCall P y = some p.2) ∨ (loadOf y = some p.1 ∧ ptrCall P x = some p.2) := by
  unfold lcOf at h
  cases hx : loadOf x with
  | some a =>
    rw [hx] at h
    obtain ⟨xs, h1, rfl⟩ := Option.map_eq_some_iff.1 h
    exact .inl ⟨rfl, h1⟩
  | none =>
    rw [hx] at h
    obtain ⟨a, h1, h2⟩ := Option.bind_eq_some_iff.1 h
    obtain ⟨xs, h3, rfl⟩ := Option.map_eq_some_iff.1 h2
    exact .inr ⟨h1, h3⟩
theorem load_looks {x : Oper} {a : Operand} (h : loadOf x = some a) {t : Nat} (e : a = .tmp t) : t ∈ looks ops x := by
  obtain ⟨dst, op, ty, pos, after, guard⟩ := x
  unfold loadOf at h
  dsimp only at h
  split at h
  · cases h; subst e; exact looks_of (by simp [Op.operands])
  · cases h
theorem call_looks {y : Oper} {xs : List Operand} (h : ptrCall P y = some xs) {z : Operand} (hz : z ∈ xs) {t : Nat} (e : z = .tmp t) : t ∈ looks ops y := ptr_looks h hz e
theorem apart_of {i j : Nat} {x y : Oper} (h : pairOk P ops x y = true ∨ pairDyn P ops i j x y = true) : apartB ops x y = true := by
  rcases h with h | h
  · unfold pairOk at h
    rw [Bool.and_eq_true] at h
    exact h.1
  · unfold pairDyn at h
    simp only [Bool.and_eq_true] at h
    exact h.1.1
theorem bubble {j : Nat} {y : Oper} (hy : ops[j]? = some y) (C : List Nat) (r : St ⊕ Value) (hC : ∀ k ∈ C, j < k) (hend : ∀ s', r = .inl s' → ∀ i x p, i < j → ops[i]? = some x → ((masks ops []).getD j 0).testBit i = false → pairOk P ops x y = false → lcOf P x y = some p → aparts s' p = true) : ∀ (A : List Nat) (s : St), A.Pairwise (· < ·) →
    (∀ i ∈ A, i < j ∧ ((masks ops []).getD j 0).testBit i = false ∧ ∃ x, ops[i]? = some x ∧ (pairOk P ops x y = true ∨ pairDyn P ops i j x y = true)) →
    (∀ v, r = .inr v → ∀ i ∈ A, thrAt ops i = false) → runI P np takes call ops (A ++ j :: C) s = some r → runI P np takes call ops (j :: (A ++ C)) s = some r
  | [], s, _, _, _, h => h
  | i :: A, s, hpw, hp, ht, h => by
    obtain ⟨hij, hmk, x, hx, hxy⟩ := hp i (by simp)
    have h0 := h
    simp only [List.cons_append, runI] at h
    rw [List.pairwise_cons] at hpw
    cases hi : stI P np takes call ops i s with
    | none => rw [hi] at h; cases h
    | some r1 =>
      rw [hi] at h
      cases r1 with
      | inr v =>
        cases h
        have h1 := ht v rfl i (by simp)
        unfold thrAt at h1
        unfold stI at hi
        rw [hx] at h1 hi
        have h2 := stO_thr hi
        dsimp only at h1
        rw [h1] at h2
        cases h2
      | inl s1 =>
        have ih := bubble hy C r hC hend A s1 hpw.2 (fun i hi => hp i (by simp [hi])) (fun v e i hi => ht v e i (by simp [hi])) h
        simp only [runI] at ih
        have hi' : stO P np true takes call ops x s = some (.inl s1) := by unfold stI at hi; rw [hx] at hi; exact hi
        have ej : ∀ s, stI P np takes call ops j s = stO P np true takes call ops y s := fun s => by unfold stI; rw [hy]
        have ei : ∀ s, stI P np takes call ops i s = stO P np true takes call ops x s := fun s => by unfold stI; rw [hx]
        rw [ej] at ih
        cases hj : stO P np true takes call ops y s1 with
        | none => rw [hj] at ih; cases ih
        | some r2 =>
          rw [hj] at ih
          have hD : (∀ s2, r2 = .inl s2 → ∃ s3, stO P np true takes call ops y s = some (.inl s3) ∧ stO P np true takes call ops x s3 = some (.inl s2)) ∧ (∀ v, r2 = .inr v → stO P np true takes call ops y s = some (.inr v)) := by
            cases hpo : pairOk P ops x y with
            | true => exact diamond hpo hi' hj
            | false =>
              have hdy : pairDyn P ops i j x y = true := by
                rcases hxy with h1 | h1
                · rw [hpo] at h1; cases h1
                · exact h1
              have hap := apart_of (P := P) (.inr hdy)
              unfold pairDyn at hdy
              simp only [Bool.and_eq_true, Bool.or_eq_true] at hdy
              obtain ⟨⟨_, hdw⟩, hrest⟩ := hdy
              unfold dynW at hdw
              simp only [Bool.and_eq_true, Bool.or_eq_true] at hdw
              cases hlc : lcOf P x y with
              | none =>
                rcases hdw with ⟨w1, w2⟩ | ⟨w1, w2⟩
                · obtain ⟨xs, hxs⟩ := Option.isSome_iff_exists.1 w2
                  refine diamond_wp w1 hxs hap (fun s2 e a ha => ?_) hi' hj
                  unfold lcOf at hlc
                  rw [ha, hxs] at hlc
                  cases hlc
                · obtain ⟨xs, hxs⟩ := Option.isSome_iff_exists.1 w2
                  refine diamond_pw hxs w1 hap (fun s2 e a ha => ?_) hi' hj
                  unfold lcOf at hlc
                  rw [ptr_load hxs, ha, hxs] at hlc
                  cases hlc
              | some p =>
              rw [hlc] at hrest
              have hrest := hrest.resolve_left (by simp)
              obtain ⟨⟨⟨hfi, hfj⟩, hcalm⟩, hnost⟩ := hrest
              unfold calm at hcalm
              rw [Bool.and_eq_true] at hcalm
              obtain ⟨hall, huniq⟩ := hcalm
              have fixed : ∀ (m : Nat) (o : Oper), fixedAt ops m o = true → ∀ k, m ≤ k → ∀ o', ops[k]? = some o' → ∀ t, t ∈ looks ops o → o'.dst ≠ some t := fun m o hf k hk o' ho' t ht e => by
                unfold fixedAt at hf
                have := List.all_eq_true.1 hf k (List.mem_range.2 (List.getElem?_eq_some_iff.1 ho').1)
                rw [ho'] at this
                have hb : Nat.blt k m = false := by
                  cases hb : Nat.blt k m
                  · rfl
                  · have := Nat.le_of_ble_eq_true hb; omega
                rw [hb] at this
                simp only [Option.bind_some, e, Bool.false_or, Bool.not_eq_true'] at this
                have hc : (looks ops o).contains t = true := by simpa using ht
                rw [hc] at this
                cases this
              have far : ∀ s', r = .inl s' → Far s p := fun s' e => by
                have hf := far_of (hend s' e i x p hij hx hmk hpo hlc)
                subst e
                have hge : ∀ k ∈ i :: (A ++ j :: C), i ≤ k := fun k hk => by
                  rcases List.mem_cons.1 hk with rfl | hk
                  · exact Nat.le_refl _
                  · rcases List.mem_append.1 hk with hk | hk
                    · exact Nat.le_of_lt (hpw.1 k hk)
                    · rcases List.mem_cons.1 hk with rfl | hk
                      · exact Nat.le_of_lt hij
                      · have := hC k hk; omega
                have keepx : ∀ z, (∀ t, z = Operand.tmp t → t ∈ looks ops x) → boxOf (s'.ev z) = boxOf (s.ev z) := fun z hz => runI_keep hall _ s s' (fun k hk o ho t et => fixed i x hfi k (hge k hk) o ho t (hz t et)) h0
                have keepy : ∀ z, (∀ t, z = Operand.tmp t → t ∈ looks ops y) → boxOf (s'.ev z) = boxOf (s.ev z) := fun z hz => runI_keep hall _ s s' (fun k hk o ho t et e => by
                  have low : k ∈ i :: A → False := fun hk => by
                    obtain ⟨_, _, o', ho', hpair⟩ := hp k hk
                    rw [ho] at ho'
                    cases ho'
                    have hapk := apart_of hpair
                    unfold apartB at hapk
                    simp only [Bool.and_eq_true] at hapk
                    have h1 := hapk.1
                    rw [e] at h1
                    have hc : (looks ops y).contains t = true := by simpa using hz t et
                    simp [hz t et] at h1
                  rcases List.mem_cons.1 hk with rfl | hk
                  · exact low (by simp)
                  · rcases List.mem_append.1 hk with hk | hk
                    · exact low (by simp [hk])
                    · refine fixed j y hfj k ?_ o ho t (hz t et) e
                      rcases List.mem_cons.1 hk with rfl | hk
                      · exact Nat.le_refl _
                      · exact Nat.le_of_lt (hC k hk)) h0
                rcases lc_looks hlc with ⟨l1, l2⟩ | ⟨l1, l2⟩
                · intro d hd z hz e
                  refine hf d ?_ z hz ?_
                  · rw [keepx p.1 (fun t et => load_looks l1 et)]; exact hd
                  · rw [keepy z (fun t et => call_looks l2 hz et)]; exact e
                · intro d hd z hz e
                  refine hf d ?_ z hz ?_
                  · rw [keepy p.1 (fun t et => load_looks l1 et)]; exact hd
                  · rw [keepx z (fun t et => call_looks l2 hz et)]; exact e
              have noThr : ∀ k m, k ≠ m → thrAt ops k = true → thrAt ops m = true → False := by
                have key : ∀ k m, m < k → thrAt ops k = true → thrAt ops m = true → False := fun k m hm hk1 hm1 => by
                  have hkl : k < ops.length := by
                    cases hk2 : ops[k]? with
                    | none => unfold thrAt at hk1; rw [hk2] at hk1; cases hk1
                    | some o => exact (List.getElem?_eq_some_iff.1 hk2).1
                  have := List.all_eq_true.1 huniq k (List.mem_range.2 hkl)
                  have := List.all_eq_true.1 this m (List.mem_range.2 hm)
                  rw [hk1, hm1] at this
                  cases this
                intro k m hne hk1 hm1
                rcases Nat.lt_or_gt_of_ne hne with h1 | h1
                · exact key m k h1 hm1 hk1
                · exact key k m h1 hk1 hm1
              have callThr : ∀ {o : Oper} {xs : List Operand}, ptrCall P o = some xs → isThr o = true ∨ isStore o = true := fun h => by
                rcases ptrCall_eq h with ⟨f, ys, Ts, h1, _⟩ | ⟨T, a, z, h1, _⟩
                · left; unfold isThr; rw [h1]
                · right; unfold isStore; rw [h1]
              have noneThr : (isStore x = true ∨ isStore y = true) → ∀ k, thrAt ops k = false := fun hs k => by
                rcases hnost with h1 | h1
                · rw [Bool.not_eq_true', Bool.or_eq_false_iff] at h1
                  rcases hs with h2 | h2
                  · rw [h1.1] at h2; cases h2
                  · rw [h1.2] at h2; cases h2
                · unfold thrAt
                  cases hk : ops[k]? with
                  | none => rfl
                  | some o => simpa using List.all_eq_true.1 h1 o (List.mem_of_getElem? hk)
              rcases lc_looks hlc with ⟨l1, l2⟩ | ⟨l1, l2⟩
              · refine diamond_wp (xs := p.2) (wOp_load l1) l2 hap (fun s2 e a ha => ?_) hi' hj
                rw [l1] at ha
                cases ha
                subst e
                cases r with
                | inl s' => exact far s' rfl
                | inr v =>
                  obtain ⟨k, hk, hkt⟩ := runI_thr _ _ _ ih
                  rcases callThr l2 with hct | hst
                  case inr =>
                    have := noneThr (.inr hst) k
                    rw [hkt] at this
                    cases this
                  have hjt : thrAt ops j = true := by unfold thrAt; rw [hy]; exact hct
                  refine (noThr k j (fun e => ?_) hkt hjt).elim
                  subst e
                  rcases List.mem_append.1 hk with hk | hk
                  · have := (hp k (by simp [hk])).1; omega
                  · have := hC k hk; omega
              · cases r with
                | inl s' =>
                  refine diamond_pw (xs := p.2) l2 (wOp_load l1) hap (fun s2 e a ha => ?_) hi' hj
                  rw [l1] at ha
                  cases ha
                  exact far s' rfl
                | inr v =>
                  have h1 := ht v rfl i (by simp)
                  unfold thrAt at h1
                  rw [hx] at h1
                  dsimp only at h1
                  rcases callThr l2 with hct | hst
                  · rw [hct] at h1; cases h1
                  · cases r2 with
                    | inr v' =>
                      have hyt := stO_thr hj
                      have := noneThr (.inl hst) j
                      unfold thrAt at this
                      rw [hy] at this
                      dsimp only at this
                      rw [this] at hyt
                      cases hyt
                    | inl s2 =>
                      obtain ⟨k, hk, hkt⟩ := runI_thr _ _ _ ih
                      have := noneThr (.inl hst) k
                      rw [hkt] at this
                      cases this
          obtain ⟨d1, d2⟩ := hD
          simp only [List.cons_append, runI]
          rw [ej]
          cases r2 with
          | inr v =>
            rw [d2 v rfl]
            exact ih
          | inl s2 =>
            obtain ⟨s3, e1, e2⟩ := d1 s2 rfl
            rw [e1]
            show thenR (stI P np takes call ops i s3) _ = _
            rw [ei, e2]
            exact ih
theorem needs_mem {i j : Nat} {x y : Oper} {p : Operand × List Operand} (hij : i < j) (hx : ops[i]? = some x) (hy : ops[j]? = some y) (hm : ((masks ops []).getD j 0).testBit i = false) (hpo : pairOk P ops x y = false) (hlc : lcOf P x y = some p) : p ∈ needs P ops := by
  have hany : (ops.any (fun o => (loadOf o).isSome) && ops.any (fun o => (ptrCall P o).isSome)) = true := by
    rw [Bool.and_eq_true, List.any_eq_true, List.any_eq_true]
    rcases lc_looks hlc with ⟨l1, l2⟩ | ⟨l1, l2⟩
    · exact ⟨⟨x, List.mem_of_getElem? hx, by rw [l1]; rfl⟩, ⟨y, List.mem_of_getElem? hy, by rw [l2]; rfl⟩⟩
    · exact ⟨⟨y, List.mem_of_getElem? hy, by rw [l1]; rfl⟩, ⟨x, List.mem_of_getElem? hx, by rw [l2]; rfl⟩⟩
  unfold needs
  rw [hany]
  refine List.mem_flatMap.2 ⟨j, List.mem_range.2 (List.getElem?_eq_some_iff.1 hy).1, List.mem_filterMap.2 ⟨i, List.mem_range.2 hij, ?_⟩⟩
  rw [hm, hx, hy]
  simp only [cond_false, hpo, hlc]

/-! ### what is still to come -/
def pend (n : Nat) (listed : Array Bool) : List Nat := (List.range' 0 n).filter fun i => !listed.getD i true
theorem getD_set_self {n j : Nat} {listed : Array Bool} (hsz : listed.size = n) (hj : j < n) : (listed.setIfInBounds j true).getD j true = true := by
  subst hsz; simp [hj]
theorem pend_split {n j : Nat} {listed : Array Bool} (hj : j < n) (hl : listed.getD j true = false) (hsz : listed.size = n) : ∃ A C, pend n listed = A ++ j :: C ∧ (∀ i ∈ A, i < j ∧ listed.getD i true = false) ∧ pend n (listed.setIfInBounds j true) = A ++ C ∧ A.Pairwise (· < ·) ∧ ∀ k ∈ C, j < k := by
  have hr : List.range' 0 n = List.range' 0 j ++ j :: List.range' (j + 1) (n - j - 1) := by
    obtain ⟨m, hm⟩ : ∃ m, n = j + (m + 1) := ⟨n - j - 1, by omega⟩
    have e : n - j - 1 = m := by omega
    rw [e, hm, ← List.range'_append_1, Nat.zero_add, List.range'_succ]
  refine ⟨(List.range' 0 j).filter fun i => !listed.getD i true, (List.range' (j + 1) (n - j - 1)).filter fun i => !listed.getD i true, ?_, fun i hi => ?_, ?_, List.Pairwise.filter _ List.pairwise_lt_range', fun k hk => by
    obtain ⟨h1, _⟩ := List.mem_filter.1 hk
    rw [List.mem_range'_1] at h1
    omega⟩
  · unfold pend
    rw [hr, List.filter_append, List.filter_cons, if_pos (by rw [hl]; rfl)]
  · obtain ⟨h1, h2⟩ := List.mem_filter.1 hi
    rw [List.mem_range'_1] at h1
    exact ⟨by omega, by simpa using h2⟩
  · unfold pend
    rw [hr, List.filter_append, List.filter_cons, if_neg (by
      have : (listed.setIfInBounds j true).getD j true = true := getD_set_self hsz hj
      rw [this]; simp)]
    congr 1
    · refine List.filter_congr fun i hi => ?_
      rw [List.mem_range'_1] at hi
      rw [getD_set_ne true (by omega)]
    · refine List.filter_congr fun i hi => ?_
      rw [List.mem_range'_1] at hi
      rw [getD_set_ne true (by omega)]
theorem any_sound {opsA : Array Oper} (hst : drawnOk P opsA.toList = true) (hok : ∀ o ∈ opsA.toList, okOp o = true) (hcall : SoundCall P call) {Q : Exit → Act → World → Prop} (r : St ⊕ Value) (hthr : ∀ v, r = .inr v → thrOk opsA.toList = true) (hend : ∀ s', r = .inl s' → endOk P opsA.toList s' = true)
    (hk : ∀ g' s' a' w', r = .inl s' → Inv P F g' s' a' w' → Q .normal a' w') (ht : ∀ v a' w', r = .inr v → a'.defers = F.ds → Fr F.T F.w0 w' → Q (.panic [{ v := v, recovered := false }]) a' w') :
    ∀ (fuel : Nat) (listed : Array Bool) (g : Gh) (s : St) (a : Act) (w : World), listed.size = opsA.size → Closed opsA.toList listed → Inv P F g s a w → (pend opsA.size listed).length ≤ fuel →
      runI P F.np takes call opsA.toList (pend opsA.size listed) s = some r → wpAny P .any opsA Q fuel listed a w := by
  have hstat : ∀ (j : Nat) y, opsA.toList[j]? = some y → (∀ e ∈ y.after.toList, Region.binds .any e = true → e.on < j) ∧ ∀ i, i < j → ((masks opsA.toList []).getD j 0).testBit i = true ∨ ∀ x, opsA.toList[i]? = some x → pairOk P opsA.toList x y = true ∨ pairDyn P opsA.toList i j x y = true := fun j y hy => by
    unfold drawnOk at hst
    have := List.all_eq_true.1 hst j (List.mem_range.2 (List.getElem?_eq_some_iff.1 hy).1)
    rw [hy] at this
    simp only [Bool.and_eq_true, List.all_eq_true] at this
    refine ⟨fun e he hb => ?_, fun i hi => ?_⟩
    · have h1 := this.1 e he
      rw [hb] at h1
      have h2 : Nat.blt e.on j = true := h1
      exact Nat.le_of_ble_eq_true h2
    · have := this.2 i (List.mem_range.2 hi)
      rw [Bool.or_eq_true] at this
      refine this.imp id fun h x hx => ?_
      rw [hx] at h
      exact (Bool.or_eq_true _ _).mp h
  have hmin : ∀ listed : Array Bool, listed.size = opsA.size → Region.ready .any opsA listed = [] → pend opsA.size listed = [] := fun listed hsz hr => by
    cases hp : pend opsA.size listed with
    | nil => rfl
    | cons i l =>
      have hi : i ∈ pend opsA.size listed := by rw [hp]; simp
      obtain ⟨h1, h2⟩ := List.mem_filter.1 hi
      rw [List.mem_range'_1] at h1
      have hlt : i < opsA.size := by omega
      obtain ⟨A, C, e1, e2, e3, e4, e5⟩ := pend_split hlt (by simpa using h2) hsz
      have hA : A = [] := by
        cases A with
        | nil => rfl
        | cons k A =>
          rw [hp] at e1
          cases e1
          exact absurd (e2 i (by simp)).1 (Nat.lt_irrefl _)
      have hbelow : ∀ k, k < i → listed.getD k true = true := fun k hk => by
        cases hkl : listed.getD k true with
        | true => rfl
        | false =>
          obtain ⟨A', C', e1', e2', e3', _, _⟩ := pend_split (n := opsA.size) (j := k) (by omega) hkl hsz
          rw [hp] at e1'
          cases A' with
          | nil => cases e1'; exact absurd hk (Nat.lt_irrefl _)
          | cons q A' => cases e1'; exact absurd (e2' i (by simp)).1 (by omega)
      have hrdy : i ∈ Region.ready .any opsA listed := by
        rw [mem_ready]
        refine ⟨by simpa using h2, opsA[i], Array.getElem?_eq_getElem hlt, fun e he hb => ?_⟩
        have hon := (hstat i opsA[i] (by simp [hlt])).1 e (by simpa using he) hb
        have := hbelow e.on hon
        rw [Array.getD_eq_getD_getElem?] at this ⊢
        rw [Array.getElem?_eq_getElem (by omega)] at this ⊢
        exact this
      rw [hr] at hrdy
      cases hrdy
  intro fuel
  induction fuel with
  | zero =>
    intro listed g s a w hsz hcl h hlen hrun
    have hnil : pend opsA.size listed = [] := List.length_eq_zero_iff.1 (by omega)
    rw [hnil] at hrun
    cases hrun
    refine ⟨?_, hk g s a w rfl h⟩
    cases hr : Region.ready .any opsA listed with
    | nil => rfl
    | cons j l =>
      have hj : j ∈ Region.ready .any opsA listed := by rw [hr]; simp
      rw [mem_ready] at hj
      obtain ⟨h1, o, ho, _⟩ := hj
      obtain ⟨A, C, e1, _, _, _, _⟩ := pend_split (Array.getElem?_eq_some_iff.1 ho).1 h1 hsz
      rw [hnil] at e1
      cases A <;> cases e1
  | succ fuel ih =>
    intro listed g s a w hsz hcl h hlen hrun
    refine ⟨fun hr => ?_, fun j hj => ?_⟩
    · rw [hmin listed hsz hr] at hrun
      cases hrun
      exact hk g s a w rfl h
    · rw [mem_ready] at hj
      obtain ⟨h1, o, ho, hdeps⟩ := hj
      have hlt := (Array.getElem?_eq_some_iff.1 ho).1
      have ho' : opsA.toList[j]? = some o := by rw [Array.getElem?_toList]; exact ho
      obtain ⟨A, C, e1, e2, e3, e4, e5⟩ := pend_split hlt h1 hsz
      have hnw : ∀ i, i ∈ A → ((masks opsA.toList []).getD j 0).testBit i = true → False := fun i hi hw => by
        have := waits_listed (fun j o ho => (hstat j o ho).1) hcl j o ho' (fun e he hb => hdeps e (by simpa using he) hb) i hw
        have h2 := (e2 i hi).2
        rw [Array.getD_eq_getD_getElem?] at this h2
        cases hq : listed[i]? with
        | none => rw [hq] at this; cases this
        | some b => rw [hq] at this h2; simp at this h2; rw [this] at h2; cases h2
      rw [e1] at hrun
      have hmf : ∀ i, i ∈ A → ((masks opsA.toList []).getD j 0).testBit i = false := fun i hi => by
        cases hq : ((masks opsA.toList []).getD j 0).testBit i
        · rfl
        · exact (hnw i hi hq).elim
      have hb := bubble (P := P) (np := F.np) (takes := takes) (call := call) ho' C r e5 (fun s' e i x p hij hx hm hpo hlc => List.all_eq_true.1 (hend s' e) p (needs_mem hij hx ho' hm hpo hlc)) A s e4 (fun i hi => by
        have hij := (e2 i hi).1
        have hil : i < opsA.size := by omega
        have hx : opsA.toList[i]? = some opsA[i] := by simp [hil]
        refine ⟨hij, hmf i hi, opsA[i], hx, ?_⟩
        rcases (hstat j o ho').2 i hij with hw | hw
        · exact (hnw i hi hw).elim
        · exact hw _ hx) (fun v hv i hi => by
        have hij := (e2 i hi).1
        have hil : i < opsA.size := by omega
        have hx : opsA.toList[i]? = some opsA[i] := by simp [hil]
        cases hisT : thrAt opsA.toList i with
        | false => rfl
        | true =>
        unfold thrAt at hisT
        rw [hx] at hisT
        dsimp only at hisT
        have hT := hthr v hv
        unfold thrOk at hT
        have := List.all_eq_true.1 hT i (List.mem_range.2 (by simpa using hil))
        rw [hx] at this
        dsimp only at this
        have hall : ((List.range opsA.toList.length).all fun j => Nat.ble j i || ((masks opsA.toList []).getD j 0).testBit i) = true := by
          unfold isThr at hisT
          split at hisT
          · rename_i hop; rw [hop] at this; exact this
          · rename_i hop; rw [hop] at this; exact this
          · cases hisT
        have := List.all_eq_true.1 hall j (List.mem_range.2 (by simpa using hlt))
        rw [Bool.or_eq_true] at this
        rcases this with h3 | h3
        · have := Nat.le_of_ble_eq_true h3; omega
        · exact (hnw i hi h3).elim) hrun
      simp only [runI] at hb
      unfold stI at hb
      rw [ho'] at hb
      dsimp only at hb
      unfold wpOp
      rw [ho]
      cases hs : stO P F.np true takes call opsA.toList o s with
      | none => rw [hs] at hb; cases hb
      | some r1 =>
        rw [hs] at hb
        refine stO_sound hcall h (hok o (List.mem_of_getElem? ho')) hs (fun g' s' a' w' e hI => ?_) (fun v a' w' e hd hf => ?_)
        · subst e
          refine ih (listed.setIfInBounds j true) g' s' a' w' (by simp [hsz]) (fun k o2 hk2 hl2 e he hbd => ?_) hI ?_ ?_
          · by_cases hkj : j = k
            · subst hkj
              rw [ho'] at hk2
              cases hk2
              exact getD_set_true (hdeps e (by simpa using he) hbd)
            · rw [getD_set_ne false hkj] at hl2
              exact getD_set_true (hcl k o2 hk2 hl2 e he hbd)
          · rw [e3]
            rw [e1] at hlen
            simp at hlen ⊢
            omega
          · rw [e3]; exact hb
        · subst e
          cases hb
          exact ht v a' w' rfl hd hf
theorem region_drawn {id : Nat} {opsA : Array Oper} {g : Gh} {s : St} {a : Act} {w : World} (hm : P.follows .mixedOrders = true) (hst : drawnOk P opsA.toList = true) (hok : ∀ o ∈ opsA.toList, okOp o = true) (hcall : SoundCall P call) {Q : Exit → Act → World → Prop} (r : St ⊕ Value) (hthr : ∀ v, r = .inr v → thrOk opsA.toList = true) (hend : ∀ s', r = .inl s' → endOk P opsA.toList s' = true)
    (h : Inv P F g s a w) (hrun : runO P F.np true takes call opsA.toList opsA.toList s = some r)
    (hk : ∀ g' s' a' w', r = .inl s' → Inv P F g' s' a' w' → Q .normal a' w') (ht : ∀ v a' w', r = .inr v → a'.defers = F.ds → Fr F.T F.w0 w' → Q (.panic [{ v := v, recovered := false }]) a' w') : (Code.region id opsA true).wp P Q a w := by
  have hp : pend opsA.size (Array.replicate opsA.size false) = List.range' 0 opsA.size := by
    unfold pend
    rw [List.filter_eq_self]
    intro i hi
    rw [List.mem_range'_1] at hi
    have : i < opsA.size := by omega
    simp [this]
  refine wp_region_any hm (any_sound (takes := takes) hst hok hcall r hthr hend hk ht opsA.size _ g s a _ (by simp) (fun k o hk hl => ?_) h.drew (by rw [hp]; simp) ?_)
  · by_cases hlt : k < opsA.size <;> simp [hlt] at hl
  · rw [hp]
    have := runI_range (P := P) (np := F.np) (takes := takes) (call := call) (ops := opsA.toList) opsA.toList 0 s (fun j _ => by rw [Nat.zero_add])
    rw [Array.length_toList] at this
    rw [this]; exact hrun
end
end Go.Proofs.YtckdgcpomkefpaaGreatDoor.En
