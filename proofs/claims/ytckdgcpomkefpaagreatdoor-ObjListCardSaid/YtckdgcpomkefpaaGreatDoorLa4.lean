/- Part 4 of a proof: what it needs of the program's functions as plain Lean functions, with the proof that the machine's calls come to them, and of plain laws; put together out of smaller texts. No conditions besides those that each statement names. -/
import Derived.IntWalk
import Derived.KernelRfl
import Derived.LoopN
import Derived.Orders
import Derived.Test.YtckdgcpomkefpaaGreatDoorLa3
section
set_option linter.unusedVariables false
set_option linter.unusedSimpArgs false
namespace Go.Proofs.YtckdgcpomkefpaaGreatDoor.En
open Go
def drawnOk (P : Program) (ops : List Oper) : Bool :=
  let ms := masks ops []
  (List.range ops.length).all fun j => match ops[j]? with
    | some y => y.after.toList.all (fun e => !Region.binds .any e || Nat.blt e.on j) &&
        (List.range j).all fun i => (ms.getD j 0).testBit i || (match ops[i]? with | some x => pairOk P ops x y || pairDyn P ops i j x y | none => true)
    | none => true
section
variable {P : Program} {F : Fx} {np : Nat} {takes : FuncId → Option Nat} {call : CallF} {ops : List Oper}
theorem masks_spec : ∀ (l : List Oper) (ms : List Nat), ∃ ext, masks l ms = ms ++ ext ∧ ext.length = l.length ∧ ∀ (k : Nat) o, l[k]? = some o → (masks l ms)[ms.length + k]? = some (maskOf o ((masks l ms).take (ms.length + k)))
  | [], ms => ⟨[], by simp [masks], rfl, fun k o h => by simp at h⟩
  | o :: l, ms => by
    obtain ⟨ext, h1, h2, h3⟩ := masks_spec l (ms ++ [maskOf o ms])
    have he : masks (o :: l) ms = ms ++ (maskOf o ms :: ext) := by
      show masks l (ms ++ [maskOf o ms]) = _
      rw [h1]; simp
    refine ⟨maskOf o ms :: ext, he, by simp [h2], fun k o' hk => ?_⟩
    cases k with
    | zero =>
      simp at hk
      subst hk
      rw [he]
      simp
    | succ k =>
      have := h3 k o' (by simpa using hk)
      rw [show (ms ++ [maskOf o ms]).length + k = ms.length + (k + 1) by simp; omega] at this
      exact this
theorem mask_bits {o : Oper} {ms : List Nat} {i : Nat} (h : (maskOf o ms).testBit i = true) : ∃ e ∈ o.after.toList, Region.binds .any e = true ∧ (i = e.on ∨ (ms.getD e.on 0).testBit i = true) := by
  unfold maskOf at h
  have gen : ∀ (l : List Edge) (m : Nat), (l.foldl (fun m e => bif Region.binds .any e then m ||| (2 ^ e.on ||| ms.getD e.on 0) else m) m).testBit i = true →
      m.testBit i = true ∨ ∃ e ∈ l, Region.binds .any e = true ∧ (i = e.on ∨ (ms.getD e.on 0).testBit i = true) := by
    intro l
    induction l with
    | nil => intro m h; exact .inl h
    | cons e l ih =>
      intro m h
      rw [List.foldl_cons] at h
      rcases ih _ h with h1 | ⟨e', he', h2⟩
      · cases hb : Region.binds .any e <;> rw [hb] at h1 <;> simp only [cond_true, cond_false] at h1
        · exact .inl h1
        · rw [Nat.testBit_or, Nat.testBit_or, Bool.or_eq_true, Bool.or_eq_true] at h1
          rcases h1 with h1 | h1 | h1
          · exact .inl h1
          · rw [Nat.testBit_two_pow] at h1
            exact .inr ⟨e, by simp, hb, .inl (show e.on = i by simpa using h1).symm⟩
          · exact .inr ⟨e, by simp, hb, .inr h1⟩
      · exact .inr ⟨e', by simp [he'], h2⟩
  rcases gen _ 0 h with h1 | h1
  · simp at h1
  · exact h1
def Closed (ops : List Oper) (listed : Array Bool) : Prop := ∀ (k : Nat) o, ops[k]? = some o → listed.getD k false = true → ∀ e ∈ o.after.toList, Region.binds .any e = true → listed.getD e.on false = true
theorem waits_listed {listed : Array Bool} (hs : ∀ (j : Nat) o, ops[j]? = some o → ∀ e ∈ o.after.toList, Region.binds .any e = true → e.on < j) (hc : Closed ops listed) :
    ∀ (j : Nat) o, ops[j]? = some o → (∀ e ∈ o.after.toList, Region.binds .any e = true → listed.getD e.on false = true) → ∀ i, ((masks ops []).getD j 0).testBit i = true → listed.getD i false = true := by
  intro j
  induction j using Nat.strongRecOn with
  | _ j ih =>
    intro o ho hd i hi
    obtain ⟨ext, h1, h2, h3⟩ := masks_spec ops []
    have hj := h3 j o ho
    rw [List.length_nil, Nat.zero_add] at hj
    rw [List.getD_eq_getElem?_getD, hj, Option.getD_some] at hi
    obtain ⟨e, he, hb, hi⟩ := mask_bits hi
    rcases hi with rfl | hi
    · exact hd e he hb
    · have hlt := hs j o ho e he hb
      have hjl := (List.getElem?_eq_some_iff.1 ho).1
      obtain ⟨o', ho'⟩ : ∃ o', ops[e.on]? = some o' := ⟨_, List.getElem?_eq_getElem (by omega)⟩
      refine ih e.on hlt o' ho' (fun e' he' hb' => hc e.on o' ho' (hd e he hb) e' he' hb') i ?_
      rw [List.getD_eq_getElem?_getD, List.getElem?_take, if_pos hlt] at hi
      rw [List.getD_eq_getElem?_getD]
      exact hi
def stI (P : Program) (np : Nat) (takes : FuncId → Option Nat) (call : CallF) (ops : List Oper) (i : Nat) (s : St) : Option (St ⊕ Value) := match ops[i]? with | some o => stO P np true takes call ops o s | none => some (.inl s)
def runI (P : Program) (np : Nat) (takes : FuncId → Option Nat) (call : CallF) (ops : List Oper) : List Nat → St → Option (St ⊕ Value)
  | [], s => some (.inl s)
  | i :: l, s => thenR (stI P np takes call ops i s) (runI P np takes call ops l)
theorem runI_range : ∀ (l : List Oper) (k : Nat) (s : St), (∀ j, j < l.length → l[j]? = ops[k + j]?) → runI P np takes call ops (List.range' k l.length) s = runO P np true takes call ops l s
  | [], k, s, _ => rfl
  | o :: l, k, s, h => by
    have h0 : ops[k]? = some o := by simpa using (h 0 (by simp)).symm
    simp only [List.length_cons, List.range'_succ, runI, runO, stI, h0]
    congr 1
    funext s'
    exact runI_range l (k + 1) s' (fun j hj => by have := h (j + 1) (by simp; omega); simpa [Nat.add_assoc, Nat.add_comm 1 j] using this)
theorem evX_thr {β : Type} {thr thr' : Value → Option β} {o : Oper} {s : St} {k : St → Option β} (h : isThr o = false) : evX P np takes call thr o s k = evX P np takes call thr' o s k := by
  obtain ⟨dst, op, ty, pos, after, guard⟩ := o
  unfold evX
  simp only [appendK_eq]
  (try dsimp only)
  split <;> first | rfl | (exact Bool.noConfusion h)
theorem stO_thr {o : Oper} {s : St} {v : Value} (h : stO P np true takes call ops o s = some (.inr v)) : isThr o = true := by
  cases hi : isThr o with
  | true => rfl
  | false =>
    unfold stO at h
    have h' := Option.bind_eq_some_iff.1 h
    clear h
    obtain ⟨wn, _, h⟩ := h'
    cases wn
    · cases h
    · simp only [cond_true] at h
      unfold stE at h
      rw [evOp_def] at h
      cases hr : reads P o.op <;> rw [hr] at h <;> simp only [cond_true, cond_false] at h
      · cases hb : true && bsOp o <;> rw [hb] at h <;> simp only [cond_true, cond_false] at h
        · have e1 := evX_st (P := P) (np := np) (takes := takes) (call := call) (β := St ⊕ Value) (fun _ => none) o s (fun s => some (.inl s))
          rw [h] at e1
          rw [evX_thr (thr' := fun _ => none) hi] at h
          rw [h] at e1
          cases e1
        · obtain ⟨x, _, e⟩ := Option.bind_eq_some_iff.1 h
          cases e
      · obtain ⟨x, _, e⟩ := Option.bind_eq_some_iff.1 h
        cases e
theorem runI_thr : ∀ (l : List Nat) (s : St) (v : Value), runI P np takes call ops l s = some (.inr v) → ∃ i ∈ l, thrAt ops i = true
  | [], s, v, h => by cases h
  | i :: l, s, v, h => by
    simp only [runI] at h
    cases hi : stI P np takes call ops i s with
    | none => rw [hi] at h; cases h
    | some r1 =>
      rw [hi] at h
      cases r1 with
      | inr v' =>
        refine ⟨i, by simp, ?_⟩
        unfold stI at hi
        unfold thrAt
        cases ho : ops[i]? with
        | none => rw [ho] at hi; cases hi
        | some o => rw [ho] at hi; exact stO_thr hi
      | inl s1 =>
        obtain ⟨k, hk, ht⟩ := runI_thr l s1 v h
        exact ⟨k, by simp [hk], ht⟩
theorem runI_keep {z : Operand} (ha : ops.all (fun o => wOp P o || xOp P o || (ptrCall P o).isSome || isStore o) = true) : ∀ (l : List Nat) (s s' : St), (∀ k ∈ l, ∀ o, ops[k]? = some o → ∀ t, z = .tmp t → o.dst ≠ some t) → runI P np takes call ops l s = some (.inl s') → boxOf (s'.ev z) = boxOf (s.ev z)
  | [], s, s', _, h => by cases h; rfl
  | i :: l, s, s', hk, h => by
    simp only [runI] at h
    cases hi : stI P np takes call ops i s with
    | none => rw [hi] at h; cases h
    | some r1 =>
      rw [hi] at h
      cases r1 with
      | inr v' => cases h
      | inl s1 =>
        rw [runI_keep ha l s1 s' (fun k hm => hk k (by simp [hm])) h]
        unfold stI at hi
        cases ho : ops[i]? with
        | none => rw [ho] at hi; cases hi; rfl
        | some o =>
          rw [ho] at hi
          exact boxOf_keep (List.all_eq_true.1 ha o (List.mem_of_getElem? ho)) hi (hk i (by simp) o ho)
theorem lc_looks {x y : Oper} {p : Operand × List Operand} (h : lcOf P x y = some p) : (loadOf x = some p.1 ∧ ptrCall P y = some p.2) ∨ (loadOf y = some p.1 ∧ ptrCall P x = some p.2) := by
  unfold lcOf at h
  cases hx : loadOf x with
  | some a =>
    rw [hx] at h
    obtain ⟨xs, h1, rfl⟩ := Option.map_eq_some_iff.1 h
    exact .inl ⟨rfl, h1⟩
  | none =>
    rw [hx] at h
    obtain ⟨a, h1, h2⟩ := Option.bind_eq_some_iff.1 h
    obtain ⟨xs, h3, rfl⟩ := Option.map_eq_some_iff.1 h2
    exact .inr ⟨h1, h3⟩
theorem load_looks {x : Oper} {a : Operand} (h : loadOf x = some a) {t : Nat} (e : a = .tmp t) : t ∈ looks ops x := by
  obtain ⟨dst, op, ty, pos, after, guard⟩ := x
  unfold loadOf at h
  dsimp only at h
  split at h
  · cases h; subst e; exact looks_of (by simp [Op.operands])
  · cases h
theorem call_looks {y : Oper} {xs : List Operand} (h : ptrCall P y = some xs) {z : Operand} (hz : z ∈ xs) {t : Nat} (e : z = .tmp t) : t ∈ looks ops y := ptr_looks h hz e
theorem apart_of {i j : Nat} {x y : Oper} (h : pairOk P ops x y = true ∨ pairDyn P ops i j x y = true) : apartB ops x y = true := by
  rcases h with h | h
  · unfold pairOk at h
    rw [Bool.and_eq_true] at h
    exact h.1
  · unfold pairDyn at h
    simp only [Bool.and_eq_true] at h
    exact h.1.1
theorem bubble {j : Nat} {y : Oper} (hy : ops[j]? = some y) (C : List Nat) (r : St ⊕ Value) (hC : ∀ k ∈ C, j < k) (hend : ∀ s', r = .inl s' → ∀ i x p, i < j → ops[i]? = some x → ((masks ops []).getD j 0).testBit i = false → pairOk P ops x y = false → lcOf P x y = some p → aparts s' p = true) : ∀ (A : List Nat) (s : St), A.Pairwise (· < ·) →
    (∀ i ∈ A, i < j ∧ ((masks ops []).getD j 0).testBit i = false ∧ ∃ x, ops[i]? = some x ∧ (pairOk P ops x y = true ∨ pairDyn P ops i j x y = true)) →
    (∀ v, r = .inr v → ∀ i ∈ A, thrAt ops i = false) → runI P np takes call ops (A ++ j :: C) s = some r → runI P np takes call ops (j :: (A ++ C)) s = some r
  | [], s, _, _, _, h => h
  | i :: A, s, hpw, hp, ht, h => by
    obtain ⟨hij, hmk, x, hx, hxy⟩ := hp i (by simp)
    have h0 := h
    simp only [List.cons_append, runI] at h
    rw [List.pairwise_cons] at hpw
    cases hi : stI P np takes call ops i s with
    | none => rw [hi] at h; cases h
    | some r1 =>
      rw [hi] at h
      cases r1 with
      | inr v =>
        cases h
        have h1 := ht v rfl i (by simp)
        unfold thrAt at h1
        unfold stI at hi
        rw [hx] at h1 hi
        have h2 := stO_thr hi
        dsimp only at h1
        rw [h1] at h2
        cases h2
      | inl s1 =>
        have ih := bubble hy C r hC hend A s1 hpw.2 (fun i hi => hp i (by simp [hi])) (fun v e i hi => ht v e i (by simp [hi])) h
        simp only [runI] at ih
        have hi' : stO P np true takes call ops x s = some (.inl s1) := by unfold stI at hi; rw [hx] at hi; exact hi
        have ej : ∀ s, stI P np takes call ops j s = stO P np true takes call ops y s := fun s => by unfold stI; rw [hy]
        have ei : ∀ s, stI P np takes call ops i s = stO P np true takes call ops x s := fun s => by unfold stI; rw [hx]
        rw [ej] at ih
        cases hj : stO P np true takes call ops y s1 with
        | none => rw [hj] at ih; cases ih
        | some r2 =>
          rw [hj] at ih
          have hD : (∀ s2, r2 = .inl s2 → ∃ s3, stO P np true takes call ops y s = some (.inl s3) ∧ stO P np true takes call ops x s3 = some (.inl s2)) ∧ (∀ v, r2 = .inr v → stO P np true takes call ops y s = some (.inr v)) := by
            cases hpo : pairOk P ops x y with
            | true => exact diamond hpo hi' hj
            | false =>
              have hdy : pairDyn P ops i j x y = true := by
                rcases hxy with h1 | h1
                · rw [hpo] at h1; cases h1
                · exact h1
              have hap := apart_of (P := P) (.inr hdy)
              unfold pairDyn at hdy
              simp only [Bool.and_eq_true, Bool.or_eq_true] at hdy
              obtain ⟨⟨_, hdw⟩, hrest⟩ := hdy
              unfold dynW at hdw
              simp only [Bool.and_eq_true, Bool.or_eq_true] at hdw
              cases hlc : lcOf P x y with
              | none =>
                rcases hdw with ⟨w1, w2⟩ | ⟨w1, w2⟩
                · obtain ⟨xs, hxs⟩ := Option.isSome_iff_exists.1 w2
                  refine diamond_wp w1 hxs hap (fun s2 e a ha => ?_) hi' hj
                  unfold lcOf at hlc
                  rw [ha, hxs] at hlc
                  cases hlc
                · obtain ⟨xs, hxs⟩ := Option.isSome_iff_exists.1 w2
                  refine diamond_pw hxs w1 hap (fun s2 e a ha => ?_) hi' hj
                  unfold lcOf at hlc
                  rw [ptr_load hxs, ha, hxs] at hlc
                  cases hlc
              | some p =>
              rw [hlc] at hrest
              have hrest := hrest.resolve_left (by simp)
              obtain ⟨⟨⟨hfi, hfj⟩, hcalm⟩, hnost⟩ := hrest
              unfold calm at hcalm
              rw [Bool.and_eq_true] at hcalm
              obtain ⟨hall, huniq⟩ := hcalm
              have fixed : ∀ (m : Nat) (o : Oper), fixedAt ops m o = true → ∀ k, m ≤ k → ∀ o', ops[k]? = some o' → ∀ t, t ∈ looks ops o → o'.dst ≠ some t := fun m o hf k hk o' ho' t ht e => by
                unfold fixedAt at hf
                have := List.all_eq_true.1 hf k (List.mem_range.2 (List.getElem?_eq_some_iff.1 ho').1)
                rw [ho'] at this
                have hb : Nat.blt k m = false := by
                  cases hb : Nat.blt k m
                  · rfl
                  · have := Nat.le_of_ble_eq_true hb; omega
                rw [hb] at this
                simp only [Option.bind_some, e, Bool.false_or, Bool.not_eq_true'] at this
                have hc : (looks ops o).contains t = true := by simpa using ht
                rw [hc] at this
                cases this
              have far : ∀ s', r = .inl s' → Far s p := fun s' e => by
                have hf := far_of (hend s' e i x p hij hx hmk hpo hlc)
                subst e
                have hge : ∀ k ∈ i :: (A ++ j :: C), i ≤ k := fun k hk => by
                  rcases List.mem_cons.1 hk with rfl | hk
                  · exact Nat.le_refl _
                  · rcases List.mem_append.1 hk with hk | hk
                    · exact Nat.le_of_lt (hpw.1 k hk)
                    · rcases List.mem_cons.1 hk with rfl | hk
                      · exact Nat.le_of_lt hij
                      · have := hC k hk; omega
                have keepx : ∀ z, (∀ t, z = Operand.tmp t → t ∈ looks ops x) → boxOf (s'.ev z) = boxOf (s.ev z) := fun z hz => runI_keep hall _ s s' (fun k hk o ho t et => fixed i x hfi k (hge k hk) o ho t (hz t et)) h0
                have keepy : ∀ z, (∀ t, z = Operand.tmp t → t ∈ looks ops y) → boxOf (s'.ev z) = boxOf (s.ev z) := fun z hz => runI_keep hall _ s s' (fun k hk o ho t et e => by
                  have low : k ∈ i :: A → False := fun hk => by
                    obtain ⟨_, _, o', ho', hpair⟩ := hp k hk
                    rw [ho] at ho'
                    cases ho'
                    have hapk := apart_of hpair
                    unfold apartB at hapk
                    simp only [Bool.and_eq_true] at hapk
                    have h1 := hapk.1
                    rw [e] at h1
                    have hc : (looks ops y).contains t = true := by simpa using hz t et
                    simp [hz t et] at h1
                  rcases List.mem_cons.1 hk with rfl | hk
                  · exact low (by simp)
                  · rcases List.mem_append.1 hk with hk | hk
                    · exact low (by simp [hk])
                    · refine fixed j y hfj k ?_ o ho t (hz t et) e
                      rcases List.mem_cons.1 hk with rfl | hk
                      · exact Nat.le_refl _
                      · exact Nat.le_of_lt (hC k hk)) h0
                rcases lc_looks hlc with ⟨l1, l2⟩ | ⟨l1, l2⟩
                · intro d hd z hz e
                  refine hf d ?_ z hz ?_
                  · rw [keepx p.1 (fun t et => load_looks l1 et)]; exact hd
                  · rw [keepy z (fun t et => call_looks l2 hz et)]; exact e
                · intro d hd z hz e
                  refine hf d ?_ z hz ?_
                  · rw [keepy p.1 (fun t et => load_looks l1 et)]; exact hd
                  · rw [keepx z (fun t et => call_looks l2 hz et)]; exact e
              have noThr : ∀ k m, k ≠ m → thrAt ops k = true → thrAt ops m = true → False := by
                have key : ∀ k m, m < k → thrAt ops k = true → thrAt ops m = true → False := fun k m hm hk1 hm1 => by
                  have hkl : k < ops.length := by
                    cases hk2 : ops[k]? with
                    | none => unfold thrAt at hk1; rw [hk2] at hk1; cases hk1
                    | some o => exact (List.getElem?_eq_some_iff.1 hk2).1
                  have := List.all_eq_true.1 huniq k (List.mem_range.2 hkl)
                  have := List.all_eq_true.1 this m (List.mem_range.2 hm)
                  rw [hk1, hm1] at this
                  cases this
                intro k m hne hk1 hm1
                rcases Nat.lt_or_gt_of_ne hne with h1 | h1
                · exact key m k h1 hm1 hk1
                · exact key k m h1 hk1 hm1
              have callThr : ∀ {o : Oper} {xs : List Operand}, ptrCall P o = some xs → isThr o = true ∨ isStore o = true := fun h => by
                rcases ptrCall_eq h with ⟨f, ys, Ts, h1, _⟩ | ⟨T, a, z, h1, _⟩
                · left; unfold isThr; rw [h1]
                · right; unfold isStore; rw [h1]
              have noneThr : (isStore x = true ∨ isStore y = true) → ∀ k, thrAt ops k = false := fun hs k => by
                rcases hnost with h1 | h1
                · rw [Bool.not_eq_true', Bool.or_eq_false_iff] at h1
                  rcases hs with h2 | h2
                  · rw [h1.1] at h2; cases h2
                  · rw [h1.2] at h2; cases h2
                · unfold thrAt
                  cases hk : ops[k]? with
                  | none => rfl
                  | some o => simpa using List.all_eq_true.1 h1 o (List.mem_of_getElem? hk)
              rcases lc_looks hlc with ⟨l1, l2⟩ | ⟨l1, l2⟩
              · refine diamond_wp (xs := p.2) (wOp_load l1) l2 hap (fun s2 e a ha => ?_) hi' hj
                rw [l1] at ha
                cases ha
                subst e
                cases r with
                | inl s' => exact far s' rfl
                | inr v =>
                  obtain ⟨k, hk, hkt⟩ := runI_thr _ _ _ ih
                  rcases callThr l2 with hct | hst
                  case inr =>
                    have := noneThr (.inr hst) k
                    rw [hkt] at this
                    cases this
                  have hjt : thrAt ops j = true := by unfold thrAt; rw [hy]; exact hct
                  refine (noThr k j (fun e => ?_) hkt hjt).elim
                  subst e
                  rcases List.mem_append.1 hk with hk | hk
                  · have := (hp k (by simp [hk])).1; omega
                  · have := hC k hk; omega
              · cases r with
                | inl s' =>
                  refine diamond_pw (xs := p.2) l2 (wOp_load l1) hap (fun s2 e a ha => ?_) hi' hj
                  rw [l1] at ha
                  cases ha
                  exact far s' rfl
                | inr v =>
                  have h1 := ht v rfl i (by simp)
                  unfold thrAt at h1
                  rw [hx] at h1
                  dsimp only at h1
                  rcases callThr l2 with hct | hst
                  · rw [hct] at h1; cases h1
                  · cases r2 with
                    | inr v' =>
                      have hyt := stO_thr hj
                      have := noneThr (.inl hst) j
                      unfold thrAt at this
                      rw [hy] at this
                      dsimp only at this
                      rw [this] at hyt
                      cases hyt
                    | inl s2 =>
                      obtain ⟨k, hk, hkt⟩ := runI_thr _ _ _ ih
                      have := noneThr (.inl hst) k
                      rw [hkt] at this
                      cases this
          obtain ⟨d1, d2⟩ := hD
          simp only [List.cons_append, runI]
          rw [ej]
          cases r2 with
          | inr v =>
            rw [d2 v rfl]
            exact ih
          | inl s2 =>
            obtain ⟨s3, e1, e2⟩ := d1 s2 rfl
            rw [e1]
            show thenR (stI P np takes call ops i s3) _ = _
            rw [ei, e2]
            exact ih
theorem needs_mem {i j : Nat} {x y : Oper} {p : Operand × List Operand} (hij : i < j) (hx : ops[i]? = some x) (hy : ops[j]? = some y) (hm : ((masks ops []).getD j 0).testBit i = false) (hpo : pairOk P ops x y = false) (hlc : lcOf P x y = some p) : p ∈ needs P ops := by
  have hany : (ops.any (fun o => (loadOf o).isSome) && ops.any (fun o => (ptrCall P o).isSome)) = true := by
    rw [Bool.and_eq_true, List.any_eq_true, List.any_eq_true]
    rcases lc_looks hlc with ⟨l1, l2⟩ | ⟨l1, l2⟩
    · exact ⟨⟨x, List.mem_of_getElem? hx, by rw [l1]; rfl⟩, ⟨y, List.mem_of_getElem? hy, by rw [l2]; rfl⟩⟩
    · exact ⟨⟨y, List.mem_of_getElem? hy, by rw [l1]; rfl⟩, ⟨x, List.mem_of_getElem? hx, by rw [l2]; rfl⟩⟩
  unfold needs
  rw [hany]
  refine List.mem_flatMap.2 ⟨j, List.mem_range.2 (List.getElem?_eq_some_iff.1 hy).1, List.mem_filterMap.2 ⟨i, List.mem_range.2 hij, ?_⟩⟩
  rw [hm, hx, hy]
  simp only [cond_false, hpo, hlc]
def pend (n : Nat) (listed : Array Bool) : List Nat := (List.range' 0 n).filter fun i => !listed.getD i true
theorem getD_set_self {n j : Nat} {listed : Array Bool} (hsz : listed.size = n) (hj : j < n) : (listed.setIfInBounds j true).getD j true = true := by
  subst hsz; simp [hj]
theorem pend_split {n j : Nat} {listed : Array Bool} (hj : j < n) (hl : listed.getD j true = false) (hsz : listed.size = n) : ∃ A C, pend n listed = A ++ j :: C ∧ (∀ i ∈ A, i < j ∧ listed.getD i true = false) ∧ pend n (listed.setIfInBounds j true) = A ++ C ∧ A.Pairwise (· < ·) ∧ ∀ k ∈ C, j < k := by
  have hr : List.range' 0 n = List.range' 0 j ++ j :: List.range' (j + 1) (n - j - 1) := by
    obtain ⟨m, hm⟩ : ∃ m, n = j + (m + 1) := ⟨n - j - 1, by omega⟩
    have e : n - j - 1 = m := by omega
    rw [e, hm, ← List.range'_append_1, Nat.zero_add, List.range'_succ]
  refine ⟨(List.range' 0 j).filter fun i => !listed.getD i true, (List.range' (j + 1) (n - j - 1)).filter fun i => !listed.getD i true, ?_, fun i hi => ?_, ?_, List.Pairwise.filter _ List.pairwise_lt_range', fun k hk => by
    obtain ⟨h1, _⟩ := List.mem_filter.1 hk
    rw [List.mem_range'_1] at h1
    omega⟩
  · unfold pend
    rw [hr, List.filter_append, List.filter_cons, if_pos (by rw [hl]; rfl)]
  · obtain ⟨h1, h2⟩ := List.mem_filter.1 hi
    rw [List.mem_range'_1] at h1
    exact ⟨by omega, by simpa using h2⟩
  · unfold pend
    rw [hr, List.filter_append, List.filter_cons, if_neg (by
      have : (listed.setIfInBounds j true).getD j true = true := getD_set_self hsz hj
      rw [this]; simp)]
    congr 1
    · refine List.filter_congr fun i hi => ?_
      rw [List.mem_range'_1] at hi
      rw [getD_set_ne true (by omega)]
    · refine List.filter_congr fun i hi => ?_
      rw [List.mem_range'_1] at hi
      rw [getD_set_ne true (by omega)]
theorem any_sound {opsA : Array Oper} (hst : drawnOk P opsA.toList = true) (hok : ∀ o ∈ opsA.toList, okOp o = true) (hcall : SoundCall P call) {Q : Exit → Act → World → Prop} (r : St ⊕ Value) (hthr : ∀ v, r = .inr v → thrOk opsA.toList = true) (hend : ∀ s', r = .inl s' → endOk P opsA.toList s' = true)
    (hk : ∀ g' s' a' w', r = .inl s' → Inv P F g' s' a' w' → Q .normal a' w') (ht : ∀ v a' w', r = .inr v → a'.defers = F.ds → Fr F.T F.w0 w' → Q (.panic [{ v := v, recovered := false }]) a' w') :
    ∀ (fuel : Nat) (listed : Array Bool) (g : Gh) (s : St) (a : Act) (w : World), listed.size = opsA.size → Closed opsA.toList listed → Inv P F g s a w → (pend opsA.size listed).length ≤ fuel →
      runI P F.np takes call opsA.toList (pend opsA.size listed) s = some r → wpAny P .any opsA Q fuel listed a w := by
  have hstat : ∀ (j : Nat) y, opsA.toList[j]? = some y → (∀ e ∈ y.after.toList, Region.binds .any e = true → e.on < j) ∧ ∀ i, i < j → ((masks opsA.toList []).getD j 0).testBit i = true ∨ ∀ x, opsA.toList[i]? = some x → pairOk P opsA.toList x y = true ∨ pairDyn P opsA.toList i j x y = true := fun j y hy => by
    unfold drawnOk at hst
    have := List.all_eq_true.1 hst j (List.mem_range.2 (List.getElem?_eq_some_iff.1 hy).1)
    rw [hy] at this
    simp only [Bool.and_eq_true, List.all_eq_true] at this
    refine ⟨fun e he hb => ?_, fun i hi => ?_⟩
    · have h1 := this.1 e he
      rw [hb] at h1
      have h2 : Nat.blt e.on j = true := h1
      exact Nat.le_of_ble_eq_true h2
    · have := this.2 i (List.mem_range.2 hi)
      rw [Bool.or_eq_true] at this
      refine this.imp id fun h x hx => ?_
      rw [hx] at h
      exact (Bool.or_eq_true _ _).mp h
  have hmin : ∀ listed : Array Bool, listed.size = opsA.size → Region.ready .any opsA listed = [] → pend opsA.size listed = [] := fun listed hsz hr => by
    cases hp : pend opsA.size listed with
    | nil => rfl
    | cons i l =>
      have hi : i ∈ pend opsA.size listed := by rw [hp]; simp
      obtain ⟨h1, h2⟩ := List.mem_filter.1 hi
      rw [List.mem_range'_1] at h1
      have hlt : i < opsA.size := by omega
      obtain ⟨A, C, e1, e2, e3, e4, e5⟩ := pend_split hlt (by simpa using h2) hsz
      have hA : A = [] := by
        cases A with
        | nil => rfl
        | cons k A =>
          rw [hp] at e1
          cases e1
          exact absurd (e2 i (by simp)).1 (Nat.lt_irrefl _)
      have hbelow : ∀ k, k < i → listed.getD k true = true := fun k hk => by
        cases hkl : listed.getD k true with
        | true => rfl
        | false =>
          obtain ⟨A', C', e1', e2', e3', _, _⟩ := pend_split (n := opsA.size) (j := k) (by omega) hkl hsz
          rw [hp] at e1'
          cases A' with
          | nil => cases e1'; exact absurd hk (Nat.lt_irrefl _)
          | cons q A' => cases e1'; exact absurd (e2' i (by simp)).1 (by omega)
      have hrdy : i ∈ Region.ready .any opsA listed := by
        rw [mem_ready]
        refine ⟨by simpa using h2, opsA[i], Array.getElem?_eq_getElem hlt, fun e he hb => ?_⟩
        have hon := (hstat i opsA[i] (by simp [hlt])).1 e (by simpa using he) hb
        have := hbelow e.on hon
        rw [Array.getD_eq_getD_getElem?] at this ⊢
        rw [Array.getElem?_eq_getElem (by omega)] at this ⊢
        exact this
      rw [hr] at hrdy
      cases hrdy
  intro fuel
  induction fuel with
  | zero =>
    intro listed g s a w hsz hcl h hlen hrun
    have hnil : pend opsA.size listed = [] := List.length_eq_zero_iff.1 (by omega)
    rw [hnil] at hrun
    cases hrun
    refine ⟨?_, hk g s a w rfl h⟩
    cases hr : Region.ready .any opsA listed with
    | nil => rfl
    | cons j l =>
      have hj : j ∈ Region.ready .any opsA listed := by rw [hr]; simp
      rw [mem_ready] at hj
      obtain ⟨h1, o, ho, _⟩ := hj
      obtain ⟨A, C, e1, _, _, _, _⟩ := pend_split (Array.getElem?_eq_some_iff.1 ho).1 h1 hsz
      rw [hnil] at e1
      cases A <;> cases e1
  | succ fuel ih =>
    intro listed g s a w hsz hcl h hlen hrun
    refine ⟨fun hr => ?_, fun j hj => ?_⟩
    · rw [hmin listed hsz hr] at hrun
      cases hrun
      exact hk g s a w rfl h
    · rw [mem_ready] at hj
      obtain ⟨h1, o, ho, hdeps⟩ := hj
      have hlt := (Array.getElem?_eq_some_iff.1 ho).1
      have ho' : opsA.toList[j]? = some o := by rw [Array.getElem?_toList]; exact ho
      obtain ⟨A, C, e1, e2, e3, e4, e5⟩ := pend_split hlt h1 hsz
      have hnw : ∀ i, i ∈ A → ((masks opsA.toList []).getD j 0).testBit i = true → False := fun i hi hw => by
        have := waits_listed (fun j o ho => (hstat j o ho).1) hcl j o ho' (fun e he hb => hdeps e (by simpa using he) hb) i hw
        have h2 := (e2 i hi).2
        rw [Array.getD_eq_getD_getElem?] at this h2
        cases hq : listed[i]? with
        | none => rw [hq] at this; cases this
        | some b => rw [hq] at this h2; simp at this h2; rw [this] at h2; cases h2
      rw [e1] at hrun
      have hmf : ∀ i, i ∈ A → ((masks opsA.toList []).getD j 0).testBit i = false := fun i hi => by
        cases hq : ((masks opsA.toList []).getD j 0).testBit i
        · rfl
        · exact (hnw i hi hq).elim
      have hb := bubble (P := P) (np := F.np) (takes := takes) (call := call) ho' C r e5 (fun s' e i x p hij hx hm hpo hlc => List.all_eq_true.1 (hend s' e) p (needs_mem hij hx ho' hm hpo hlc)) A s e4 (fun i hi => by
        have hij := (e2 i hi).1
        have hil : i < opsA.size := by omega
        have hx : opsA.toList[i]? = some opsA[i] := by simp [hil]
        refine ⟨hij, hmf i hi, opsA[i], hx, ?_⟩
        rcases (hstat j o ho').2 i hij with hw | hw
        · exact (hnw i hi hw).elim
        · exact hw _ hx) (fun v hv i hi => by
        have hij := (e2 i hi).1
        have hil : i < opsA.size := by omega
        have hx : opsA.toList[i]? = some opsA[i] := by simp [hil]
        cases hisT : thrAt opsA.toList i with
        | false => rfl
        | true =>
        unfold thrAt at hisT
        rw [hx] at hisT
        dsimp only at hisT
        have hT := hthr v hv
        unfold thrOk at hT
        have := List.all_eq_true.1 hT i (List.mem_range.2 (by simpa using hil))
        rw [hx] at this
        dsimp only at this
        have hall : ((List.range opsA.toList.length).all fun j => Nat.ble j i || ((masks opsA.toList []).getD j 0).testBit i) = true := by
          unfold isThr at hisT
          split at hisT
          · rename_i hop; rw [hop] at this; exact this
          · rename_i hop; rw [hop] at this; exact this
          · rename_i hop; rw [hop] at this; exact this
          · cases hisT
        have := List.all_eq_true.1 hall j (List.mem_range.2 (by simpa using hlt))
        rw [Bool.or_eq_true] at this
        rcases this with h3 | h3
        · have := Nat.le_of_ble_eq_true h3; omega
        · exact (hnw i hi h3).elim) hrun
      simp only [runI] at hb
      unfold stI at hb
      rw [ho'] at hb
      dsimp only at hb
      unfold wpOp
      rw [ho]
      cases hs : stO P F.np true takes call opsA.toList o s with
      | none => rw [hs] at hb; cases hb
      | some r1 =>
        rw [hs] at hb
        refine stO_sound hcall h (hok o (List.mem_of_getElem? ho')) hs (fun g' s' a' w' e hI => ?_) (fun v a' w' e hd hf => ?_)
        · subst e
          refine ih (listed.setIfInBounds j true) g' s' a' w' (by simp [hsz]) (fun k o2 hk2 hl2 e he hbd => ?_) hI ?_ ?_
          · by_cases hkj : j = k
            · subst hkj
              rw [ho'] at hk2
              cases hk2
              exact getD_set_true (hdeps e (by simpa using he) hbd)
            · rw [getD_set_ne false hkj] at hl2
              exact getD_set_true (hcl k o2 hk2 hl2 e he hbd)
          · rw [e3]
            rw [e1] at hlen
            simp at hlen ⊢
            omega
          · rw [e3]; exact hb
        · subst e
          cases hb
          exact ht v a' w' rfl hd hf
theorem region_drawn {id : Nat} {opsA : Array Oper} {g : Gh} {s : St} {a : Act} {w : World} (hm : P.follows .mixedOrders = true) (hst : drawnOk P opsA.toList = true) (hok : ∀ o ∈ opsA.toList, okOp o = true) (hcall : SoundCall P call) {Q : Exit → Act → World → Prop} (r : St ⊕ Value) (hthr : ∀ v, r = .inr v → thrOk opsA.toList = true) (hend : ∀ s', r = .inl s' → endOk P opsA.toList s' = true)
    (h : Inv P F g s a w) (hrun : runO P F.np true takes call opsA.toList opsA.toList s = some r)
    (hk : ∀ g' s' a' w', r = .inl s' → Inv P F g' s' a' w' → Q .normal a' w') (ht : ∀ v a' w', r = .inr v → a'.defers = F.ds → Fr F.T F.w0 w' → KeptT opsA.toList a a' → Q (.panic [{ v := v, recovered := false }]) a' w') : (Code.region id opsA true).wp P Q a w := by
  have hp : pend opsA.size (Array.replicate opsA.size false) = List.range' 0 opsA.size := by
    unfold pend
    rw [List.filter_eq_self]
    intro i hi
    rw [List.mem_range'_1] at hi
    have : i < opsA.size := by omega
    simp [this]
  refine wp_region_any hm (wpAny_keep (a0 := a) _ _ a _ (KeptT.refl _ _) (any_sound (takes := takes) (Q := QK opsA.toList a Q) hst hok hcall r hthr hend (fun g' s' a' w' e hI _ => hk g' s' a' w' e hI) (fun v a' w' e hd hf hkt => ht v a' w' e hd hf (hkt fun e => by cases e)) opsA.size _ g s a _ (by simp) (fun k o hk hl => ?_) h.drew (by rw [hp]; simp) ?_))
  · by_cases hlt : k < opsA.size <;> simp [hlt] at hl
  · rw [hp]
    have := runI_range (P := P) (np := F.np) (takes := takes) (call := call) (ops := opsA.toList) opsA.toList 0 s (fun j _ => by rw [Nat.zero_add])
    rw [Array.length_toList] at this
    rw [this]; exact hrun
def plainRead (o : Oper) : Bool := match o.op with
  | .move _ | .fieldAddr .. | .load .. | .indexAddr .. | .binOp .. => true
  | .call { callee := .builtin .len, .. } => true
  | _ => false
def dstFree (o : Oper) (d : Nat) : Bool := !(o.dst == some d)
def hoistOk (P : Program) (ops : List Oper) : Bool :=
  let l := ops.map nopped
  let ms := masks l []
  drawnOk P l && (l.all okOp && ops.all (fun o => o.guard.isNone)) && (List.range ops.length).all fun j => match ops[j]? with
    | some o => bif isAlloc o then (match o.dst with | some d => (List.range ops.length).all fun i => Nat.beq i j || (match ops[i]? with | some x => dstFree x d | none => true) | none => false)
      else (plainRead o && (List.range ops.length).all (fun i => match ops[i]? with | some x => !isAlloc x || ((ms.getD j 0).testBit i || (match x.dst with | some d => !(looks ops o).contains d | none => true)) | none => true)) ||
        (List.range ops.length).all (fun i => match ops[i]? with | some x => !isAlloc x || (ms.getD j 0).testBit i | none => true)
    | none => true
def FreeC (d : Nat) (c : AV) : Prop := c.nobox1 d = c ∧ c.tok1 (killsF d 0 1024) = c
def FreeB (d : Nat) (c : AV) : Prop := c.nobox2 d = c ∧ c.tok2 (killsF d 0 1024) = c
def FreeA (d : Nat) (c : AV) : Prop := c.nobox d = c ∧ c.tok (killsF d 0 1024) = c
structure FreeS (d : Nat) (s : St) : Prop where
  t : ∀ x ∈ s.t, FreeA d x
  b : ∀ cs, some cs ∈ s.b → ∀ c ∈ cs, FreeC d c
theorem map_same {α : Type} {f : α → α} : ∀ {l : List α}, (∀ x ∈ l, f x = x) → l.map f = l
  | [], _ => rfl
  | x :: l, h => by rw [List.map_cons, h x (by simp), map_same fun y hy => h y (by simp [hy])]
theorem frC_sound {d : Nat} {c : AV} (h : frC d c = true) : FreeC d c := by
  have hb : ∀ e o, Nat.beq e d = false → (bif e == d then AV.dead else AV.box e o) = AV.box e o := fun e o he => by
    have : (e == d) = false := by
      rw [beq_eq_false_iff_ne]
      intro e2
      subst e2
      rw [Nat.beq_refl] at he
      cases he
    rw [this]; rfl
  cases c <;> first | exact ⟨rfl, rfl⟩ | skip
  case box e o =>
    exact ⟨hb e o (by simpa [frC] using h), rfl⟩
  case row t E l =>
    cases t with
    | none => exact ⟨rfl, rfl⟩
    | some m =>
      refine ⟨rfl, ?_⟩
      have h1 : (m / 1024 == d + 1) = false := by
        rw [beq_eq_false_iff_ne]
        intro e2
        have h : (!Nat.beq (m / 1024) (d + 1)) = true := h
        rw [e2, Nat.beq_refl] at h
        cases h
      show AV.row (bif m / 1024 == d + 1 && Nat.ble 0 (m % 1024) && Nat.blt (m % 1024) 1024 then none else some m) E l = _
      rw [h1]; rfl
  case fn f xs cs =>
    refine ⟨?_, rfl⟩
    have h1 : ∀ x ∈ xs ++ cs, AV.nobox0 d x = x := fun x hx => by
      have := List.all_eq_true.1 h x hx
      cases x <;> first | rfl | skip
      case box e o => exact hb e o (by simpa using this)
    show AV.fn f (xs.map _) (cs.map _) = _
    rw [map_same fun x hx => h1 x (by simp [hx]), map_same fun x hx => h1 x (by simp [hx])]
theorem frB_sound {d : Nat} {c : AV} (h : frB d c = true) : FreeB d c := by
  cases c <;> first | exact ⟨rfl, rfl⟩ | skip
  case box e o => exact frC_sound (c := .box e o) h
  case row t E l => exact frC_sound (c := .row t E l) h
  case fn f xs cs => exact frC_sound (c := .fn f xs cs) h
  case agg vs =>
    have h1 : ∀ x ∈ vs, FreeC d x := fun x hx => frC_sound (List.all_eq_true.1 h x hx)
    refine ⟨?_, ?_⟩
    · show AV.agg (vs.map _) = _
      rw [map_same fun x hx => (h1 x hx).1]
    · show AV.agg (vs.map _) = _
      rw [map_same fun x hx => (h1 x hx).2]
theorem frA_sound {d : Nat} {c : AV} (h : frA d c = true) : FreeA d c := by
  cases c <;> first | exact ⟨rfl, rfl⟩ | skip
  case box e o => exact frB_sound (c := .box e o) h
  case row t E l => exact frB_sound (c := .row t E l) h
  case fn f xs cs => exact frB_sound (c := .fn f xs cs) h
  case agg vs => exact frB_sound (c := .agg vs) h
  case tup vs =>
    have h1 : ∀ x ∈ vs, FreeB d x := fun x hx => frB_sound (List.all_eq_true.1 h x hx)
    refine ⟨?_, ?_⟩
    · show AV.tup (vs.map _) = _
      rw [map_same fun x hx => (h1 x hx).1]
    · show AV.tup (vs.map _) = _
      rw [map_same fun x hx => (h1 x hx).2]
theorem fresh_sound {s : St} {d : Nat} (h : s.fresh d = true) : FreeS d s := by
  unfold St.fresh at h
  rw [Bool.and_eq_true] at h
  exact ⟨fun x hx => frA_sound (List.all_eq_true.1 h.1 x hx), fun cs hcs c hc => frC_sound (List.all_eq_true.1 (List.all_eq_true.1 h.2 _ hcs) c hc)⟩
theorem newBox_free {s : St} {d : Nat} (h : FreeS d s) (cs : List AV) : s.newBox d cs = s.addBox d (cs.map (AV.nobox1 d)) := by
  have e1 : s.tok (killsF d 0 1024) = s := by
    obtain ⟨t, b⟩ := s
    show St.mk _ _ = _
    rw [map_same fun x hx => (h.t x hx).2, map_same fun x hx => ?_]
    cases x with
    | none => rfl
    | some cs => exact congrArg some (map_same fun c hc => (h.b cs hx c hc).2)
  unfold St.newBox St.addBox
  rw [e1]
  dsimp only
  rw [map_same fun x hx => (h.t x hx).1, map_same fun x hx => ?_]
  cases x with
  | none => rfl
  | some cs => exact congrArg some (map_same fun c hc => (h.b cs hx c hc).1)
theorem free_ofV {d : Nat} (x : Value) : FreeA d (St.ofV x) := by
  cases x <;> first | exact ⟨rfl, rfl⟩ | skip
  case agg cs =>
    refine ⟨?_, ?_⟩
    · show AV.agg ((cs.toList.map AV.v).map _) = AV.agg (cs.toList.map AV.v)
      rw [map_same fun x hx => by obtain ⟨y, _, rfl⟩ := List.mem_map.1 hx; rfl]
    · show AV.agg ((cs.toList.map AV.v).map _) = AV.agg (cs.toList.map AV.v)
      rw [map_same fun x hx => by obtain ⟨y, _, rfl⟩ := List.mem_map.1 hx; rfl]
theorem free_ev {s : St} {d : Nat} (h : FreeS d s) (y : Operand) : FreeA d (s.ev y) := by
  cases y with
  | tmp t =>
    show FreeA d (s.t.getD t .dead)
    rw [List.getD_eq_getElem?_getD]
    cases hq : s.t[t]? with
    | none => exact ⟨rfl, rfl⟩
    | some x => exact h.t x (List.mem_of_getElem? hq)
  | const x => exact free_ofV x
  | func g => exact ⟨rfl, rfl⟩
  | global g => exact ⟨rfl, rfl⟩
theorem free_cells {s : St} {d : Nat} (h : FreeS d s) {x : AV} {cs : List AV} (hc : s.cellsOf x = some cs) : ∀ c ∈ cs, FreeC d c := by
  cases x <;> first | cases hc | skip
  case box e off =>
    obtain ⟨l, hl, e2⟩ := Option.map_eq_some_iff.1 hc
    subst e2
    intro c hc
    obtain ⟨c0, h0, rfl⟩ := List.mem_map.1 hc
    have hm : some l ∈ s.b := by
      unfold St.boxAt at hl
      rw [List.getD_eq_getElem?_getD] at hl
      cases hq : s.b[e]? with
      | none => rw [hq] at hl; cases hl
      | some o => rw [hq] at hl; have : o = some l := hl; subst this; exact List.mem_of_getElem? hq
    have := h.b l hm c0 (List.mem_of_mem_drop h0)
    cases c0 <;> first | exact this | exact ⟨rfl, rfl⟩
  case ro l =>
    intro c hc
    obtain ⟨c0, h0, rfl⟩ := List.mem_map.1 hc
    cases c0 <;> exact ⟨rfl, rfl⟩
theorem free_part {P : Program} {d off : Nat} {T : TypeId} {cs : List AV} {v : AV} (h : ∀ c ∈ cs, FreeC d c) (hv : partAV P T cs off = some v) : FreeA d v := by
  unfold partAV at hv
  obtain ⟨ag, _, hv⟩ := Option.bind_eq_some_iff.1 hv
  cases ag
  · rw [cond_false] at hv
    obtain ⟨c, hc, hv⟩ := Option.bind_eq_some_iff.1 hv
    obtain ⟨hf, hv⟩ := bif_some hv
    have hv := Option.some.inj hv
    subst hv
    have := h c (List.mem_of_getElem? hc)
    cases c <;> first | exact this | cases hf
  · rw [cond_true] at hv
    obtain ⟨n, _, hv⟩ := Option.bind_eq_some_iff.1 hv
    obtain ⟨_, hv⟩ := bif_some hv
    cases hv
    have h1 : ∀ c ∈ (cs.drop off).take n, FreeC d c := fun c hc => h c (List.mem_of_mem_drop (List.mem_of_mem_take hc))
    refine ⟨?_, ?_⟩
    · show AV.agg (((cs.drop off).take n).map _) = _
      rw [map_same fun x hx => (h1 x hx).1]
    · show AV.agg (((cs.drop off).take n).map _) = _
      rw [map_same fun x hx => (h1 x hx).2]
theorem plain_free {P : Program} {s : St} {d : Nat} {o : Oper} {v : AV} (h : plainRead o = true) (hs : FreeS d s) (hv : rhs P o s = some v) : FreeA d v := by
  obtain ⟨dst, op, ty, pos, after, guard⟩ := o
  unfold plainRead at h
  dsimp only at h
  split at h
  · rename_i x
    have hv : some (s.ev x) = some v := hv
    cases hv
    exact free_ev hs x
  · rename_i T x f
    have hv : (fieldOf P T f).bind (fun (off, U) => (szT P U).bind fun n => bif n == 0 then none else
      (match s.ev x with | .box d o => some (.box d (o + off)) | .ro cs => some (.ro (cs.drop off)) | _ => none)) = some v := hv
    obtain ⟨⟨off, U⟩, _, hv⟩ := Option.bind_eq_some_iff.1 hv
    obtain ⟨n, _, hv⟩ := Option.bind_eq_some_iff.1 hv
    have hx := free_ev hs x
    cases hn : n == 0 <;> rw [hn] at hv
    · rw [cond_false] at hv
      split at hv
      · rename_i e o he
        cases hv
        rw [he] at hx
        refine ⟨?_, rfl⟩
        have h1 : (bif e == d then AV.dead else AV.box e o) = AV.box e o := hx.1
        show (bif e == d then AV.dead else AV.box e (o + off)) = AV.box e (o + off)
        cases hq : e == d <;> rw [hq] at h1
        · rfl
        · cases h1
      · cases hv; exact ⟨rfl, rfl⟩
      · cases hv
    · cases hv
  · rename_i T a
    have hv : (s.cellsOf (s.ev a)).bind (fun cs => partAV P T cs 0) = some v := hv
    obtain ⟨cs, hc, hv⟩ := Option.bind_eq_some_iff.1 hv
    exact free_part (free_cells hs hc) hv
  · rename_i T x i
    have hv : (match s.ev x, s.ev i with
      | .row _ E l, .v (.int _ i) => bif elemT P T == some E then (kinds P E).bind fun ks => bif szT P E == some ks.length then (idx l i).bind fun d => some (.ro (expand d ks 0)) else none else none
      | _, _ => none) = some v := hv
    split at hv
    · obtain ⟨_, hv⟩ := bif_some hv
      obtain ⟨ks, _, hv⟩ := Option.bind_eq_some_iff.1 hv
      obtain ⟨_, hv⟩ := bif_some hv
      obtain ⟨q, _, hv⟩ := Option.bind_eq_some_iff.1 hv
      cases hv
      exact ⟨rfl, rfl⟩
    · cases hv
  · rename_i op T x y b
    have hv : (match s.ev x, s.ev y with | .v a, .v b => bif boolOk P T y a then (pureOp op a b).map AV.v else none | .err, .v .nilIface => errCmp P op T y | _, _ => none) = some v := hv
    split at hv
    · obtain ⟨_, hv⟩ := bif_some hv
      obtain ⟨q, _, e⟩ := Option.map_eq_some_iff.1 hv
      subst e
      exact ⟨rfl, rfl⟩
    · unfold errCmp at hv
      obtain ⟨_, hv⟩ := bif_some hv
      split at hv
      · cases hv; exact ⟨rfl, rfl⟩
      · cases hv; exact ⟨rfl, rfl⟩
      · cases hv
    · cases hv
  · rename_i xs Ts
    have hv : (match xs.toList, Ts[0]? with
    | [x], some T => (match s.ev x with
      | .row _ _ l => bif (elemT P T).isSome then some (I l.length) else none
      | .v (.string x) => bif strT P T then some (I x.size) else none
      | .v (.slice none 0 0) => bif (elemT P T).isSome then some (I 0) else none
      | _ => none)
    | _, _ => none) = some v := hv
    split at hv
    · split at hv
      · obtain ⟨_, hv⟩ := bif_some hv; cases hv; exact ⟨rfl, rfl⟩
      · obtain ⟨_, hv⟩ := bif_some hv; cases hv; exact ⟨rfl, rfl⟩
      · obtain ⟨_, hv⟩ := bif_some hv; cases hv; exact ⟨rfl, rfl⟩
      · cases hv
    · cases hv
  · cases h
theorem plain_w {P : Program} {o : Oper} (h : plainRead o = true) : reads P o.op = true := by
  obtain ⟨dst, op, ty, pos, after, guard⟩ := o
  unfold plainRead at h
  dsimp only at h
  split at h <;> first | rfl | cases h
structure NewAt (P : Program) (np : Nat) (takes : FuncId → Option Nat) (call : CallF) (o : Oper) (d : Nat) (cs : List AV) (n : Nat) : Prop where
  run : ∀ s : St, s.t.length = n → FreeS d s → stE P np true takes call o s = some (.inl (s.addBox d cs))
theorem addBox_free {s : St} {d e : Nat} {cs : List AV} (h : FreeS e s) (hde : d ≠ e) (hc : ∀ c ∈ cs, FreeC e c) : FreeS e (s.addBox d cs) := by
  refine ⟨fun x hx => ?_, fun l hl c hcl => ?_⟩
  · rcases List.mem_or_eq_of_mem_set hx with h1 | h1
    · exact h.t x h1
    · subst h1
      refine ⟨?_, rfl⟩
      show (bif d == e then AV.dead else AV.box d 0) = _
      rw [beq_eq_false_iff_ne.2 hde]; rfl
  · rcases List.mem_or_eq_of_mem_set hl with h1 | h1
    · exact h.b l h1 c hcl
    · cases h1
      exact hc c hcl
theorem allocs_spec {ds : List Nat} : ∀ (r : List Oper) (s sh : St), allocsS P np ds r s = some sh → s.b.length = s.t.length →
    sh.t.length = s.t.length ∧ sh.b.length = s.b.length ∧ (∀ k, k ∉ allocDs r → sh.t[k]? = s.t[k]? ∧ sh.b[k]? = s.b[k]?) ∧
      ∀ o ∈ r, isAlloc o = true → ∀ d, o.dst = some d → ∃ cs, NewAt P np takes call o d cs s.t.length ∧ sh.t[d]? = some (.box d 0) ∧ sh.b[d]? = some (some cs) ∧ ∀ e ∈ ds, d ≠ e → ∀ c ∈ cs, FreeC e c
  | [], s, sh, h, hl => by
    cases h
    exact ⟨rfl, rfl, fun k _ => ⟨rfl, rfl⟩, fun o ho => by cases ho⟩
  | o :: r, s, sh, h, hl => by
    unfold allocsS at h
    split at h
    · rename_i T d hop hd
      obtain ⟨z, hz, h⟩ := Option.bind_eq_some_iff.1 h
      obtain ⟨ks, hk, h⟩ := Option.bind_eq_some_iff.1 h
      obtain ⟨hc, h⟩ := bif_some h
      simp only [Bool.and_eq_true] at hc
      obtain ⟨⟨⟨⟨⟨⟨c1, c2⟩, c3⟩, c4⟩, c7⟩, c5⟩, c6⟩ := hc
      have hal : isAlloc o = true := by unfold isAlloc; rw [hop]
      have hlt : d < s.t.length := Nat.le_of_ble_eq_true c4
      have hnd : d ∉ allocDs r := by simpa using c5
      obtain ⟨e1, e2, e3, e4⟩ := allocs_spec r _ sh h (by show (s.b.set d _).length = (s.t.set d _).length; rw [List.length_set, List.length_set]; exact hl)
      have l1 : (s.addBox d ((cellsAt (some T) d 0 ks z).map (AV.nobox1 d))).t.length = s.t.length := List.length_set ..
      have l2 : (s.addBox d ((cellsAt (some T) d 0 ks z).map (AV.nobox1 d))).b.length = s.b.length := List.length_set ..
      have hds : allocDs (o :: r) = d :: allocDs r := by
        unfold allocDs
        rw [List.filterMap_cons, hal]
        simp [hd]
      refine ⟨e1.trans l1, e2.trans l2, fun k hk => ?_, fun o' ho' hal' d' hd' => ?_⟩
      · rw [hds] at hk
        simp at hk
        obtain ⟨f1, f2⟩ := e3 k hk.2
        rw [f1, f2]
        exact ⟨List.getElem?_set_ne (Ne.symm hk.1), List.getElem?_set_ne (Ne.symm hk.1)⟩
      · rcases List.mem_cons.1 ho' with h1 | h1
        · subst h1
          have hdd : d' = d := Option.some.inj (hd'.symm.trans hd)
          subst hdd
          obtain ⟨f1, f2⟩ := e3 d' hnd
          refine ⟨_, ⟨fun s2 hs2 hf2 => ?_⟩, f1.trans (List.getElem?_set_self (l := s.t) hlt), f2.trans (show (s.b.set d' _)[d']? = _ from List.getElem?_set_self (by rw [hl]; exact hlt)), fun e he hne c hcm => ?_⟩
          · have nr : stE P np true takes call o' s2 = evX P np takes call (fun v => some (.inr v)) o' s2 (fun s => some (.inl s)) := by
              obtain ⟨dst, op, ty, pos, after, guard⟩ := o'
              dsimp only at hop
              subst hop
              rfl
            rw [nr]
            unfold evX
            rw [hop, hd]
            dsimp only
            rw [hz, Option.bind_some, hk, Option.bind_some, c1, c2, c3, hs2, c4, c7]
            simp only [Bool.and_self, cond_true]
            rw [newBox_free hf2]
          · have h5 := List.all_eq_true.1 (List.all_eq_true.1 c6 c hcm) e he
            rw [Bool.or_eq_true] at h5
            rcases h5 with h5 | h5
            · exact absurd (Nat.eq_of_beq_eq_true h5).symm hne
            · exact frC_sound h5
        · obtain ⟨cs, g1, g2, g3, g4⟩ := e4 o' h1 hal' d' hd'
          rw [l1] at g1
          exact ⟨cs, g1, g2, g3, g4⟩
    · rename_i hno
      obtain ⟨e1, e2, e3, e4⟩ := allocs_spec r _ sh h hl
      have hds : ∀ d, isAlloc o = true → o.dst = some d → False := fun d ha hd => by
        unfold isAlloc at ha
        split at ha
        · rename_i T hop
          exact hno T d hop hd
        · cases ha
      have hds2 : allocDs (o :: r) = allocDs r := by
        unfold allocDs
        rw [List.filterMap_cons]
        cases ha : isAlloc o
        · rfl
        · cases hd : o.dst with
          | none => simp [hd]
          | some d => exact (hds d ha hd).elim
      refine ⟨e1, e2, fun k hk => e3 k (by rwa [hds2] at hk), fun o' ho' hal' d' hd' => ?_⟩
      rcases List.mem_cons.1 ho' with h1 | h1
      · subst h1
        exact (hds d' hal' hd').elim
      · exact e4 o' h1 hal' d' hd'
def Pnd (ops : List Oper) (listed : Array Bool) (d : Nat) : Prop := ∃ (i : Nat) (o : Oper), ops[i]? = some o ∧ isAlloc o = true ∧ o.dst = some d ∧ listed.getD i true = false
structure Hst (P : Program) (np : Nat) (takes : FuncId → Option Nat) (call : CallF) (ops : List Oper) (listed : Array Bool) (sa sh : St) : Prop where
  lt : sa.t.length = sh.t.length
  lb : sa.b.length = sh.b.length
  t : ∀ k, ¬ Pnd ops listed k → sa.t[k]? = sh.t[k]?
  b : ∀ k, ¬ Pnd ops listed k → sa.b[k]? = sh.b[k]?
  new : ∀ (i : Nat) (o : Oper) d, ops[i]? = some o → isAlloc o = true → o.dst = some d → listed.getD i true = false →
    ∃ cs, NewAt P np takes call o d cs sh.t.length ∧ sh.t[d]? = some (.box d 0) ∧ sh.b[d]? = some (some cs) ∧ ∀ e, Pnd ops listed e → d ≠ e → ∀ c ∈ cs, FreeC e c
  free : ∀ d, Pnd ops listed d → FreeS d sa
theorem hst_same {listed : Array Bool} {sa sh : St} (h : Hst P np takes call ops listed sa sh) (hn : ∀ d, ¬ Pnd ops listed d) : sa = sh := by
  obtain ⟨t, b⟩ := sa
  obtain ⟨t', b'⟩ := sh
  have e1 : t = t' := List.ext_getElem? fun k => h.t k (hn k)
  have e2 : b = b' := List.ext_getElem? fun k => h.b k (hn k)
  rw [e1, e2]
theorem nop_after (o : Oper) : (nopped o).after = o.after := by unfold nopped; cases isAlloc o <;> rfl
theorem nop_keep {o : Oper} (h : isAlloc o = false) : nopped o = o := by unfold nopped; rw [h]; rfl
theorem nop_run {o : Oper} (h : isAlloc o = true) {l : List Oper} (s : St) : stO P np true takes call l (nopped o) s = some (.inl s) := by
  have e : nopped o = { o with dst := none, op := .move (.const (.bool false)), guard := none } := by unfold nopped; rw [h]; rfl
  rw [e]
  rfl
theorem stO_plain {o : Oper} (h : o.guard = none) {l : List Oper} (s : St) : stO P np true takes call l o s = stE P np true takes call o s := by
  unfold stO
  rw [h]
  rfl
theorem any_hoist {opsA : Array Oper} (hst : hoistOk P opsA.toList = true) (hok : ∀ o ∈ opsA.toList, okOp o = true) (hcall : SoundCall P call) {Q : Exit → Act → World → Prop} (r : St ⊕ Value) (hthr : ∀ v, r = .inr v → thrOk (opsA.toList.map nopped) = true) (hend : ∀ s', r = .inl s' → endOk P (opsA.toList.map nopped) s' = true)
    (hk : ∀ g' s' a' w', r = .inl s' → Inv P F g' s' a' w' → Q .normal a' w') (ht : ∀ v a' w', r = .inr v → a'.defers = F.ds → Fr F.T F.w0 w' → Q (.panic [{ v := v, recovered := false }]) a' w') :
    ∀ (fuel : Nat) (listed : Array Bool) (g : Gh) (s sh : St) (a : Act) (w : World), listed.size = opsA.size → Closed (opsA.toList.map nopped) listed → Inv P F g s a w → Hst P F.np takes call opsA.toList listed s sh → (pend opsA.size listed).length ≤ fuel →
      runI P F.np takes call (opsA.toList.map nopped) (pend opsA.size listed) sh = some r → wpAny P .any opsA Q fuel listed a w := by
  unfold hoistOk at hst
  simp only [Bool.and_eq_true] at hst
  obtain ⟨⟨hdr, hokl, hgd⟩, hall⟩ := hst
  have hgd : ∀ o ∈ opsA.toList, o.guard = none := fun o ho => by
    have := List.all_eq_true.1 hgd o ho
    cases hq : o.guard with
    | none => rfl
    | some q => rw [hq] at this; cases this
  generalize hL : opsA.toList.map nopped = l at *
  have hlen : l.length = opsA.size := by rw [← hL, List.length_map, Array.length_toList]
  have hget : ∀ (j : Nat) o, opsA.toList[j]? = some o → l[j]? = some (nopped o) := fun j o h => by rw [← hL, List.getElem?_map, h]; rfl
  have hdr2 : ∀ (j : Nat) y, l[j]? = some y → (∀ e ∈ y.after.toList, Region.binds .any e = true → e.on < j) ∧ ∀ i, i < j → ((masks l []).getD j 0).testBit i = true ∨ ∀ x, l[i]? = some x → pairOk P l x y = true ∨ pairDyn P l i j x y = true := by
    intro j y hy
    unfold drawnOk at hdr
    have := List.all_eq_true.1 hdr j (List.mem_range.2 (List.getElem?_eq_some_iff.1 hy).1)
    rw [hy] at this
    simp only [Bool.and_eq_true, List.all_eq_true] at this
    refine ⟨fun e he hb => ?_, fun i hi => ?_⟩
    · have h1 := this.1 e he
      rw [hb] at h1
      have h2 : Nat.blt e.on j = true := h1
      exact Nat.le_of_ble_eq_true h2
    · have := this.2 i (List.mem_range.2 hi)
      rw [Bool.or_eq_true] at this
      refine this.imp id fun h x hx => ?_
      rw [hx] at h
      exact (Bool.or_eq_true _ _).mp h
  -- what is asked of each
  have hA : ∀ (j : Nat) o, opsA.toList[j]? = some o → isAlloc o = true → ∃ d, o.dst = some d ∧ ∀ (i : Nat) x, opsA.toList[i]? = some x → i ≠ j → x.dst ≠ some d := fun j o ho ha => by
    have hlt := (List.getElem?_eq_some_iff.1 ho).1
    have := List.all_eq_true.1 hall j (List.mem_range.2 hlt)
    rw [ho] at this
    dsimp only at this
    rw [ha, cond_true] at this
    cases hd : o.dst with
    | none => rw [hd] at this; cases this
    | some d =>
      rw [hd] at this
      refine ⟨d, rfl, fun i x hx hij e => ?_⟩
      have h1 := List.all_eq_true.1 this i (List.mem_range.2 (List.getElem?_eq_some_iff.1 hx).1)
      rw [hx, Bool.or_eq_true] at h1
      rcases h1 with h1 | h1
      · exact hij (Nat.eq_of_beq_eq_true h1)
      · dsimp only at h1
        unfold dstFree at h1
        rw [e] at h1
        simp at h1
  have hN : ∀ (j : Nat) o, opsA.toList[j]? = some o → isAlloc o = false → (plainRead o = true ∧ ∀ (i : Nat) x d, opsA.toList[i]? = some x → isAlloc x = true → x.dst = some d → ((masks l []).getD j 0).testBit i = true ∨ d ∉ looks opsA.toList o) ∨
      (∀ (i : Nat) x, opsA.toList[i]? = some x → isAlloc x = true → ((masks l []).getD j 0).testBit i = true) := fun j o ho ha => by
    have hlt := (List.getElem?_eq_some_iff.1 ho).1
    have := List.all_eq_true.1 hall j (List.mem_range.2 hlt)
    rw [ho] at this
    dsimp only at this
    rw [ha, cond_false, Bool.or_eq_true, Bool.and_eq_true] at this
    refine this.imp (fun h => ⟨h.1, fun i x d hx hax hd => ?_⟩) fun h i x hx hax => ?_
    · have h1 := List.all_eq_true.1 h.2 i (List.mem_range.2 (List.getElem?_eq_some_iff.1 hx).1)
      rw [hx] at h1
      dsimp only at h1
      rw [hax, hd] at h1
      simpa using h1
    · have h1 := List.all_eq_true.1 h i (List.mem_range.2 (List.getElem?_eq_some_iff.1 hx).1)
      rw [hx] at h1
      dsimp only at h1
      rw [hax] at h1
      simpa using h1
  have hmin : ∀ listed : Array Bool, listed.size = opsA.size → Region.ready .any opsA listed = [] → pend opsA.size listed = [] := fun listed hsz hr => by
    cases hp : pend opsA.size listed with
    | nil => rfl
    | cons i r2 =>
      have hi : i ∈ pend opsA.size listed := by rw [hp]; simp
      obtain ⟨h1, h2⟩ := List.mem_filter.1 hi
      rw [List.mem_range'_1] at h1
      have hlt : i < opsA.size := by omega
      obtain ⟨A, C, e1, e2, e3, e4, e5⟩ := pend_split hlt (by simpa using h2) hsz
      have hA0 : A = [] := by
        cases A with
        | nil => rfl
        | cons k A =>
          rw [hp] at e1
          cases e1
          exact absurd (e2 i (by simp)).1 (Nat.lt_irrefl _)
      have hbelow : ∀ k, k < i → listed.getD k true = true := fun k hk => by
        cases hkl : listed.getD k true with
        | true => rfl
        | false =>
          obtain ⟨A', C', e1', e2', e3', _, _⟩ := pend_split (n := opsA.size) (j := k) (by omega) hkl hsz
          rw [hp] at e1'
          cases A' with
          | nil => cases e1'; exact absurd hk (Nat.lt_irrefl _)
          | cons q A' => cases e1'; exact absurd (e2' i (by simp)).1 (by omega)
      have hrdy : i ∈ Region.ready .any opsA listed := by
        rw [mem_ready]
        refine ⟨by simpa using h2, opsA[i], Array.getElem?_eq_getElem hlt, fun e he hb => ?_⟩
        have hon := (hdr2 i (nopped opsA[i]) (hget i opsA[i] (by simp [hlt]))).1 e (by rw [nop_after]; simpa using he) hb
        have := hbelow e.on hon
        rw [Array.getD_eq_getD_getElem?] at this ⊢
        rw [Array.getElem?_eq_getElem (by omega)] at this ⊢
        exact this
      rw [hr] at hrdy
      cases hrdy
  have hnone : ∀ listed : Array Bool, listed.size = opsA.size → pend opsA.size listed = [] → ∀ d, ¬ Pnd opsA.toList listed d := fun listed hsz hp d ⟨i, o, ho, _, _, hl⟩ => by
    have hlt : i < opsA.size := by simpa using (List.getElem?_eq_some_iff.1 ho).1
    obtain ⟨A, C, e1, _⟩ := pend_split (n := opsA.size) (j := i) hlt hl hsz
    rw [hp] at e1
    cases A <;> cases e1
  intro fuel
  induction fuel with
  | zero =>
    intro listed g s sh a w hsz hcl h hH hlen2 hrun
    have hnil : pend opsA.size listed = [] := List.length_eq_zero_iff.1 (by omega)
    rw [hnil] at hrun
    cases hrun
    have hs := hst_same hH (hnone listed hsz hnil)
    subst hs
    refine ⟨?_, hk g s a w rfl h⟩
    cases hr : Region.ready .any opsA listed with
    | nil => rfl
    | cons j r2 =>
      have hj : j ∈ Region.ready .any opsA listed := by rw [hr]; simp
      rw [mem_ready] at hj
      obtain ⟨h1, o, ho, _⟩ := hj
      obtain ⟨A, C, e1, _, _, _, _⟩ := pend_split (Array.getElem?_eq_some_iff.1 ho).1 h1 hsz
      rw [hnil] at e1
      cases A <;> cases e1
  | succ fuel ih =>
    intro listed g s sh a w hsz hcl h hH hlen2 hrun
    refine ⟨fun hr => ?_, fun j hj => ?_⟩
    · have hnil := hmin listed hsz hr
      rw [hnil] at hrun
      cases hrun
      have hs := hst_same hH (hnone listed hsz hnil)
      subst hs
      exact hk g s a w rfl h
    · rw [mem_ready] at hj
      obtain ⟨h1, o, ho, hdeps⟩ := hj
      have hlt := (Array.getElem?_eq_some_iff.1 ho).1
      have ho' : opsA.toList[j]? = some o := by rw [Array.getElem?_toList]; exact ho
      have hy := hget j o ho'
      have hdeps' : ∀ e ∈ (nopped o).after.toList, Region.binds .any e = true → listed.getD e.on false = true := fun e he hb => by
        rw [nop_after] at he
        exact hdeps e (by simpa using he) hb
      obtain ⟨A, C, e1, e2, e3, e4, e5⟩ := pend_split hlt h1 hsz
      have hwl : ∀ i, ((masks l []).getD j 0).testBit i = true → listed.getD i false = true := fun i hw => waits_listed (fun j o ho => (hdr2 j o ho).1) hcl j _ hy hdeps' i hw
      have hTF : ∀ i, listed.getD i false = true → listed.getD i true = false → False := fun i g1 g2 => by
        rw [Array.getD_eq_getD_getElem?] at g1 g2
        cases hq : listed[i]? with
        | none => rw [hq] at g1; cases g1
        | some b => rw [hq] at g1 g2; simp at g1 g2; rw [g1] at g2; cases g2
      have hnw : ∀ i, i ∈ A → ((masks l []).getD j 0).testBit i = true → False := fun i hi hw => hTF i (hwl i hw) (e2 i hi).2
      rw [e1] at hrun
      have hmf : ∀ i, i ∈ A → ((masks l []).getD j 0).testBit i = false := fun i hi => by
        cases hq : ((masks l []).getD j 0).testBit i
        · rfl
        · exact (hnw i hi hq).elim
      have hb := bubble (P := P) (np := F.np) (takes := takes) (call := call) hy C r e5 (fun s' e i x p hij hx hm hpo hlc => List.all_eq_true.1 (hend s' e) p (needs_mem hij hx hy hm hpo hlc)) A sh e4 (fun i hi => by
        have hij := (e2 i hi).1
        have hil : i < l.length := by omega
        have hx : l[i]? = some l[i] := List.getElem?_eq_getElem hil
        refine ⟨hij, hmf i hi, l[i], hx, ?_⟩
        rcases (hdr2 j _ hy).2 i hij with hw | hw
        · exact (hnw i hi hw).elim
        · exact hw _ hx) (fun v hv i hi => by
        have hij := (e2 i hi).1
        have hil : i < l.length := by omega
        have hx : l[i]? = some l[i] := List.getElem?_eq_getElem hil
        cases hisT : thrAt l i with
        | false => rfl
        | true =>
        unfold thrAt at hisT
        rw [hx] at hisT
        dsimp only at hisT
        have hT := hthr v hv
        unfold thrOk at hT
        have := List.all_eq_true.1 hT i (List.mem_range.2 hil)
        rw [hx] at this
        dsimp only at this
        have hall : ((List.range l.length).all fun j => Nat.ble j i || ((masks l []).getD j 0).testBit i) = true := by
          unfold isThr at hisT
          split at hisT
          · rename_i hop; rw [hop] at this; exact this
          · rename_i hop; rw [hop] at this; exact this
          · rename_i hop; rw [hop] at this; exact this
          · cases hisT
        have := List.all_eq_true.1 hall j (List.mem_range.2 (by omega))
        rw [Bool.or_eq_true] at this
        rcases this with h3 | h3
        · have := Nat.le_of_ble_eq_true h3; omega
        · exact (hnw i hi h3).elim) hrun
      simp only [runI] at hb
      unfold stI at hb
      rw [hy] at hb
      dsimp only at hb
      unfold wpOp
      rw [ho]
      have hcl' : Closed l (listed.setIfInBounds j true) := fun k o2 hk2 hl2 e he hbd => by
        by_cases hkj : j = k
        · subst hkj
          rw [hy] at hk2
          cases hk2
          exact getD_set_true (hdeps' e he hbd)
        · rw [getD_set_ne false hkj] at hl2
          exact getD_set_true (hcl k o2 hk2 hl2 e he hbd)
      have hlen3 : (pend opsA.size (listed.setIfInBounds j true)).length ≤ fuel := by
        rw [e3]
        rw [e1] at hlen2
        simp at hlen2 ⊢
        omega
      have hgo : o.guard = none := hgd o (List.mem_of_getElem? ho')
      have hoO := hok o (List.mem_of_getElem? ho')
      have hpn : ∀ k, Pnd opsA.toList (listed.setIfInBounds j true) k → Pnd opsA.toList listed k := fun k ⟨i, x, g1, g2, g3, g4⟩ => ⟨i, x, g1, g2, g3, by
        by_cases hij : j = i
        · subst hij; rw [getD_set_self hsz hlt] at g4; cases g4
        · rwa [getD_set_ne true hij] at g4⟩
      cases ha : isAlloc o with
      | true =>
        rw [nop_run ha] at hb
        obtain ⟨d, hd, huniq⟩ := hA j o ho' ha
        have hP : Pnd opsA.toList listed d := ⟨j, o, ho', ha, hd, h1⟩
        obtain ⟨cs, n1, n2, n3, n4⟩ := hH.new j o d ho' ha hd h1
        have hs : stO P F.np true takes call opsA.toList o s = some (.inl (s.addBox d cs)) := (stO_plain hgo s).trans (n1.run s hH.lt (hH.free d hP))
        refine stO_sound hcall h hoO hs (fun g' s' a' w' e hI => ?_) (fun v a' w' e hd hf => by cases e)
        cases e
        have hdl : d < sh.t.length := (List.getElem?_eq_some_iff.1 n2).1
        have hdl2 : d < sh.b.length := (List.getElem?_eq_some_iff.1 n3).1
        have hne : ∀ k, ¬ Pnd opsA.toList (listed.setIfInBounds j true) k → k ≠ d → ¬ Pnd opsA.toList listed k := fun k hk hkd ⟨i, x, g1, g2, g3, g4⟩ => by
          by_cases hij : j = i
          · subst hij
            rw [ho'] at g1
            cases g1
            exact hkd (Option.some.inj (g3.symm.trans hd))
          · exact hk ⟨i, x, g1, g2, g3, by rwa [getD_set_ne true hij]⟩
        have hpd : ∀ e, Pnd opsA.toList (listed.setIfInBounds j true) e → d ≠ e := fun e ⟨i, x, g1, g2, g3, g4⟩ hde => by
          subst hde
          by_cases hij : j = i
          · subst hij; rw [getD_set_self hsz hlt] at g4; cases g4
          · exact huniq i x g1 (Ne.symm hij) g3
        refine ih (listed.setIfInBounds j true) g' _ sh a' w' (by simp [hsz]) hcl' hI ⟨?_, ?_, fun k hk => ?_, fun k hk => ?_, fun i x e hx hax he hli => ?_, fun e he => ?_⟩ hlen3 (by rw [e3]; exact hb)
        · show (s.t.set d _).length = _; rw [List.length_set]; exact hH.lt
        · show (s.b.set d _).length = _; rw [List.length_set]; exact hH.lb
        · show (s.t.set d _)[k]? = _
          by_cases hkd : k = d
          · subst hkd; rw [List.getElem?_set_self (by rw [hH.lt]; exact hdl), n2]
          · rw [List.getElem?_set_ne (Ne.symm hkd)]; exact hH.t k (hne k hk hkd)
        · show (s.b.set d _)[k]? = _
          by_cases hkd : k = d
          · subst hkd; rw [List.getElem?_set_self (by rw [hH.lb]; exact hdl2), n3]
          · rw [List.getElem?_set_ne (Ne.symm hkd)]; exact hH.b k (hne k hk hkd)
        · have hij : j ≠ i := fun q => by subst q; rw [getD_set_self hsz hlt] at hli; cases hli
          rw [getD_set_ne true hij] at hli
          obtain ⟨cs2, m1, m2, m3, m4⟩ := hH.new i x e hx hax he hli
          exact ⟨cs2, m1, m2, m3, fun q hq hne c hc => m4 q (hpn q hq) hne c hc⟩
        · exact addBox_free (hH.free e (hpn e he)) (hpd e he) (fun c hc => n4 e (hpn e he) (hpd e he) c hc)
      | false =>
        rw [nop_keep ha, stO_plain hgo] at hb
        have hpn2 : ∀ k, Pnd opsA.toList listed k → Pnd opsA.toList (listed.setIfInBounds j true) k := fun k ⟨i, x, g1, g2, g3, g4⟩ => ⟨i, x, g1, g2, g3, by
          by_cases hij : j = i
          · subst hij; rw [ho'] at g1; cases g1; rw [ha] at g2; cases g2
          · rwa [getD_set_ne true hij]⟩
        rcases hN j o ho' ha with ⟨hpr, hlk⟩ | hw
        · have hrd := plain_w (P := P) hpr
          have hst : ∀ s2 : St, stE P F.np true takes call o s2 = (rhs P o s2).map fun x => .inl (s2.put o.dst x) := fun s2 => by
            rw [← stO_plain hgo (l := opsA.toList), stO_w (by unfold wOp; rw [hrd]; rfl)]
            unfold wval
            rw [hgo, hrd]
            rfl
          rw [hst] at hb
          have hnp : ∀ t ∈ looks opsA.toList o, ¬ Pnd opsA.toList listed t := fun t htl ⟨i, x, g1, g2, g3, g4⟩ => by
            rcases hlk i x t g1 g2 g3 with hw | hw
            · exact hTF i (hwl i hw) g4
            · exact hw htl
          have hev : ∀ y ∈ o.op.operands.toList, s.ev y = sh.ev y := fun y hy => by
            cases y with
            | tmp t =>
              have := hH.t t (hnp t (by unfold looks; exact List.mem_append.2 (.inl (List.mem_filterMap.2 ⟨_, hy, rfl⟩))))
              show s.t.getD t .dead = sh.t.getD t .dead
              rw [List.getD_eq_getElem?_getD, List.getD_eq_getElem?_getD, this]
            | const x => rfl
            | func g => rfl
            | global g => rfl
          have hrhs : rhs P o s = rhs P o sh := rhs_congr' (fun T x hop => by
            have hx : s.ev x = sh.ev x := hev x (by rw [hop]; simp [Op.operands])
            rw [← hx]
            cases hA2 : s.ev x <;> first | rfl | skip
            rename_i e off
            have hnp2 : ¬ Pnd opsA.toList listed e := fun hp => by
              have := (free_ev (hH.free e hp) x).1
              rw [hA2] at this
              have h9 : (bif e == e then AV.dead else AV.box e off) = AV.box e off := this
              rw [beq_self_eq_true] at h9
              cases h9
            show (s.boxAt e).map _ = (sh.boxAt e).map _
            unfold St.boxAt
            rw [List.getD_eq_getElem?_getD, List.getD_eq_getElem?_getD, hH.b e hnp2]) hev
          cases hv : rhs P o sh with
          | none => rw [hv] at hb; cases hb
          | some v =>
            rw [hv] at hb
            have hvs : rhs P o s = some v := hrhs.trans hv
            have hs : stO P F.np true takes call opsA.toList o s = some (.inl (s.put o.dst v)) := by rw [stO_plain hgo, hst, hvs]; rfl
            refine stO_sound hcall h hoO hs (fun g' s' a' w' e hI => ?_) (fun v a' w' e hd hf => by cases e)
            cases e
            have hpl : ∀ s2 : St, (s2.put o.dst v).t.length = s2.t.length ∧ (s2.put o.dst v).b = s2.b := fun s2 => by
              cases o.dst with
              | none => exact ⟨rfl, rfl⟩
              | some d => exact ⟨List.length_set .., rfl⟩
            refine ih (listed.setIfInBounds j true) g' _ (sh.put o.dst v) a' w' (by simp [hsz]) hcl' hI ⟨?_, ?_, fun k hk => ?_, fun k hk => ?_, fun i x e hx hax he hli => ?_, fun e he => ?_⟩ hlen3 (by rw [e3]; exact hb)
            · rw [(hpl s).1, (hpl sh).1]; exact hH.lt
            · rw [(hpl s).2, (hpl sh).2]; exact hH.lb
            · have hk2 := hH.t k (fun hp => hk (hpn2 k hp))
              cases hd : o.dst with
              | none => exact hk2
              | some d =>
                show (s.t.set d v)[k]? = (sh.t.set d v)[k]?
                rw [List.getElem?_set, List.getElem?_set, hH.lt, hk2]
            · rw [(hpl s).2, (hpl sh).2]; exact hH.b k (fun hp => hk (hpn2 k hp))
            · have hij : j ≠ i := fun q => by subst q; rw [getD_set_self hsz hlt] at hli; cases hli
              rw [getD_set_ne true hij] at hli
              obtain ⟨cs2, m1, m2, m3, m4⟩ := hH.new i x e hx hax he hli
              rw [(hpl sh).1, (hpl sh).2]
              refine ⟨cs2, m1, ?_, m3, fun q hq hne c hc => m4 q (hpn q hq) hne c hc⟩
              obtain ⟨d2, hd2, hu2⟩ := hA i x hx hax
              have hed : d2 = e := Option.some.inj (hd2.symm.trans he)
              subst hed
              have hod := hu2 j o ho' hij
              cases hd : o.dst with
              | none => exact m2
              | some d =>
                show (sh.t.set d v)[d2]? = _
                rw [List.getElem?_set_ne (fun q => hod (by rw [hd, q]))]
                exact m2
            · have hf := hH.free e (hpn e he)
              have hvf := plain_free hpr hf hvs
              cases hd : o.dst with
              | none => exact hf
              | some d =>
                refine ⟨fun x hx => ?_, hf.b⟩
                rcases List.mem_or_eq_of_mem_set hx with h9 | h9
                · exact hf.t x h9
                · subst h9; exact hvf
        · have hnp : ∀ d, ¬ Pnd opsA.toList listed d := fun d ⟨i, x, g1, g2, g3, g4⟩ => hTF i (hwl i (hw i x g1 g2)) g4
          have hs := hst_same hH hnp
          subst hs
          cases hs2 : stE P F.np true takes call o s with
          | none => rw [hs2] at hb; cases hb
          | some r1 =>
            rw [hs2] at hb
            have hs3 : stO P F.np true takes call opsA.toList o s = some r1 := (stO_plain hgo s).trans hs2
            refine stO_sound hcall h hoO hs3 (fun g' s' a' w' e hI => ?_) (fun v a' w' e hd hf => ?_)
            · subst e
              have hnp' : ∀ d, ¬ Pnd opsA.toList (listed.setIfInBounds j true) d := fun d hp => hnp d (hpn d hp)
              refine ih (listed.setIfInBounds j true) g' s' s' a' w' (by simp [hsz]) hcl' hI ⟨rfl, rfl, fun _ _ => rfl, fun _ _ => rfl, fun i x e hx hax he hli => (hnp' e ⟨i, x, hx, hax, he, hli⟩).elim, fun e he => (hnp' e he).elim⟩ hlen3 (by rw [e3]; exact hb)
            · subst e
              cases hb
              exact ht v a' w' rfl hd hf
theorem region_hoist {id : Nat} {opsA : Array Oper} {g : Gh} {s sh : St} {a : Act} {w : World} (hm : P.follows .mixedOrders = true) (hst : hoistOk P opsA.toList = true) (hok : ∀ o ∈ opsA.toList, okOp o = true) (hcall : SoundCall P call) {Q : Exit → Act → World → Prop} (r : St ⊕ Value) (hthr : ∀ v, r = .inr v → thrOk (opsA.toList.map nopped) = true) (hend : ∀ s', r = .inl s' → endOk P (opsA.toList.map nopped) s' = true)
    (h : Inv P F g s a w) (hfr : (allocDs opsA.toList).all s.fresh = true) (hsh : allocsS P F.np (allocDs opsA.toList) opsA.toList s = some sh) (hrun : runO P F.np true takes call (opsA.toList.map nopped) (opsA.toList.map nopped) sh = some r)
    (hk : ∀ g' s' a' w', r = .inl s' → Inv P F g' s' a' w' → Q .normal a' w') (ht : ∀ v a' w', r = .inr v → a'.defers = F.ds → Fr F.T F.w0 w' → KeptT opsA.toList a a' → Q (.panic [{ v := v, recovered := false }]) a' w') : (Code.region id opsA true).wp P Q a w := by
  have hp : pend opsA.size (Array.replicate opsA.size false) = List.range' 0 opsA.size := by
    unfold pend
    rw [List.filter_eq_self]
    intro i hi
    rw [List.mem_range'_1] at hi
    have : i < opsA.size := by omega
    simp [this]
  have hmemD : ∀ (i : Nat) o d, opsA.toList[i]? = some o → isAlloc o = true → o.dst = some d → d ∈ allocDs opsA.toList := fun i o d ho ha hd => by
    unfold allocDs
    exact List.mem_filterMap.2 ⟨o, List.mem_of_getElem? ho, by rw [ha]; exact hd⟩
  obtain ⟨e1, e2, e3, e4⟩ := allocs_spec (P := P) (np := F.np) (takes := takes) (call := call) opsA.toList s sh hsh h.blen
  refine wp_region_any hm (wpAny_keep (a0 := a) _ _ a _ (KeptT.refl _ _) (any_hoist (takes := takes) (Q := QK opsA.toList a Q) hst hok hcall r hthr hend (fun g' s' a' w' e hI _ => hk g' s' a' w' e hI) (fun v a' w' e hd hf hkt => ht v a' w' e hd hf (hkt fun e => by cases e)) opsA.size _ g s sh a _ (by simp) (fun k o hk hl => ?_) h.drew ⟨e1.symm, e2.symm, fun k hk => ?_, fun k hk => ?_, fun i o d ho ha hd hl => ?_, fun d ⟨i, o, ho, ha, hd, hl⟩ => ?_⟩ (by rw [hp]; simp) ?_))
  · by_cases hlt : k < opsA.size <;> simp [hlt] at hl
  · refine (e3 k fun hm => hk ?_).1.symm
    unfold allocDs at hm
    obtain ⟨o, ho, hod⟩ := List.mem_filterMap.1 hm
    obtain ⟨i, hi⟩ := List.getElem?_of_mem ho
    have hlt : i < opsA.size := by simpa using (List.getElem?_eq_some_iff.1 hi).1
    cases ha : isAlloc o <;> rw [ha] at hod
    · cases hod
    · exact ⟨i, o, hi, ha, hod, by simp [hlt]⟩
  · refine (e3 k fun hm => hk ?_).2.symm
    unfold allocDs at hm
    obtain ⟨o, ho, hod⟩ := List.mem_filterMap.1 hm
    obtain ⟨i, hi⟩ := List.getElem?_of_mem ho
    have hlt : i < opsA.size := by simpa using (List.getElem?_eq_some_iff.1 hi).1
    cases ha : isAlloc o <;> rw [ha] at hod
    · cases hod
    · exact ⟨i, o, hi, ha, hod, by simp [hlt]⟩
  · obtain ⟨cs, n1, n2, n3, n4⟩ := e4 o (List.mem_of_getElem? ho) ha d hd
    rw [e1]
    exact ⟨cs, n1, n2, n3, fun e ⟨i2, o2, ho2, ha2, hd2, _⟩ hne c hc => n4 e (hmemD i2 o2 e ho2 ha2 hd2) hne c hc⟩
  · exact fresh_sound (List.all_eq_true.1 hfr d (hmemD i o d ho ha hd))
  · rw [hp]
    have := runI_range (P := P) (np := F.np) (takes := takes) (call := call) (ops := opsA.toList.map nopped) (opsA.toList.map nopped) 0 sh (fun j _ => by rw [Nat.zero_add])
    rw [List.length_map, Array.length_toList] at this
    rw [this]; exact hrun
end
end Go.Proofs.YtckdgcpomkefpaaGreatDoor.En
end
section
set_option linter.unusedVariables false
set_option linter.unusedSimpArgs false
namespace Go.Proofs.YtckdgcpomkefpaaGreatDoor.En
open Go
def okCode (P : Program) : Code → Bool
  | .skip => true
  | .region _ ops dr => ops.toList.all okOp && okGroups ops.toList ops.toList && (!dr || (bif manyAlloc ops.toList then hoistOk P ops.toList && okGroups (ops.toList.map nopped) (ops.toList.map nopped) else drawnOk P ops.toList))
  | .seq a b => okCode P a && okCode P b
  | .cond c a b => okO c && okCode P a && okCode P b
  | .block _ c => okCode P c
  | .loop c => okCode P c
  | .exit _ => true
  | .ret => true
  | _ => false
def exitOf : Ex → Exit | .normal => .normal | .exit id => .exit id | .ret => .ret
section
variable {P : Program} {F : Fx} {np : Nat} {takes : FuncId → Option Nat} {call : CallF} {g : Gh} {s : St} {a : Act} {w : World}
theorem forgetL_rep {D : List Nat} (h : Inv P F g s a w) : Inv P F g (forget D s) a w := by
  refine h.wk (g' := g) rfl (by simp [forget, forgetL_len]) rfl (fun i x' hi => ?_) (fun d cs' hd => ⟨cs', hd, rfl, rfl, fun j c' hj => ⟨c', hj, fun _ _ _ h => h⟩⟩) id (fun _ _ h => h) (fun _ _ _ _ e => e) (fun _ _ _ => rfl)
  unfold forget at hi
  dsimp only at hi
  rw [forgetL_get] at hi
  obtain ⟨x, hx, rfl⟩ := Option.map_eq_some_iff.1 hi
  refine ⟨x, hx, fun v hv => ?_⟩
  cases D.contains (0 + i)
  · exact hv
  · exact trivial
theorem pruneT_get (mask : Nat) : ∀ (l : List AV) (i j : Nat), (pruneT mask i l)[j]? = (l[j]?).map fun x => bif mask.testBit (i + j) then x else .dead
  | [], i, j => by simp [pruneT]
  | x :: l, i, 0 => by simp [pruneT]
  | x :: l, i, j + 1 => by
    simp only [pruneT, List.getElem?_cons_succ]
    rw [pruneT_get mask l (i + 1) j, show i + 1 + j = i + (j + 1) by omega]
theorem pruneT_len (mask : Nat) : ∀ (l : List AV) (i : Nat), (pruneT mask i l).length = l.length
  | [], i => rfl
  | x :: l, i => by simp [pruneT, pruneT_len mask l (i + 1)]
theorem pruneB_get (np : Nat) (u : List Nat) : ∀ (l : Bx) (i j : Nat) cs, (pruneB np u i l)[j]? = some (some cs) → l[j]? = some (some cs)
  | [], i, j, cs, h => by simp [pruneB] at h
  | x :: l, i, 0, cs, h => by
    cases x with
    | none => simp [pruneB] at h
    | some c =>
      have h' : (some (bif Nat.blt i np || u.contains i then some c else none) : Option (Option (List AV))) = some (some cs) := h
      revert h'
      cases Nat.blt i np || u.contains i <;> intro h' <;> cases h'
      rfl
  | x :: l, i, j + 1, cs, h => by
    have h' : (pruneB np u (i + 1) l)[j]? = some (some cs) := by cases x <;> exact h
    exact pruneB_get np u l (i + 1) j cs h'
theorem pruneB_len (np : Nat) (u : List Nat) : ∀ (l : Bx) (i : Nat), (pruneB np u i l).length = l.length
  | [], i => rfl
  | none :: l, i => by simp [pruneB, pruneB_len np u l (i + 1)]
  | some c :: l, i => by simp [pruneB, pruneB_len np u l (i + 1)]
theorem prune_rep {mask : Nat} (h : Inv P F g s a w) : Inv P F g (s.prune np mask) a w := by
  refine h.wk (g' := g) rfl (by simp [St.prune, pruneT_len]) (by simp [St.prune, pruneB_len]) (fun i x' hi => ?_) (fun d cs' hd => ?_) id (fun _ _ h => h) (fun _ _ _ _ e => e) (fun _ _ _ => rfl)
  · unfold St.prune at hi
    dsimp only at hi
    rw [pruneT_get] at hi
    obtain ⟨x, hx, rfl⟩ := Option.map_eq_some_iff.1 hi
    refine ⟨x, hx, fun v hv => ?_⟩
    cases mask.testBit (0 + i)
    · exact trivial
    · exact hv
  · exact ⟨cs', pruneB_get _ _ _ _ _ _ hd, rfl, rfl, fun j c' hj => ⟨c', hj, fun _ _ _ h => h⟩⟩
theorem endOk_forget {D : List Nat} {ops : List Oper} (h : endOk P ops (forget D s) = true) : endOk P ops s = true := by
  unfold endOk at h ⊢
  rw [List.all_eq_true] at h ⊢
  intro p hp
  have h1 := h p hp
  have key : ∀ z : Operand, (forget D s).ev z = s.ev z ∨ (forget D s).ev z = .dead := fun z => by
    cases z with
    | tmp t =>
      show (forget D s).get t = s.get t ∨ (forget D s).get t = .dead
      unfold St.get forget
      dsimp only
      rw [List.getD_eq_getElem?_getD, List.getD_eq_getElem?_getD, forgetL_get]
      cases s.t[t]? with
      | none => exact .inl rfl
      | some x =>
        simp only [Option.map_some, Option.getD_some]
        cases D.contains (0 + t)
        · exact .inl rfl
        · exact .inr rfl
    | _ => exact .inl rfl
  unfold aparts at h1 ⊢
  rcases key p.1 with e | e
  · rw [e] at h1
    cases hq : s.ev p.1 <;> rw [hq] at h1 <;> first | exact h1 | skip
    rename_i d off
    dsimp only at h1 ⊢
    have far : ∀ xs : List Operand, farFrom (forget D s) d xs = true → farFrom s d xs = true := fun xs => by
      induction xs with
      | nil => exact id
      | cons x xs ih =>
        intro h2
        unfold farFrom at h2 ⊢
        rw [Bool.and_eq_true] at h2 ⊢
        refine ⟨?_, ih h2.2⟩
        rcases key x with e | e
        · rw [← e]; exact h2.1
        · rw [e] at h2; cases h2.1
    exact far _ h1
  · rw [e] at h1; cases h1
def KeptB (F : Fx) (s : St) (a : Act) : Prop := a.tmps.size = s.t.length ∧ ∀ (k d off : Nat), s.t[k]? = some (.box d off) → d < F.np → F.bx d ≠ none → ∃ β, F.bx d = some β ∧ a.tmps[k]? = some (.pointer (some ⟨β, off, none⟩))
theorem Inv.keptB (h : Inv P F g s a w) : KeptB F s a := ⟨h.len, fun k d off hk hd hb => by
  obtain ⟨v, h1, h2⟩ := h.tm k _ hk
  obtain ⟨β, hβ, rfl⟩ := (show RepC P g w (.box d off) v from h2)
  exact ⟨β, (h.pbx d hd hb) ▸ hβ, h1⟩⟩
theorem KeptB.forget {ops : List Oper} {a a' : Act} (h : KeptB F s a) (hk : KeptT ops a a') : KeptB F (forget (dstsOf ops) s) a' := ⟨by rw [hk.1, h.1]; simp [En.forget, forgetL_len], fun k d off hkd hd hb => by
  unfold En.forget at hkd
  dsimp only at hkd
  rw [forgetL_get] at hkd
  obtain ⟨x, hx, hx2⟩ := Option.map_eq_some_iff.1 hkd
  cases hc : (dstsOf ops).contains (0 + k) <;> rw [hc] at hx2
  · have hx2 : x = .box d off := hx2
    subst hx2
    obtain ⟨β, h1, h2⟩ := h.2 k d off hx hd hb
    refine ⟨β, h1, (hk.2 k fun o ho hod => ?_).trans h2⟩
    have : k ∈ dstsOf ops := List.mem_filterMap.2 ⟨o, ho, hod⟩
    rw [Nat.zero_add] at hc
    have := List.contains_iff_mem.2 this
    rw [this] at hc
    cases hc
  · cases hx2⟩
def Sound (P : Program) (F : Fx) (c : Code) {β : Type} (thr : St → Value → Option β) (ev : St → KC β → Option β) : Prop :=
  ∀ (s : St) (k : KC β) (o : β) (g : Gh) (a : Act) (w : World) (Q : Exit → Act → World → Prop), ev s k = some o → Inv P F g s a w →
    (∀ x g' s' a' w', k x s' = some o → Inv P F g' s' a' w' → Q (exitOf x) a' w') → (∀ s' v a' w', thr s' v = some o → a'.defers = F.ds → Fr F.T F.w0 w' → KeptB F s' a' → Q (.panic [{ v := v, recovered := false }]) a' w') → c.wp P Q a w
theorem forget_nil (s : St) : forget [] s = s := by
  obtain ⟨t, b⟩ := s
  have : ∀ (l : List AV) (i : Nat), forgetL [] i l = l := fun l => by
    induction l with
    | nil => intro i; rfl
    | cons x l ih => intro i; simp [forgetL, ih]
  show (⟨forgetL [] 0 t, b⟩ : St) = ⟨t, b⟩
  rw [this]
def regE (P : Program) (np : Nat) (takes : FuncId → Option Nat) (call : CallF) {β : Type} (thr : St → Value → Option β) (ops : Array Oper) (dr : Bool) (s : St) (k : KC β) : Option β :=
  bif dr && manyAlloc ops.toList then
      (bif (allocDs ops.toList).all s.fresh then (allocsS P np (allocDs ops.toList) ops.toList s).bind fun s1 => evOps P np dr takes call (fun v => bif !dr || thrOk (ops.toList.map nopped) then thr (forget (dstsOf ops.toList) s) v else none) (ops.toList.map nopped) (ops.size + 1) (ops.toList.map nopped) s1 (fun s => bif !dr || endOk P (ops.toList.map nopped) s then k .normal s else none) else none)
    else evOps P np dr takes call (fun v => bif !dr || thrOk ops.toList then thr (forget (dstsOf ops.toList) s) v else none) ops.toList (ops.size + 1) ops.toList s (fun s => bif !dr || endOk P ops.toList s then k .normal s else none)
theorem region_sound {id : Nat} {ops : Array Oper} {dr : Bool} (hm : P.follows .mixedOrders = true) (hcall : SoundCall P call) (hok : okCode P (.region id ops dr) = true) {β : Type} (thr : St → Value → Option β) :
    Sound P F (.region id ops dr) thr fun s k => regE P F.np takes call thr ops dr s k := by
  intro s k o g a w Q h hI hk ht
  simp only [okCode, Bool.and_eq_true, List.all_eq_true] at hok
  obtain ⟨⟨h1, h2⟩, h3⟩ := hok
  have h : regE P F.np takes call thr ops dr s k = some o := h
  unfold regE at h
  cases hma : dr && manyAlloc ops.toList
  · rw [hma, cond_false] at h
    obtain ⟨r, hr, e1, e2⟩ := evOps_run (P := P) (np := F.np) (dr := dr) (ops := ops.toList) (ops.size + 1) takes call _ ops.toList s [] _ o h2 (fun o ho => ⟨fun _ _ _ _ hm => (by cases hm), fun _ _ _ _ _ hm => (by cases hm), fun _ _ hm => (by cases hm)⟩) (by rw [forget_nil]; exact h)
    have hk' : ∀ g' s' a' w', r = .inl s' → Inv P F g' s' a' w' → Q .normal a' w' := fun g' s' a' w' e hI' => by
      obtain ⟨D', hD'⟩ := e1 s' e
      exact hk .normal g' _ a' w' (bif_some hD').2 (forgetL_rep hI')
    have ht' : ∀ v a' w', r = .inr v → a'.defers = F.ds → Fr F.T F.w0 w' → KeptT ops.toList a a' → Q (.panic [{ v := v, recovered := false }]) a' w' := fun v a' w' e hd hf hkt =>
      ht _ v a' w' (bif_some (e2 v e)).2 hd hf (hI.keptB.forget hkt)
    cases dr
    · exact wp_region_list (wpList_keep (a0 := a) _ a w (fun _ ho => ho) (KeptT.refl _ _) (runO_sound (Q := QK ops.toList a Q) hcall ops.toList g s a w r hI h1 hr (fun g' s' a' w' e hI _ => hk' g' s' a' w' e hI) (fun v a' w' e hd hf hkt => ht' v a' w' e hd hf (hkt fun e => by cases e))))
    · have hma2 : manyAlloc ops.toList = false := hma
      rw [hma2] at h3
      exact region_drawn (takes := takes) hm h3 h1 hcall r (fun v e => by simpa using (bif_some (e2 v e)).1) (fun s' e => by
        obtain ⟨D', hD'⟩ := e1 s' e
        exact endOk_forget (by simpa using (bif_some hD').1)) hI hr hk' ht'
  · rw [hma, cond_true] at h
    rw [Bool.and_eq_true] at hma
    obtain ⟨hd, hma⟩ := hma
    subst hd
    rw [hma] at h3
    simp only [Bool.not_true, Bool.false_or, cond_true, Bool.and_eq_true] at h3
    obtain ⟨h3, h4⟩ := h3
    obtain ⟨hfr, h⟩ := bif_some h
    obtain ⟨sh, hsh, h⟩ := Option.bind_eq_some_iff.1 h
    obtain ⟨r, hr, e1, e2⟩ := evOps_run (P := P) (np := F.np) (dr := true) (ops := ops.toList.map nopped) (ops.size + 1) takes call _ (ops.toList.map nopped) sh [] _ o h4 (fun o ho => ⟨fun _ _ _ _ hm => (by cases hm), fun _ _ _ _ _ hm => (by cases hm), fun _ _ hm => (by cases hm)⟩) (by rw [forget_nil]; exact h)
    have hk' : ∀ g' s' a' w', r = .inl s' → Inv P F g' s' a' w' → Q .normal a' w' := fun g' s' a' w' e hI' => by
      obtain ⟨D', hD'⟩ := e1 s' e
      exact hk .normal g' _ a' w' (bif_some hD').2 (forgetL_rep hI')
    have ht' : ∀ v a' w', r = .inr v → a'.defers = F.ds → Fr F.T F.w0 w' → KeptT ops.toList a a' → Q (.panic [{ v := v, recovered := false }]) a' w' := fun v a' w' e hd hf hkt =>
      ht _ v a' w' (bif_some (e2 v e)).2 hd hf (hI.keptB.forget hkt)
    exact region_hoist (takes := takes) hm h3 h1 hcall r (fun v e => by simpa using (bif_some (e2 v e)).1) (fun s' e => by
      obtain ⟨D', hD'⟩ := e1 s' e
      exact endOk_forget (by simpa using (bif_some hD').1)) hI hfr hsh hr hk' ht'
theorem iter_sound {c : Code} {β : Type} {thr : St → Value → Option β} {body : St → KC β → Option β} (hb : Sound P F c thr body) : ∀ (n : Nat) (s : St) (k : KC β) (o : β) (g : Gh) (a : Act) (w : World) (Q : Exit → Act → World → Prop), iter body n s k = some o → Inv P F g s a w →
    (∀ x g' s' a' w', k x s' = some o → Inv P F g' s' a' w' → Q (exitOf x) a' w') → (∀ s' v a' w', thr s' v = some o → a'.defers = F.ds → Fr F.T F.w0 w' → KeptB F s' a' → Q (.panic [{ v := v, recovered := false }]) a' w') → Code.rounds P c Q n a w
  | 0, s, k, o, g, a, w, Q, h, _, _, _ => by cases h
  | n + 1, s, k, o, g, a, w, Q, h, hI, hk, ht => by
    rw [rounds_succ]
    refine hb s _ o g a w _ h hI (fun x g' s' a' w' e hI' => ?_) (fun s' v a' w' e hd hf hkb => ht s' v a' w' e hd hf hkb)
    cases x with
    | normal => exact iter_sound hb n s' k o g' a' w' Q e hI' hk ht
    | exit id => exact hk (.exit id) g' s' a' w' e hI'
    | ret => exact hk .ret g' s' a' w' e hI'
theorem evC_sound (hm : P.follows .mixedOrders = true) (hcall : SoundCall P call) {ret n : Nat} {β : Type} (thr : St → Value → Option β) : ∀ (c : Code) (out : Nat) (ex : List (Nat × Nat)), okCode P c = true → Sound P F c thr (evC P F.np takes call ret n thr c out ex)
  | .skip, out, ex, hok => fun s k o g a w Q h hI hk ht => wp_skip (hk .normal g s a w h hI)
  | .region id ops dr, out, ex, hok => region_sound hm hcall hok thr
  | .seq x y, out, ex, hok => fun s k o g a w Q h hI hk ht => by
    simp only [okCode, Bool.and_eq_true] at hok
    refine wp_seq (evC_sound hm hcall thr x _ ex hok.1 s _ o g a w _ h hI (fun e g' s' a' w' he hI' => ?_) (fun s' v a' w' e hd hf hkb => ht s' v a' w' e hd hf hkb))
    cases e with
    | normal =>
      refine evC_sound hm hcall thr y out ex hok.2 _ k o g' a' w' Q he ?_ hk ht
      cases joins x
      · exact hI'
      · exact prune_rep hI'
    | exit id => exact hk (.exit id) g' s' a' w' he hI'
    | ret => exact hk .ret g' s' a' w' he hI'
  | .cond c x y, out, ex, hok => fun s k o g a w Q h hI hk ht => by
    simp only [okCode, Bool.and_eq_true] at hok
    unfold evC at h
    split at h
    · rename_i b hb
      have hc := hI.ev c hok.1.1
      rw [hb] at hc
      obtain ⟨hc, _⟩ := (show a.eval c = .bool b ∧ _ from hc)
      refine wp_cond hc ?_
      cases b
      · exact evC_sound hm hcall thr y out ex hok.2 s k o g a w Q h hI hk ht
      · exact evC_sound hm hcall thr x out ex hok.1.2 s k o g a w Q h hI hk ht
    · cases h
  | .block id c, out, ex, hok => fun s k o g a w Q h hI hk ht => by
    simp only [okCode] at hok
    refine wp_block (evC_sound hm hcall thr c out ((id, out) :: ex) hok s _ o g a w _ h hI (fun e g' s' a' w' he hI' => ?_) (fun s' v a' w' e hd hf hkb => ht s' v a' w' e hd hf hkb))
    cases e with
    | normal => exact hk .normal g' s' a' w' he hI'
    | exit j =>
      show (if j = id then Q .normal a' w' else Q (.exit j) a' w')
      cases hj : (j == id)
      · dsimp only at he
        rw [hj] at he
        have : ¬ j = id := by simpa using hj
        rw [if_neg this]
        exact hk (.exit j) g' s' a' w' he hI'
      · dsimp only at he
        rw [hj] at he
        have : j = id := by simpa using hj
        rw [if_pos this]
        exact hk .normal g' s' a' w' he hI'
    | ret => exact hk .ret g' s' a' w' he hI'
  | .loop c, out, ex, hok => fun s k o g a w Q h hI hk ht => by
    simp only [okCode] at hok
    refine wp_loop_rounds n (iter_sound (thr := thr) (fun s k o g a w Q h hI hk ht => ?_) n _ k o g a w Q h (prune_rep hI) hk ht)
    refine evC_sound hm hcall thr c _ ex hok _ _ o g a w Q h hI (fun e g' s' a' w' he hI' => ?_) ht
    cases e with
    | normal => exact hk .normal g' _ a' w' he (prune_rep hI')
    | exit id => exact hk (.exit id) g' s' a' w' he hI'
    | ret => exact hk .ret g' s' a' w' he hI'
  | .exit id, out, ex, hok => fun s k o g a w Q h hI hk ht => wp_exit (hk (.exit id) g s a w h hI)
  | .ret, out, ex, hok => fun s k o g a w Q h hI hk ht => wp_ret (hk .ret g s a w h hI)
  | .rangeFunc .., out, ex, hok => by cases hok
  | .scope _, out, ex, hok => by cases hok
  | .label _, out, ex, hok => by cases hok
  | .goto _, out, ex, hok => by cases hok
  | .refuse _, out, ex, hok => by cases hok
end
end Go.Proofs.YtckdgcpomkefpaaGreatDoor.En
end
section
set_option linter.unusedVariables false
set_option linter.unusedSimpArgs false
namespace Go.Proofs.YtckdgcpomkefpaaGreatDoor.En
open Go
def okFn (P : Program) (fn : Func) : Bool := !(fn.name == "runtime.NumGoroutine") && (match fn.body with | some c => okCode P c | none => false)
section
variable {P : Program} {F : Fx} {np : Nat} {takes : FuncId → Option Nat} {call : CallF} {g : Gh} {s : St} {a : Act} {w : World}
structure Shape (x : AV) : Prop where
  box : ∀ d o, x ≠ .box d o
  fn : ∀ f a b, x ≠ .fn f a b
  tup : ∀ vs, x ≠ .tup vs
  agg : ∀ cs, x = .agg cs → ∀ (i : Nat) c, cs[i]? = some c → c.bare = c
theorem bare_bare (c : AV) : c.bare.bare = c.bare := by cases c <;> rfl
theorem bare_C {c : AV} {v : Value} (h : RepC P g w c v) : RepC P g w c.bare v := by
  cases c <;> first | exact h | skip
  case row t E l => exact ⟨h.1, fun n hn => by cases hn⟩
  case box d off => obtain ⟨β, _, rfl⟩ := h; exact rfl
  case fn f xs cs => obtain ⟨us, ws, rfl, _⟩ := h; exact rfl
theorem claim_spec (u : List Nat) (x : AV) : (∀ v, RepS P g w x v → RepT P g w (claim u x).2 v) ∧ Shape (claim u x).2 ∧ (∀ m E l, (claim u x).2 = .row (some m) E l → m ∉ u ∧ m < 1024 ∧ (claim u x).1 = m :: u) ∧ (∀ m, m ∈ u → m ∈ (claim u x).1) := by
  cases x with
  | row t E l =>
    cases t with
    | none => exact ⟨fun v h => h, ⟨fun _ _ e => (by cases e), fun _ _ _ e => (by cases e), fun _ e => (by cases e), fun _ e => (by cases e)⟩, fun _ _ _ e => (by cases e), fun _ h => h⟩
    | some n =>
      unfold claim
      dsimp only
      cases hc : u.contains n || !Nat.blt n 1024
      · simp only [Bool.or_eq_false_iff] at hc
        refine ⟨fun v h => h, ⟨fun _ _ e => (by cases e), fun _ _ _ e => (by cases e), fun _ e => (by cases e), fun _ e => (by cases e)⟩, fun m E' l' e => ?_, fun m h => by simp [h]⟩
        cases e
        have h2 : Nat.blt n 1024 = true := by simpa using hc.2
        exact ⟨by simpa using hc.1, Nat.le_of_ble_eq_true h2, rfl⟩
      · exact ⟨fun v h => ⟨h.1, fun m hm => by cases hm⟩, ⟨fun _ _ e => (by cases e), fun _ _ _ e => (by cases e), fun _ e => (by cases e), fun _ e => (by cases e)⟩, fun _ _ _ e => (by cases e), fun _ h => h⟩
  | agg cs =>
    refine ⟨fun v h => ?_, ⟨fun _ _ e => (by cases e), fun _ _ _ e => (by cases e), fun _ e => (by cases e), fun cs' e i c hi => ?_⟩, fun _ _ _ e => (by cases e), fun _ h => h⟩
    · obtain ⟨vs, h1, h2, h3⟩ := h
      refine ⟨vs, h1, by simp [h2], fun j c hj => ?_⟩
      rw [List.getElem?_map] at hj
      obtain ⟨c0, hc0, rfl⟩ := Option.map_eq_some_iff.1 hj
      obtain ⟨u, hu, hr⟩ := h3 j c0 hc0
      exact ⟨u, hu, bare_C hr⟩
    · cases e
      rw [List.getElem?_map] at hi
      obtain ⟨c0, hc0, rfl⟩ := Option.map_eq_some_iff.1 hi
      exact bare_bare c0
  | tup vs => exact ⟨fun v h => trivial, ⟨fun _ _ e => (by cases e), fun _ _ _ e => (by cases e), fun _ e => (by cases e), fun _ e => (by cases e)⟩, fun _ _ _ e => (by cases e), fun _ h => h⟩
  | fn f xs cs => exact ⟨fun v h => trivial, ⟨fun _ _ e => (by cases e), fun _ _ _ e => (by cases e), fun _ e => (by cases e), fun _ e => (by cases e)⟩, fun _ _ _ e => (by cases e), fun _ h => h⟩
  | box d o => exact ⟨fun v h => trivial, ⟨fun _ _ e => (by cases e), fun _ _ _ e => (by cases e), fun _ e => (by cases e), fun _ e => (by cases e)⟩, fun _ _ _ e => (by cases e), fun _ h => h⟩
  | v y => exact ⟨fun v h => h, ⟨fun _ _ e => (by cases e), fun _ _ _ e => (by cases e), fun _ e => (by cases e), fun _ e => (by cases e)⟩, fun _ _ _ e => (by cases e), fun _ h => h⟩
  | ro cs => exact ⟨fun v h => h, ⟨fun _ _ e => (by cases e), fun _ _ _ e => (by cases e), fun _ e => (by cases e), fun _ e => (by cases e)⟩, fun _ _ _ e => (by cases e), fun _ h => h⟩
  | self => exact ⟨fun v h => h, ⟨fun _ _ e => (by cases e), fun _ _ _ e => (by cases e), fun _ e => (by cases e), fun _ e => (by cases e)⟩, fun _ _ _ e => (by cases e), fun _ h => h⟩
  | err => exact ⟨fun v h => h, ⟨fun _ _ e => (by cases e), fun _ _ _ e => (by cases e), fun _ e => (by cases e), fun _ e => (by cases e)⟩, fun _ _ _ e => (by cases e), fun _ h => h⟩
  | dead => exact ⟨fun v h => h, ⟨fun _ _ e => (by cases e), fun _ _ _ e => (by cases e), fun _ e => (by cases e), fun _ e => (by cases e)⟩, fun _ _ _ e => (by cases e), fun _ h => h⟩
theorem bare_no (c : AV) : (∀ d o, c.bare ≠ .box d o) ∧ (∀ f a b, c.bare ≠ .fn f a b) ∧ ∀ m E l, c.bare ≠ .row (some m) E l := by
  cases c <;> exact ⟨fun _ _ e => (by cases e), fun _ _ _ e => (by cases e), fun _ _ _ e => (by cases e)⟩
theorem claimA_spec (sh : List Bool) : ∀ (cs : List AV) (u : List Nat), (claimA sh u cs).length = cs.length ∧
    (∀ (j : Nat) x, (claimA sh u cs)[j]? = some x → ∃ y, cs[j]? = some y ∧ (∀ v, RepC P g w y v → RepC P g w x v) ∧ (∀ d o, x ≠ .box d o) ∧ ∀ f a b, x ≠ .fn f a b) ∧
    (∀ (j m : Nat) E d, (claimA sh u cs)[j]? = some (.row (some m) E d) → m ∉ u ∧ (m < 1024 ∨ sh.getD (m / 1024 - 1) false = false)) ∧
    ∀ (j j' m : Nat) E d E' d', (claimA sh u cs)[j]? = some (.row (some m) E d) → (claimA sh u cs)[j']? = some (.row (some m) E' d') → j = j'
  | [], u => ⟨rfl, fun j x h => by simp [claimA] at h, fun j m E d h => by simp [claimA] at h, fun j j' m E d E' d' h => by simp [claimA] at h⟩
  | c :: cs, u => by
    have mk : ∀ (c1 : AV) (u1 : List Nat), claimA sh u (c :: cs) = c1 :: claimA sh u1 cs → ((∀ v, RepC P g w c v → RepC P g w c1 v) ∧ (∀ d o, c1 ≠ .box d o) ∧ ∀ f a b, c1 ≠ .fn f a b) →
        (∀ m E l, c1 = .row (some m) E l → (m ∉ u ∧ (m < 1024 ∨ sh.getD (m / 1024 - 1) false = false)) ∧ m ∈ u1) → (∀ m, m ∈ u → m ∈ u1) → _ := fun c1 u1 he h1 h2 h3 => (by
      obtain ⟨i1, i2, i3, i4⟩ := claimA_spec sh cs u1
      rw [he]
      refine ⟨by simp [i1], fun j c' h => ?_, fun j m E l h => ?_, fun j j' m E l E' l' h h' => ?_⟩
      · cases j with
        | zero => simp at h; subst h; exact ⟨c, rfl, h1⟩
        | succ j => exact i2 j c' (by simpa using h)
      · cases j with
        | zero => simp at h; exact (h2 m E l h).1
        | succ j =>
          have := i3 j m E l (by simpa using h)
          exact ⟨fun hm => this.1 (h3 m hm), this.2⟩
      · cases j with
        | zero =>
          simp at h
          cases j' with
          | zero => rfl
          | succ j' => exact absurd (h2 m E l h).2 (i3 j' m E' l' (by simpa using h')).1
        | succ j =>
          cases j' with
          | zero => simp at h'; exact absurd (h2 m E' l' h').2 (i3 j m E l (by simpa using h)).1
          | succ j' => rw [i4 j j' m E l E' l' (by simpa using h) (by simpa using h')] : (claimA sh u (c :: cs)).length = (c :: cs).length ∧
    (∀ (j : Nat) x, (claimA sh u (c :: cs))[j]? = some x → ∃ y, (c :: cs)[j]? = some y ∧ (∀ v, RepC P g w y v → RepC P g w x v) ∧ (∀ d o, x ≠ .box d o) ∧ ∀ f a b, x ≠ .fn f a b) ∧
    (∀ (j m : Nat) E d, (claimA sh u (c :: cs))[j]? = some (.row (some m) E d) → m ∉ u ∧ (m < 1024 ∨ sh.getD (m / 1024 - 1) false = false)) ∧
    ∀ (j j' m : Nat) E d E' d', (claimA sh u (c :: cs))[j]? = some (.row (some m) E d) → (claimA sh u (c :: cs))[j']? = some (.row (some m) E' d') → j = j')
    have hbare : claimA sh u (c :: cs) = c.bare :: claimA sh u cs → _ := fun he => mk c.bare u he ⟨fun v hv => bare_C hv, fun d o e => (bare_no c).1 d o e, fun f a b e => (bare_no c).2.1 f a b e⟩ (fun m E l e => ((bare_no c).2.2 m E l e).elim) (fun _ h => h)
    cases c with
    | row t E l =>
      cases t with
      | none => exact hbare rfl
      | some n =>
        cases hc : u.contains n || (!(Nat.blt n 1024) && sh.getD (n / 1024 - 1) false)
        · refine mk (.row (some n) E l) (n :: u) (by simp only [claimA, hc, cond_false]) ⟨fun v h => h, fun _ _ e => (by cases e), fun _ _ _ e => (by cases e)⟩ (fun m E' l' e => ?_) (fun m h => by simp [h])
          cases e
          rw [Bool.or_eq_false_iff] at hc
          refine ⟨⟨by simpa using hc.1, ?_⟩, by simp⟩
          cases hb : Nat.blt n 1024
          · rw [hb] at hc
            exact .inr (by simpa using hc.2)
          · exact .inl (Nat.le_of_ble_eq_true hb)
        · exact mk (.row none E l) u (by simp only [claimA, hc, cond_true]) ⟨fun v h => ⟨h.1, fun m hm => (by cases hm)⟩, fun _ _ e => (by cases e), fun _ _ _ e => (by cases e)⟩ (fun _ _ _ e => (by cases e)) (fun _ h => h)
    | _ => exact hbare rfl
theorem claimL_spec : ∀ (l : List AV) (u : List Nat), (claimL u l).length = l.length ∧
    (∀ (j : Nat) x, (claimL u l)[j]? = some x → ∃ y, l[j]? = some y ∧ (∀ v, RepS P g w y v → RepT P g w x v) ∧ Shape x) ∧
    (∀ (j m : Nat) E d, (claimL u l)[j]? = some (.row (some m) E d) → m ∉ u ∧ m < 1024) ∧
    ∀ (j j' m : Nat) E d E' d', (claimL u l)[j]? = some (.row (some m) E d) → (claimL u l)[j']? = some (.row (some m) E' d') → j = j'
  | [], u => ⟨rfl, fun j x h => by simp [claimL] at h, fun j m E d h => by simp [claimL] at h, fun j j' m E d E' d' h => by simp [claimL] at h⟩
  | x :: l, u => by
    obtain ⟨c1, c2, c3, c4⟩ := claim_spec (P := P) (g := g) (w := w) u x
    obtain ⟨i1, i2, i3, i4⟩ := claimL_spec l (claim u x).1
    unfold claimL
    refine ⟨by simp [i1], fun j y h => ?_, fun j m E d h => ?_, fun j j' m E d E' d' h h' => ?_⟩
    · cases j with
      | zero => simp at h; subst h; exact ⟨x, rfl, c1, c2⟩
      | succ j => exact i2 j y (by simpa using h)
    · cases j with
      | zero => simp at h; exact ⟨(c3 m E d h).1, (c3 m E d h).2.1⟩
      | succ j =>
        have := i3 j m E d (by simpa using h)
        exact ⟨fun hm => this.1 (c4 m hm), this.2⟩
    · cases j with
      | zero =>
        simp at h
        cases j' with
        | zero => rfl
        | succ j' =>
          have := (i3 j' m E' d' (by simpa using h')).1
          rw [(c3 m E d h).2.2] at this
          simp at this
      | succ j =>
        cases j' with
        | zero =>
          simp at h'
          have := (i3 j m E d (by simpa using h)).1
          rw [(c3 m E' d' h').2.2] at this
          simp at this
        | succ j' => rw [i4 j j' m E d E' d' (by simpa using h) (by simpa using h')]
theorem claimB_spec : ∀ (bx b : Bx) (i : Nat), bx.length ≤ b.length → (claimB i bx b).length = bx.length ∧ ∀ (j : Nat) cs, (claimB i bx b)[j]? = some (some cs) → ∃ cs0 cs1, bx[j]? = some (some cs0) ∧ b[j]? = some (some cs1) ∧ cs = giveL (i + j) (i + j) 0 cs1
  | [], b, i, h => ⟨by cases b <;> rfl, fun j cs hj => by cases b <;> simp [claimB] at hj⟩
  | x :: bx, [], i, h => by simp at h
  | x :: bx, y :: b, i, h => by
    obtain ⟨h1, h2⟩ := claimB_spec bx b (i + 1) (by simpa using h)
    have tl : ∀ (j : Nat) cs, (claimB (i + 1) bx b)[j]? = some (some cs) → ∃ cs0 cs1, (x :: bx)[j + 1]? = some (some cs0) ∧ (y :: b)[j + 1]? = some (some cs1) ∧ cs = giveL (i + (j + 1)) (i + (j + 1)) 0 cs1 := fun j cs hj => by
      obtain ⟨a1, a2, e1, e2, e3⟩ := h2 j cs hj
      exact ⟨a1, a2, by simpa using e1, by simpa using e2, by rw [e3, show i + 1 + j = i + (j + 1) by omega]⟩
    have mk : (claimB i (x :: bx) (y :: b) = none :: claimB (i + 1) bx b) → _ := fun e => (show (claimB i (x :: bx) (y :: b)).length = (x :: bx).length ∧ ∀ (j : Nat) cs, (claimB i (x :: bx) (y :: b))[j]? = some (some cs) → ∃ cs0 cs1, (x :: bx)[j]? = some (some cs0) ∧ (y :: b)[j]? = some (some cs1) ∧ cs = giveL (i + j) (i + j) 0 cs1 from by
      rw [e]
      refine ⟨by simp [h1], fun j cs hj => ?_⟩
      cases j with
      | zero => simp at hj
      | succ j => exact tl j cs (by simpa using hj))
    cases x with
    | none => exact mk (by cases y <;> rfl)
    | some cs0 =>
      cases y with
      | none => exact mk rfl
      | some cs1 =>
        show (some (giveL i i 0 cs1) :: claimB (i + 1) bx b).length = _ ∧ _
        refine ⟨by simp [h1], fun j cs hj => ?_⟩
        cases j with
        | zero =>
          have hj' : (some (some (giveL i i 0 cs1)) : Option (Option (List AV))) = some (some cs) := hj
          cases hj'
          exact ⟨cs0, cs1, rfl, rfl, rfl⟩
        | succ j => exact tl j cs (by simpa [claimB] using hj)
def resF (tm : Array Value) : ResultVar → Sem Value
  | .tmp t => pure (tm.getD t undef)
  | .cell c t => do loadVar t (← asAddr (tm.getD c undef))
theorem results_eq (fn : Func) (tm : Array Value) : results fn tm = (do
    let vs ← fn.results.mapM (resF tm)
    pure (if h : vs.size = 1 then vs[0] else .tuple vs)) := by
  unfold results
  congr 1
theorem resVal_sound (h : Inv P F g s a w) {r : ResultVar} {x : AV} (hx : resVal P s r = some x) : Runs P w (resF a.tmps r) (RepS P g w x) := by
  cases r with
  | tmp t => cases hx; exact runs_pure (h.get t)
  | cell c T =>
    obtain ⟨cs, hcs, hx⟩ := Option.bind_eq_some_iff.1 hx
    obtain ⟨β, off, hv, hc⟩ := cellsOf_sound h (h.get c) hcs
    unfold resF
    dsimp only
    rw [hv]
    exact (show Runs P w (asAddr (.pointer (some ⟨β, off, none⟩))) (· = ⟨β, off, none⟩) from ⟨_, by simp [asAddr], rfl⟩).bind fun A hA => by
      subst hA
      exact loadVar_sound hc hx
theorem resVals_sound (h : Inv P F g s a w) : ∀ (rs : List ResultVar) (l : List AV), resVals P s rs = some l → Runs P w (rs.mapM (resF a.tmps)) fun vs => vs.length = l.length ∧ ∀ (j : Nat) x, l[j]? = some x → ∃ v, vs[j]? = some v ∧ RepS P g w x v
  | [], l, hl => by
    cases hl
    rw [List.mapM_nil]
    exact runs_pure ⟨rfl, fun j x hj => by simp at hj⟩
  | r :: rs, l, hl => by
    obtain ⟨x, hx, hl'⟩ := Option.bind_eq_some_iff.1 hl
    obtain ⟨l', hl2, he⟩ := Option.bind_eq_some_iff.1 hl'
    cases he
    rw [List.mapM_cons]
    refine (resVal_sound h hx).bind fun v hv => ?_
    refine (resVals_sound h rs l' hl2).bind fun vs hvs => ?_
    refine runs_pure ⟨by simp [hvs.1], fun j y hj => ?_⟩
    cases j with
    | zero => simp at hj; subst hj; exact ⟨v, rfl, hv⟩
    | succ j => exact hvs.2 j y (by simpa using hj)
end
end Go.Proofs.YtckdgcpomkefpaaGreatDoor.En
end
section
set_option linter.unusedVariables false
set_option linter.unusedSimpArgs false
namespace Go.Proofs.YtckdgcpomkefpaaGreatDoor.En
open Go
section
variable {P : Program} {takes : FuncId → Option Nat} {call : CallF}
theorem give_rep0 {g : Gh} {w : World} {T : TypeId} {β d j : Nat} {c : AV} {u : Value} (h : RepB P g w T β j c u) : RepB P g w T β j (c.give d d j) u := by
  cases c with
  | row t E l =>
    cases t with
    | none => exact h
    | some m =>
      show RepC P g w (.row (bif m == sub d j then some (sub d j) else none) E l) u
      have h' : RepC P g w (.row (some m) E l) u := h
      cases hm : m == sub d j
      · exact ⟨h'.1, fun n hn => by cases hn⟩
      · exact ⟨h'.1, fun n hn => by
          cases hn
          have : m = sub d j := by simpa using hm
          rw [← this]
          exact h'.2 m rfl⟩
  | box e o =>
    obtain ⟨β', _, rfl⟩ := (show RepC P g w (.box e o) u from h)
    rfl
  | fn f xs cs =>
    obtain ⟨us, ws, rfl, _⟩ := (show RepC P g w (.fn f xs cs) u from h)
    rfl
  | v x => exact h
  | agg cs => exact h
  | tup cs => exact h
  | ro cs => exact h
  | self => exact h
  | err => exact h
  | dead => exact h
theorem giveL_len' (e d : Nat) : ∀ (cs : List AV) (j : Nat), (giveL e d j cs).length = cs.length
  | [], j => rfl
  | c :: cs, j => by simp [giveL, giveL_len' e d cs (j + 1)]
theorem give_tok {d j m : Nat} {c : AV} {E : TypeId} {l : List Dat} (h : c.give d d j = .row (some m) E l) : m = sub d j := by
  cases c with
  | row t E' l' =>
    cases t with
    | none => cases h
    | some k =>
      have h' : (AV.row (bif k == sub d j then some (sub d j) else none) E' l') = .row (some m) E l := h
      cases hk : k == sub d j <;> rw [hk] at h' <;> cases h'
      rfl
  | box e o => cases h
  | fn f xs cs => cases h
  | v x => cases h
  | agg cs => cases h
  | tup cs => cases h
  | ro cs => cases h
  | self => cases h
  | err => cases h
  | dead => cases h
def fxOf {P : Program} (g : Gh) (w : World) (bs : Bx) (np : Nat) (hm : Mem P g w bs) (hL : Laid g w) : Fx := ⟨w, g.G, TBof g, BBof g bs, g.bx, np, [], fun β hβ => ⟨hL.G β hβ, fun ⟨i, cs, hi, hb⟩ => by
  obtain ⟨β', us, T, h1, _, _, h2, _⟩ := hm.box i cs hi
  rw [hb] at h1
  cases h1
  exact h2 0 (hL.G β hβ 0)⟩, hL.P⟩
theorem entry_inv {g : Gh} {w : World} {fn : Func} {xs : List AV} {bs : Bx} {vs : Array Value} (hm : Mem P g w bs) (hL : Laid g w) (hl : bs.length = xs.length) (hv : vs.size = xs.length)
    (hr : ∀ (i : Nat) x, xs[i]? = some x → ∃ v, vs[i]? = some v ∧ RepS P g w x v) :
    Inv P (fxOf g w bs fn.params.size hm hL) g (entry fn xs bs) { tmps := vs ++ Array.replicate (fn.ntmps - vs.size) undef, defers := [] } w := by
  have hb : ∀ (d : Nat) cs, (bs ++ List.replicate (fn.ntmps - bs.length) none)[d]? = some (some cs) → bs[d]? = some (some cs) := fun d cs h => by
    rw [List.getElem?_append] at h
    split at h
    · exact h
    · rw [List.getElem?_replicate] at h
      split at h <;> cases h
  refine ⟨⟨hm.gsz, fun d cs h => hm.box d cs (hb d cs h), fun d d' β cs cs' h h' => hm.apart d d' β cs cs' (hb d cs h) (hb d' cs' h'), hm.own, hm.tkap, fun n v E β d cs h1 h2 h => hm.tkbx n v E β d cs h1 h2 (hb d cs h), fun d cs β h => hm.ty d cs β (hb d cs h)⟩,
    by simp [entry, hl], by simp [entry, hv], fun i x hi => ?_, rfl, Fr.refl _ _, fun β j h => h, fun β j h _ => .inl h, fun n v E β h1 h2 => .inr ⟨n, v, E, h1, h2⟩, fun d cs β h1 h2 => .inr ⟨d, cs, hb d cs h1, h2⟩, fun i _ _ => rfl⟩
  have hi' : (xs ++ List.replicate (fn.ntmps - xs.length) AV.dead)[i]? = some x := hi
  rw [List.getElem?_append] at hi'
  split at hi'
  · rename_i hlt
    obtain ⟨v, h1, h2⟩ := hr i x hi'
    refine ⟨v, ?_, h2⟩
    show (vs ++ _)[i]? = _
    rw [Array.getElem?_append, if_pos (by omega)]
    exact h1
  · rename_i hlt
    rw [List.getElem?_replicate] at hi'
    split at hi'
    · rename_i hlt2
      cases hi'
      refine ⟨undef, ?_, trivial⟩
      show (vs ++ _)[i]? = _
      rw [Array.getElem?_append, if_neg (by omega), Array.getElem?_replicate, if_pos (by omega)]
    · cases hi'
theorem RepT.toS {g : Gh} {w : World} {x : AV} {v : Value} (h : RepT P g w x v) (hx : ∀ vs, x ≠ .tup vs) : RepS P g w x v := by
  rw [RepS.eq hx]; exact h
theorem keptB_get : ∀ (bs b : Bx) (i : Nat) (cs : List AV), keptB (bs.map Option.isSome) b = true → bs[i]? = some (some cs) → ∃ cs', b[i]? = some (some cs')
  | [], b, i, cs, _, hi => by simp at hi
  | none :: bs, [], i, cs, h, _ => by cases h
  | some c :: bs, [], i, cs, h, _ => by cases h
  | none :: bs, o :: r, 0, cs, h, hi => by simp at hi
  | some c :: bs, o :: r, 0, cs, h, hi => by
    simp only [List.map_cons, Option.isSome_some, keptB, Bool.and_eq_true] at h
    obtain ⟨cs', e⟩ := Option.isSome_iff_exists.1 h.1
    exact ⟨cs', by rw [e]; rfl⟩
  | none :: bs, o :: r, i + 1, cs, h, hi => keptB_get bs r i cs h (by simpa using hi)
  | some c :: bs, o :: r, i + 1, cs, h, hi => by
    simp only [List.map_cons, Option.isSome_some, keptB, Bool.and_eq_true] at h
    exact keptB_get bs r i cs h.2 (by simpa using hi)
def thaw (bs : Bx) (b : Bx) : Bx := b.mapIdx fun i o => match bs.getD i none with | some _ => o | none => none
theorem thaw_get {bs b : Bx} {i : Nat} {cs : List AV} (h : (thaw bs b)[i]? = some (some cs)) : b[i]? = some (some cs) ∧ ∃ c0, bs[i]? = some (some c0) := by
  unfold thaw at h
  rw [List.getElem?_mapIdx] at h
  obtain ⟨o, ho, h⟩ := Option.map_eq_some_iff.1 h
  split at h
  · rename_i c0 hc
    subst h
    refine ⟨ho, c0, ?_⟩
    rw [List.getD_eq_getElem?_getD] at hc
    cases hq : bs[i]? with
    | none => rw [hq] at hc; cases hc
    | some q => rw [hq] at hc; exact congrArg some hc
  · cases h
theorem thaw_of {bs b : Bx} {i : Nat} {c0 : List AV} (hi : bs[i]? = some (some c0)) : (thaw bs b)[i]? = b[i]? := by
  unfold thaw
  rw [List.getElem?_mapIdx]
  have : bs.getD i none = some c0 := by rw [List.getD_eq_getElem?_getD, hi]; rfl
  rw [this]
  cases b[i]? <;> rfl
theorem frz_rep {g1 g2 : Gh} {w : World} {T : TypeId} {β j : Nat} {c : AV} {u : Value} (hG : ∀ β j, g1.G β j → g2.G β j) (h : RepB P g1 w T β j c u) : Rep0 P g2 w c.frz u := by
  cases c with
  | v x => exact h
  | row t E l => exact ⟨rfl, (show RepC P g1 w (.row t E l) u from h).1.mono fun β j hj => ⟨hG β j hj, rfl⟩⟩
  | self T' => rcases h.2 with e | e <;> rw [e] <;> rfl
  | err => obtain ⟨T0, x0, rfl⟩ := (show ∃ T x, u = .iface T x from h); rfl
  | dead => exact h
  | agg cs => exact h.elim
  | tup cs => exact h.elim
  | box e o => exact RepC.one (P := P) (g := g1) (w := w) (x := .box e o) h
  | ro cs => exact RepC.one (P := P) (g := g1) (w := w) (x := .ro cs) h
  | fn f xs cs => exact RepC.one (P := P) (g := g1) (w := w) (x := .fn f xs cs) h
theorem freeze {g g' : Gh} {w w' : World} {np : Nat} {bs : Bx} {s' : St} {a' : Act} (hm : Mem P g w bs) (hL : Laid g w) (hI : Inv P (fxOf g w bs np hm hL) g' s' a' w') (hl : bs.length = np) (hbx : ∀ (i : Nat) cs, bs[i]? = some (some cs) → g'.bx i = g.bx i) :
    ∃ g2 b2, Inv P (fxOf g w bs np hm hL) g2 ⟨s'.t, b2⟩ a' w' ∧ g2.bx = g'.bx ∧ b2.length = s'.b.length ∧ (∀ (i : Nat) c0, bs[i]? = some (some c0) → b2[i]? = s'.b[i]?) ∧ ∀ x v, RepS P g' w' x v → RepS P g2 w' (frzX (bs.map Option.isSome) s' x) v := by
  cases hk : keptB (bs.map Option.isSome) s'.b
  · refine ⟨g', s'.b, hI, rfl, rfl, fun _ _ _ => rfl, fun x v hx => ?_⟩
    have : frzX (bs.map Option.isSome) s' x = x := by
      unfold frzX
      split
      · split
        · rw [hk, Bool.and_false]; rfl
        · rfl
      · rfl
    rw [this]; exact hx
  have hne : ∀ d cs β i c0, s'.b[d]? = some (some cs) → bs.getD d none = none → g'.bx d = some β → bs[i]? = some (some c0) → g'.bx i = some β → False := fun d cs β i c0 h1 h2 h3 h4 h5 => by
    obtain ⟨cs', h6⟩ := keptB_get bs s'.b i c0 hk h4
    have := hI.mem.apart d i β cs cs' h1 h6 h3 h5
    subst this
    rw [List.getD_eq_getElem?_getD, h4] at h2
    cases h2
  obtain ⟨g2, hg2⟩ : ∃ g2 : Gh, g2 = ⟨fun β j => g'.G β j ∨ ∃ d cs, s'.b[d]? = some (some cs) ∧ bs.getD d none = none ∧ g'.bx d = some β, g'.tk, g'.bx⟩ := ⟨_, rfl⟩
  have hG : ∀ β j, g2.G β j ↔ (g'.G β j ∨ ∃ d cs, s'.b[d]? = some (some cs) ∧ bs.getD d none = none ∧ g'.bx d = some β) := fun β j => by rw [hg2]
  have htk : g2.tk = g'.tk := by rw [hg2]
  have hbx2 : g2.bx = g'.bx := by rw [hg2]
  have hle : g'.Le g2 w' w' := ⟨fun β j hj => ⟨(hG β j).2 (.inl hj), rfl⟩, fun n v hn => by rw [htk]; exact hn, fun d β hd => by rw [hbx2]; exact hd⟩
  refine ⟨g2, thaw bs s'.b, ⟨⟨fun β j hj => ?_, fun d cs hd => ?_, fun d d' β cs cs' hd hd' hβ hβ' => ?_, fun n v E hn => ?_, fun n m v v' E E' β hn hm => ?_, fun n v E β d cs hn hv hd hβ => ?_, fun d cs β hd hβ => hI.mem.ty d cs β (thaw_get hd).1 (hbx2 ▸ hβ)⟩, ?_, hI.len, fun i x hi => ?_, hI.dfr, hI.fr, fun β j hj => (hG β j).2 (.inl (hI.g0 β j hj)), fun β j hj hlt => ?_, fun n v E β hn => ?_, fun d cs β hd hβ => ?_, fun i hi hn => ?_⟩, hbx2, by simp [thaw], fun i c0 hi => thaw_of hi, fun x v hx => ?_⟩
  · rcases (hG β j).1 hj with hj | ⟨d, cs, h1, _, h3⟩
    · exact hI.mem.gsz β j hj
    · obtain ⟨β', us, T, e1, e2, _⟩ := hI.mem.box d cs h1
      rw [h3] at e1
      cases e1
      exact (Array.getElem?_eq_some_iff.1 e2).1
  · obtain ⟨h1, c0, h2⟩ := thaw_get hd
    obtain ⟨β, us, T, e1, e2, e3, e4, e5⟩ := hI.mem.box d cs h1
    refine ⟨β, us, T, by rw [hbx2]; exact e1, e2, e3, fun j hj => ?_, fun j c hc => let ⟨u, hu, hr⟩ := e5 j c hc; ⟨u, hu, hr.mono hle⟩⟩
    rcases (hG β j).1 hj with hj | ⟨d', cs', q1, q2, q3⟩
    · exact e4 j hj
    · exact hne d' cs' β d c0 q1 q2 q3 h2 e1
  · rw [hbx2] at hβ hβ'
    exact hI.mem.apart d d' β cs cs' (thaw_get hd).1 (thaw_get hd').1 hβ hβ'
  · rw [htk] at hn
    refine (hI.mem.own n v E hn).keep fun β hβ => ⟨rfl, fun j hj => ?_⟩
    rcases (hG β j).1 hj with hj | ⟨d, cs, q1, q2, q3⟩
    · exact hj
    · exact (hI.mem.tkbx n v E β d cs hn hβ q1 q3).elim
  · rw [htk] at hn hm
    exact hI.mem.tkap n m v v' E E' β hn hm
  · rw [htk] at hn
    rw [hbx2] at hβ
    exact hI.mem.tkbx n v E β d cs hn hv (thaw_get hd).1 hβ
  · show (thaw bs s'.b).length = s'.t.length
    rw [← hI.blen]
    simp [thaw]
  · obtain ⟨v, h1, h2⟩ := hI.tm i x hi
    exact ⟨v, h1, h2.mono hle⟩
  · rcases (hG β j).1 hj with hj | ⟨d, cs, q1, q2, q3⟩
    · exact hI.gfr β j hj hlt
    · rcases hI.bb d cs β q1 q3 with e | ⟨i, c0, e1, e2⟩
      · omega
      · exact (hne d cs β i c0 q1 q2 q3 e1 (by rw [hbx i c0 e1]; exact e2)).elim
  · rw [htk] at hn
    exact hI.tb n v E β hn
  · rw [hbx2] at hβ
    exact hI.bb d cs β (thaw_get hd).1 hβ
  · rw [hbx2]
    exact hI.pbx i hi hn
  · unfold frzX
    split
    · rename_i d off
      split
      · rename_i cs hcs
        cases hsh : (bs.map Option.isSome).getD d false <;> simp only [Bool.not_true, Bool.not_false, Bool.false_and, Bool.true_and, cond_false]
        case true => exact hx.mono hle
        have hnn : bs.getD d none = none := by
          rw [List.getD_eq_getElem?_getD, List.getElem?_map] at hsh
          rw [List.getD_eq_getElem?_getD]
          cases hq : bs[d]? with
          | none => rfl
          | some o =>
            rw [hq] at hsh
            cases o with
            | none => rfl
            | some c => cases hsh
        rw [hk]
        obtain ⟨β, hβ, hv⟩ := (show RepC P g' w' (.box d off) v from hx)
        have hb := boxAt_eq hcs
        obtain ⟨β', us, T, e1, e2, e3, e4, e5⟩ := hI.mem.box d cs hb
        rw [hβ] at e1
        cases e1
        refine (show RepC P g2 w' (.ro ((cs.drop off).map AV.frz)) v from ⟨β, off, hv, fun j c hj => ?_⟩)
        rw [List.getElem?_map, List.getElem?_drop] at hj
        obtain ⟨c0, hc0, rfl⟩ := Option.map_eq_some_iff.1 hj
        obtain ⟨u, hu, hr⟩ := e5 (off + j) c0 hc0
        refine ⟨u, ?_, (hG _ _).2 (.inr ⟨d, cs, hb, hnn, hβ⟩), frz_rep (fun β j hj => (hG β j).2 (.inl hj)) hr⟩
        simp [World.cell?, e2, hu]
      · exact hx.mono hle
    · exact hx.mono hle
theorem outOf_sound {g g' : Gh} {w w' : World} {fn : Func} {bs : Bx} {s' : St} {a' : Act} {out : Out} (hm : Mem P g w bs) (hL : Laid g w) (hI : Inv P (fxOf g w bs fn.params.size hm hL) g' s' a' w') (hl : bs.length = fn.params.size) (h : outOf P fn bs s' = some out) :
    ∃ x v bs' g', out = .ret v bs' ∧ (results fn a'.tmps).run P w' = .ok x w' ∧ CallPost P g w bs v bs' x g' w' := by
  unfold outOf at h
  obtain ⟨l, hl2, h⟩ := Option.bind_eq_some_iff.1 h
  obtain ⟨hle, h⟩ := bif_some h
  cases h
  have hle' := Nat.le_of_ble_eq_true hle
  obtain ⟨vs, hrun, hlen, hvs⟩ := resVals_sound hI _ _ hl2
  obtain ⟨b1, b2⟩ := claimB_spec bs s'.b 0 hle'
  have hbox : ∀ (i : Nat) cs, bs[i]? = some (some cs) → g'.bx i = g.bx i := fun i cs hi => by
    obtain ⟨β, us, T, e1, _⟩ := hm.box i cs hi
    have hlt := (List.getElem?_eq_some_iff.1 hi).1
    exact hI.pbx i (by show i < fn.params.size; omega) (by show g.bx i ≠ none; rw [e1]; simp)
  obtain ⟨g2, fb, hI, hbx2, hfl, hfb, hfz⟩ := freeze hm hL hI hl hbox
  replace hbox : ∀ (i : Nat) cs, bs[i]? = some (some cs) → g2.bx i = g.bx i := fun i cs hi => by rw [hbx2]; exact hbox i cs hi
  replace hvs : ∀ (j : Nat) x, (l.map (frzX (bs.map Option.isSome) s'))[j]? = some x → ∃ v, vs[j]? = some v ∧ RepS P g2 w' x v := fun j x hj => by
    rw [List.getElem?_map] at hj
    obtain ⟨x0, hx0, rfl⟩ := Option.map_eq_some_iff.1 hj
    obtain ⟨v, e1, e2⟩ := hvs j x0 hx0
    exact ⟨v, e1, hfz x0 v e2⟩
  replace hlen : vs.length = (l.map (frzX (bs.map Option.isSome) s')).length := by rw [hlen]; simp
  clear hfz hbx2
  generalize l.map (frzX (bs.map Option.isSome) s') = l at hvs hlen ⊢
  generalize g2 = g' at hI hbox hvs ⊢
  obtain ⟨c1, c2, c3, c4⟩ := claimL_spec (P := P) (g := g') (w := w') l []
  have hT : ∀ (j : Nat) x, (claimL [] l)[j]? = some x → ∃ v, vs[j]? = some v ∧ RepT P g' w' x v ∧ Shape x := fun j x hj => by
    obtain ⟨y, h1, h2, h3⟩ := c2 j x hj
    obtain ⟨v, e1, e2⟩ := hvs j y h1
    exact ⟨v, e1, h2 v e2, h3⟩
  have hres : (results fn a'.tmps).run P w' = .ok (if h : vs.toArray.size = 1 then vs.toArray[0] else .tuple vs.toArray) w' := by
    rw [results_eq, Array.mapM_eq_mapM_toList]
    have hr2 : (List.toArray <$> (fn.results.toList.mapM (resF a'.tmps)) : Sem (Array Value)).run P w' = .ok vs.toArray w' := by
      rw [← bind_pure_comp, Sem.run_bind, hrun]
      simp
    rw [Sem.run_bind, hr2]
    simp
  have hv : RepS P g' w' (claimR (bs.map Option.isSome) l) (if h : vs.toArray.size = 1 then vs.toArray[0] else .tuple vs.toArray) ∧ OutV (claimR (bs.map Option.isSome) l) ∧ tokLt bs (claimR (bs.map Option.isSome) l) := by
    by_cases hA : ∃ cs, l = [.agg cs]
    · obtain ⟨cs, rfl⟩ := hA
      obtain ⟨v, e1, e2⟩ := hvs 0 (.agg cs) rfl
      have hvs1 : vs = [v] := by
        match vs, hlen, e1 with
        | [y], _, e1 => simp at e1; rw [e1]
      subst hvs1
      obtain ⟨us, r1, r2, r3⟩ := (show RepT P g' w' (.agg cs) v from e2)
      obtain ⟨a1, a2, a3, a4⟩ := claimA_spec (P := P) (g := g') (w := w') (bs.map Option.isSome) cs []
      refine ⟨(show RepT P g' w' (.agg (claimA (bs.map Option.isSome) [] cs)) v from ⟨us, r1, by rw [a1]; exact r2, fun j c hj => ?_⟩), ⟨fun j d o hj => ?_, fun j f a b hj => ?_, a4⟩, fun j m E l hj => ?_⟩
      · obtain ⟨y, q1, q2, _⟩ := a2 j c hj
        obtain ⟨u, hu, hr⟩ := r3 j y q1
        exact ⟨u, hu, q2 u hr⟩
      · obtain ⟨_, _, _, q, _⟩ := a2 j _ hj
        exact q d o rfl
      · obtain ⟨_, _, _, _, q⟩ := a2 j _ hj
        exact q f a b rfl
      · rcases (a3 j m E l hj).2 with e | e
        · exact .inl e
        · refine .inr fun c hc => ?_
          have : (bs.map Option.isSome).getD (m / 1024 - 1) false = true := by rw [List.getD_eq_getElem?_getD, List.getElem?_map, hc]; rfl
          rw [e] at this
          cases this
    · have hR : claimR (bs.map Option.isSome) l = (match claimL [] l with | [x] => x | l => .tup l) := by
        unfold claimR
        split
        · exact absurd ⟨_, rfl⟩ hA
        · rfl
      rw [hR]
      have hcl : (claimL [] l).length = vs.length := by rw [c1, hlen]
      generalize hL : claimL [] l = L at hT c3 c4 hcl
      have many : L.length ≠ 1 → RepS P g' w' (.tup L) (if h : vs.toArray.size = 1 then vs.toArray[0] else .tuple vs.toArray) ∧ OutV (.tup L) ∧ tokLt bs (.tup L) := fun hne => by
        rw [dif_neg (by simpa using (show ¬ vs.length = 1 by omega))]
        refine ⟨⟨vs.toArray, rfl, by simp [hcl], fun j x hj => ?_⟩, ⟨fun j d o hj => ?_, fun j f a b hj => ?_, fun j cs hj i c hi => ?_, fun j j' m E d E' d' h1 h2 => c4 j j' m E d E' d' h1 h2⟩, fun j m E d hj => (c3 j m E d hj).2⟩
        · obtain ⟨v, e1, e2, _⟩ := hT j x hj
          exact ⟨v, by simpa using e1, e2⟩
        · exact ((hT j _ hj).elim fun v hv => hv.2.2.box d o rfl)
        · exact ((hT j _ hj).elim fun v hv => hv.2.2.fn f a b rfl)
        · exact ((hT j _ hj).elim fun v hv => hv.2.2.agg cs rfl i c hi)
      match L, hT, c3, c4, hcl, many with
      | [], hT, c3, c4, hcl, many => exact many (by simp)
      | [x], hT, c3, c4, hcl, many =>
        obtain ⟨v, e1, e2, e3⟩ := hT 0 x rfl
        have hvs1 : vs = [v] := by
          match vs, hcl, e1 with
          | [y], _, e1 => simp at e1; rw [e1]
        subst hvs1
        refine ⟨e2.toS e3.tup, ?_, ?_⟩
        · cases x with
          | box d o => exact absurd rfl (e3.box d o)
          | fn f a b => exact absurd rfl (e3.fn f a b)
          | tup vs => exact absurd rfl (e3.tup vs)
          | agg cs => exact ⟨fun j d o hj => (by have := e3.agg cs rfl j _ hj; cases this), fun j f a b hj => (by have := e3.agg cs rfl j _ hj; cases this), fun j j' m E l E' l' h1 _ => (by have := e3.agg cs rfl j _ h1; cases this)⟩
          | v y => exact trivial
          | row t E l => exact trivial
          | ro cs => exact trivial
          | self => exact trivial
          | err => exact trivial
          | dead => exact trivial
        · cases x with
          | tup vs => exact absurd rfl (e3.tup vs)
          | row t E l =>
            cases t with
            | none => exact trivial
            | some m => exact (c3 0 m E l rfl).2
          | box d o => exact trivial
          | fn f a b => exact trivial
          | agg cs => exact fun j m E l hj => (by have := e3.agg cs rfl j _ hj; cases this)
          | v y => exact trivial
          | ro cs => exact trivial
          | self => exact trivial
          | err => exact trivial
          | dead => exact trivial
      | x :: y :: L, hT, c3, c4, hcl, many => exact many (by simp)
  refine ⟨_, _, _, g', rfl, hres, ⟨?_, b1, fun i cs' hi => ?_, hv.1, hI.fr, hI.g0, hI.gfr, hI.tb, hbox, fun i j m cs E d hi hj => ?_, hv.2.1, hv.2.2⟩⟩
  · refine hI.mem.wk (g' := g') rfl (fun d cs' hd => ?_) id (fun _ _ h => h) (fun _ _ _ _ e => e)
    obtain ⟨cs0, cs1, e1, e2, e3⟩ := b2 d cs' hd
    rw [Nat.zero_add] at e3
    subst e3
    refine ⟨cs1, (hfb d cs0 e1).trans e2, giveL_len' _ _ _ _, rfl, fun j c' hj => ?_⟩
    rw [giveL_get, Nat.zero_add] at hj
    obtain ⟨c, hc, rfl⟩ := Option.map_eq_some_iff.1 hj
    exact ⟨c, hc, fun T β u hu => give_rep0 hu⟩
  · obtain ⟨cs0, cs1, e1, _⟩ := b2 i cs' hi
    exact ⟨cs0, e1⟩
  · obtain ⟨cs0, cs1, e1, e2, e3⟩ := b2 i cs hi
    rw [Nat.zero_add] at e3
    subst e3
    rw [giveL_get, Nat.zero_add] at hj
    obtain ⟨c, hc, he⟩ := Option.map_eq_some_iff.1 hj
    exact give_tok he
theorem evBody_sound (hmix : P.follows .mixedOrders = true) (hcall : SoundCall P call) {n : Nat} {f : FuncId} {fn : Func} (hf : P.funcs[f]? = some fn) (hok : okFn P fn = true) {xs : List AV} {bs : Bx} {out : Out} (h : evBody P takes call n fn xs bs = some out)
    {g : Gh} {w : World} {vs : Array Value} (hm : Mem P g w bs) (hL : Laid g w) (hl : bs.length = xs.length) (hv : vs.size = xs.length) (hr : ∀ (i : Nat) x, xs[i]? = some x → ∃ v, vs[i]? = some v ∧ RepS P g w x v) :
    Calls P f vs w (PostOf P g w bs out) := by
  unfold okFn at hok
  rw [Bool.and_eq_true] at hok
  unfold evBody at h
  split at h
  · rename_i c hc
    obtain ⟨hchk, h⟩ := bif_some h
    simp only [Bool.and_eq_true] at hchk
    have hbl : bs.length = fn.params.size := Nat.eq_of_beq_eq_true hchk.1.2
    have hokc : okCode P c = true := by
      have := hok.2
      rw [hc] at this
      exact this
    have ret : ∀ g' s' a' w', outOf P fn bs s' = some out → Inv P (fxOf g w bs fn.params.size hm hL) g' s' a' w' → a'.defers = [] ∧ ∃ v, (results fn a'.tmps).run P w' = .ok v w' ∧ PostOf P g w bs out (.returned v) w' := fun g' s' a' w' e hI' => by
      obtain ⟨x, v, bs', g2, rfl, hrun, post⟩ := outOf_sound hm hL hI' hbl e
      exact ⟨hI'.dfr, x, hrun, x, g2, rfl, post⟩
    refine calls_of_wp hf hc (evC_sound (F := fxOf g w bs fn.params.size hm hL) hmix hcall (takes := takes) _ c _ _ hokc _ _ out g _ w _ h (entry_inv hm hL hl hv hr) (fun x g' s' a' w' e hI' => ?_) (fun s' v a' w' e hd hf hkb => ?_))
    · cases x with
      | normal => exact ret g' s' a' w' e hI'
      | ret => exact ret g' s' a' w' e hI'
      | exit id => cases e
    · cases e
      exact ⟨hd, rfl, hf⟩
  · cases h
theorem evF_sound (hmix : P.follows .mixedOrders = true) {ext : CallF} (hext : SoundCall P ext) {fs : List FuncId} (hfs : ∀ f ∈ fs, ∀ fn, P.funcs[f]? = some fn → okFn P fn = true) : ∀ n, SoundCall P (evF P takes ext fs n)
  | 0 => fun f xs bs out h => by cases h
  | n + 1 => fun f xs bs out h => by
    unfold evF at h
    split at h
    · rename_i r hr
      cases h
      exact hext f xs bs _ hr
    · obtain ⟨hc, h⟩ := bif_some h
      split at h
      · rename_i fn hfn
        obtain ⟨o, h, he⟩ := Option.map_eq_some_iff.1 h
        cases he
        have hok := hfs f (by simpa using hc) fn hfn
        refine ⟨⟨fn, hfn, ?_, ?_⟩, fun g w vs hm hL hl hv hr => evBody_sound hmix (evF_sound hmix hext hfs n) hfn hok h hm hL hl hv hr⟩
        · unfold okFn at hok
          cases hb : fn.body with
          | none => rw [hb] at hok; simp at hok
          | some c => rfl
        · unfold okFn at hok
          simp only [Bool.and_eq_true, Bool.not_eq_true'] at hok
          exact hok.1
      · cases h
end
end Go.Proofs.YtckdgcpomkefpaaGreatDoor.En
end
section
set_option linter.unusedVariables false
set_option linter.unusedSimpArgs false
namespace Go.Proofs.YtckdgcpomkefpaaGreatDoor.En
open Go
def lkD {α : Type} (d : α) : List (Nat × α) → Nat → α
  | [], _ => d
  | (j, x) :: r, i => bif Nat.beq i j then x else lkD d r i
def upto : Nat → List Nat → List Nat
  | 0, l => l
  | n + 1, l => upto n (n :: l)
def sp (n : Nat) (t : List (Nat × AV)) (b : List (Nat × List AV)) : St := ⟨(upto n []).map (lkD .dead t), (upto n []).map (lkD none (b.map fun p => (p.1, some p.2)))⟩
section
variable (P : Program) (np : Nat) (takes : FuncId → Option Nat) (call : CallF) (ret n : Nat)
def atL {β : Type} (thr : St → Value → Option β) : List Bool → Code → Nat → List (Nat × Nat) → KC β → (Code × Nat × List (Nat × Nat) × KC β)
  | p, .seq a b, out, ex, k => (match p with
    | false :: p => atL thr p a (liveC ret b out ex) ex (fun x s => match x with
      | .normal => evC P np takes call ret n thr b out ex (bif joins a then s.prune np (liveC ret b out ex) else s) k
      | .exit id => k (.exit id) s
      | .ret => k .ret s)
    | _ :: p => atL thr p b out ex k
    | [] => (.skip, out, ex, k))
  | p, .cond c a b, out, ex, k => (match p with
    | false :: p => atL thr p a out ex k
    | _ :: p => atL thr p b out ex k
    | [] => (.skip, out, ex, k))
  | p, .block id c, out, ex, k => atL thr p c out ((id, out) :: ex) (fun x s => match x with
    | .exit j => k (bif j == id then .normal else .exit j) s
    | .normal => k .normal s
    | .ret => k .ret s)
  | p, .loop c, out, ex, k => (match p with
    | [] => (c, out, ex, k)
    | _ :: p => (c, out, ex, k))
  | _, c, out, ex, k => (.skip, out, ex, k)
def loopGo {β : Type} (thr : St → Value → Option β) (q : Code × Nat × List (Nat × Nat) × KC β) (m : Nat) (s : St) : Option β :=
  iter (fun s k => evC P np takes call ret n thr q.1 (liveC ret (.loop q.1) q.2.1 q.2.2.1) q.2.2.1 s (fun x s => match x with
    | .normal => k .normal (s.prune np (liveC ret (.loop q.1) q.2.1 q.2.2.1))
    | .exit id => k (.exit id) s
    | .ret => k .ret s)) m s q.2.2.2
end
def loopF (P : Program) (takes : FuncId → Option Nat) (call : CallF) (n : Nat) (f : FuncId) (bx : Bx) (p : List Bool) (m : Nat) (s : St) : Option Out := match P.funcs[f]? with
  | some fn => (match fn.body with
    | some c => loopGo P fn.params.size takes call (retMask fn.results.toList) n (fun _ v => some (.thr v)) (atL P fn.params.size takes call (retMask fn.results.toList) n (fun _ v => some (.thr v)) p c (retMask fn.results.toList) [] (fun x s => match x with
        | .normal => outOf P fn bx s
        | .ret => outOf P fn bx s
        | .exit _ => none)) m s
    | none => none)
  | none => none
def loopF2 (P : Program) (takes : FuncId → Option Nat) (call : CallF) (n : Nat) (f : FuncId) (bx : Bx) (p1 : List Bool) (m1 : Nat) (p2 : List Bool) (m : Nat) (s : St) : Option Out := match P.funcs[f]? with
  | some fn => (match fn.body with
    | some c =>
      let thr : St → Value → Option Out := fun _ v => some (.thr v)
      let q1 := atL P fn.params.size takes call (retMask fn.results.toList) n thr p1 c (retMask fn.results.toList) [] (fun x s => match x with
        | .normal => outOf P fn bx s
        | .ret => outOf P fn bx s
        | .exit _ => none)
      loopGo P fn.params.size takes call (retMask fn.results.toList) n thr (atL P fn.params.size takes call (retMask fn.results.toList) n thr p2 q1.1 (liveC (retMask fn.results.toList) (.loop q1.1) q1.2.1 q1.2.2.1) q1.2.2.1 (fun x s => match x with
        | .normal => loopGo P fn.params.size takes call (retMask fn.results.toList) n thr q1 m1 (s.prune fn.params.size (liveC (retMask fn.results.toList) (.loop q1.1) q1.2.1 q1.2.2.1))
        | .exit id => q1.2.2.2 (.exit id) s
        | .ret => q1.2.2.2 .ret s)) m s
    | none => none)
  | none => none
def evFn (P : Program) (takes : FuncId → Option Nat) (call : CallF) (n : Nat) (f : FuncId) (xs : List AV) (bx : Bx) : Option Out := match P.funcs[f]? with
  | some fn => evBody P takes call n fn xs bx
  | none => none
end Go.Proofs.YtckdgcpomkefpaaGreatDoor.En
end
section
set_option linter.unusedVariables false
set_option linter.unusedSimpArgs false
namespace Go.Proofs.YtckdgcpomkefpaaGreatDoor.En
open Go
def addF (f : FuncId) (ent : List AV → Bx → Option (Bool × Out)) (ext : CallF) : CallF := fun g xs bs => bif Nat.beq g f then ent xs bs else ext g xs bs
section
variable {P : Program} {takes : FuncId → Option Nat} {ext call : CallF}
theorem SoundCall.le (h : SoundCall P call) (hle : ∀ f xs bs out, ext f xs bs = some (true, out) → call f xs bs = some (true, out)) : SoundCall P ext := fun f xs bs out ho => h f xs bs out (hle f xs bs out ho)
theorem sound_fn (hmix : P.follows .mixedOrders = true) (hext : SoundCall P ext) {f : FuncId} {fn : Func} (hf : P.funcs[f]? = some fn) (hok : okFn P fn = true) {n : Nat} {xs : List AV} {bs : Bx} {out : Out} (h : evFn P takes ext n f xs bs = some out) :
    (∃ fn, P.funcs[f]? = some fn ∧ fn.body.isSome = true ∧ (fn.name == "runtime.NumGoroutine") = false) ∧ ∀ (g : Gh) (w : World) (vs : Array Value), Mem P g w bs → Laid g w → bs.length = xs.length → vs.size = xs.length →
  (∀ (i : Nat) x, xs[i]? = some x → ∃ v, vs[i]? = some v ∧ RepS P g w x v) → Calls P f vs w (PostOf P g w bs out) := by
  unfold evFn at h
  rw [hf] at h
  refine ⟨⟨fn, hf, ?_, ?_⟩, fun g w vs hm hL hl hv hr => evBody_sound hmix hext hf hok h hm hL hl hv hr⟩
  · unfold okFn at hok
    cases hb : fn.body with
    | none => rw [hb] at hok; simp at hok
    | some c => rfl
  · unfold okFn at hok
    simp only [Bool.and_eq_true, Bool.not_eq_true'] at hok
    exact hok.1
theorem sound_add (hmix : P.follows .mixedOrders = true) (hext : SoundCall P ext) (f : FuncId) {fn : Func} (hf : P.funcs[f]? = some fn) (hok : okFn P fn = true) (ent : List AV → Bx → Option (Bool × Out))
    (h : ∀ xs bs out, ent xs bs = some (true, out) → ∃ n, evFn P takes ext n f xs bs = some out) : SoundCall P (addF f ent ext) := fun g xs bs out ho => by
  unfold addF at ho
  cases hg : Nat.beq g f <;> rw [hg] at ho <;> simp only [cond_true, cond_false] at ho
  · exact hext g xs bs out ho
  · have e : g = f := Nat.eq_of_beq_eq_true hg
    subst e
    obtain ⟨n, hn⟩ := h xs bs out ho
    obtain ⟨h1, h2⟩ := sound_fn hmix hext hf hok hn
    refine ⟨h1, fun gh w vs a1 aL a2 a3 a4 => ?_⟩
    exact h2 gh w vs a1 aL a2 a3 a4
theorem sound_rec (hmix : P.follows .mixedOrders = true) (hext : SoundCall P ext) (f : FuncId) {fn : Func} (hf : P.funcs[f]? = some fn) (hok : okFn P fn = true) (ent : Nat → List AV → Bx → Option (Bool × Out)) (h0 : ∀ xs bs out, ent 0 xs bs ≠ some (true, out))
    (h : ∀ k xs bs out, ent (k + 1) xs bs = some (true, out) → ∃ n, evFn P takes (addF f (ent k) ext) n f xs bs = some out) : ∀ k, SoundCall P (addF f (ent k) ext)
  | 0 => fun g xs bs out ho => by
    unfold addF at ho
    cases hg : Nat.beq g f <;> rw [hg] at ho <;> simp only [cond_true, cond_false] at ho
    · exact hext g xs bs out ho
    · exact absurd ho (h0 _ _ _)
  | k + 1 => fun g xs bs out ho => by
    unfold addF at ho
    cases hg : Nat.beq g f <;> rw [hg] at ho <;> simp only [cond_true, cond_false] at ho
    · exact hext g xs bs out ho
    · have e : g = f := Nat.eq_of_beq_eq_true hg
      subst e
      obtain ⟨n, hn⟩ := h k xs bs out ho
      obtain ⟨h1, h2⟩ := sound_fn hmix (sound_rec hmix hext g hf hok ent h0 h k) hf hok hn
      refine ⟨h1, fun gh w vs a1 aL a2 a3 a4 => ?_⟩
      exact h2 gh w vs a1 aL a2 a3 a4
theorem sound_addF (hmix : P.follows .mixedOrders = true) (hext : SoundCall P ext) (f : FuncId) {fn : Func} (hf : P.funcs[f]? = some fn) (hok : okFn P fn = true) (ent : List AV → Bx → Option (Bool × Out))
    (h : ∀ xs bs out, ent xs bs = some (true, out) → ∃ n o, evFn P takes ext n f xs bs = some o ∧ o.flat = out.flat) : SoundCall P (addF f ent ext) := fun g xs bs out ho => by
  unfold addF at ho
  cases hg : Nat.beq g f <;> rw [hg] at ho <;> simp only [cond_true, cond_false] at ho
  · exact hext g xs bs out ho
  · have e : g = f := Nat.eq_of_beq_eq_true hg
    subst e
    obtain ⟨n, o, hn, hfl⟩ := h xs bs out ho
    obtain ⟨h1, h2⟩ := sound_fn hmix hext hf hok hn
    refine ⟨h1, fun gh w vs a1 aL a2 a3 a4 => ?_⟩
    exact (h2 gh w vs a1 aL a2 a3 a4).mono fun e w' hp => hp.congr hfl
theorem sound_none : SoundCall P (fun _ _ _ => none) := fun f xs bs out h => by cases h
def okFs (P : Program) (fs : List FuncId) : Bool := fs.all fun f => match P.funcs[f]? with | some fn => okFn P fn | none => true
theorem sound_fs (hmix : P.follows .mixedOrders = true) (hext : SoundCall P ext) {fs : List FuncId} (h : okFs P fs = true) (n : Nat) : SoundCall P (evF P takes ext fs n) :=
  evF_sound hmix hext (fun f hf fn hfn => by
    have := List.all_eq_true.1 h f hf
    rw [hfn] at this
    exact this) n
end
end Go.Proofs.YtckdgcpomkefpaaGreatDoor.En
end
section
set_option linter.unusedVariables false
set_option linter.unusedSimpArgs false
set_option maxRecDepth 100000
namespace Go.Proofs.YtckdgcpomkefpaaGreatDoor.En
open Go
noncomputable abbrev PR := Tryz.prog
def TK : FuncId → Option Nat := fun _ => none
theorem idx_at {l : List Dat} {i : Nat} (h : i < l.length) : idx l (i : Int) = some l[i] := by
  unfold idx
  have e : decide ((0 : Int) ≤ i) = true := decide_eq_true (by omega)
  rw [e]
  simp [h]
end Go.Proofs.YtckdgcpomkefpaaGreatDoor.En
end
section
set_option linter.unusedVariables false
set_option linter.unusedSimpArgs false
namespace Go.Proofs.YtckdgcpomkefpaaGreatDoor.En
open Go
def g0 (w : World) : Gh := ⟨fun β _ => β < w.heap.size, fun _ => none, fun _ => none⟩
theorem Mem.of_none {P : Program} {w : World} {b : Bx} (hb : ∀ x ∈ b, x = none) : Mem P (g0 w) w b := by
  have hn : ∀ d cs, b[d]? = some (some cs) → False := fun d cs h => by have := hb _ (List.mem_of_getElem? h); cases this
  exact ⟨fun β j h => h, fun d cs h => (hn d cs h).elim, fun d d' β cs cs' h => (hn d cs h).elim, fun n v E h => (by cases h), fun n m v v' E E' β h => (by cases h), fun n v E β d cs h => (by cases h), fun d cs β h _ => (hn d cs h).elim⟩
theorem TT_none {w : World} {b : Bx} (hb : ∀ x ∈ b, x = none) {β j : Nat} (h : TTof (g0 w) b β j) : False := by
  rcases h with ⟨i, cs, h, _⟩ | ⟨⟨n, y, E, h, _⟩, _⟩
  · have := hb _ (List.mem_of_getElem? h); cases this
  · cases h
theorem calls_v {P : Program} {call : CallF} (h : SoundCall P call) {f : FuncId} {xs : List AV} {bs bs' : Bx} {x : Value} (hc : call f xs bs = some (true, .ret (.v x) bs')) (hb : ∀ x ∈ bs, x = none) (hl : bs.length = xs.length) {W : World} (hW : GW W) {vs : Array Value} (hv : vs.size = xs.length)
    (hr : ∀ (i : Nat) x, xs[i]? = some x → ∃ v, vs[i]? = some v ∧ RepS P (g0 W) W x v) : Calls P f vs W fun e w' => e = .returned x ∧ Go.RowKit.Below W.heap.size W w' := by
  obtain ⟨_, h2⟩ := h f xs bs _ hc
  refine (h2 (g0 W) W vs (Mem.of_none hb) ⟨fun β hβ _ => Nat.lt_of_lt_of_le hβ hW.size, hW⟩ hl hv hr).mono fun e w' he => ?_
  obtain ⟨y, g', rfl, post⟩ := he
  obtain ⟨rfl, _⟩ := (show y = x ∧ _ from post.rep)
  exact ⟨rfl, (post.fr.mono fun β j _ t => TT_none hb t).below⟩
theorem RepRow.of_cells {P : Program} {w : World} {E : TypeId} {ks : List CK} {l : List Dat} {β off cap : Nat} {vals : Nat → Nat → Value} (hk : kinds P E = some ks) (hlen : l.length ≤ cap)
    (hc : ∀ i j, i < l.length → j < ks.length → w.cell? ⟨β, off + i * ks.length + j, none⟩ = some (vals i j) ∧ (vals i j).oneCell' = true)
    (hs : ∀ i j d k, l[i]? = some d → ks[j]? = some k → scal k (d.at j) (vals i j))
    (hr : ∀ i j d E', l[i]? = some d → ks[j]? = some (.row E') → RepRow P (g0 w).G w E' (d.at j).toL (vals i j)) : RepRow P (g0 w).G w E l (.slice (some ⟨β, off, none⟩) l.length cap) :=
  .mk E l β off cap ks vals hk hlen (fun i j hi hj => ⟨World.block_lt_of_cell? w ⟨β, off + i * ks.length + j, none⟩ (hc i j hi hj).1, (hc i j hi hj).1, (hc i j hi hj).2⟩) hs hr
end Go.Proofs.YtckdgcpomkefpaaGreatDoor.En
end
