/- Code follows the plain evaluator. -/
import Derived.Test.YtckdgcpomkefpaaGreatDoorEn19
import Derived.LoopN
set_option linter.unusedVariables false
set_option linter.unusedSimpArgs false
namespace Go.Proofs.YtckdgcpomkefpaaGreatDoor.En
open Go
/-- The side conditions of a body: to be told once, of closed terms. -/
def okCode (P : Program) : Code → Bool
  | .skip => true
  | .region _ ops dr => ops.toList.all okOp && okGroups ops.toList ops.toList && (!dr || drawnOk P ops.toList)
  | .seq a b => okCode P a && okCode P b
  | .cond c a b => okO c && okCode P a && okCode P b
  | .block _ c => okCode P c
  | .loop c => okCode P c
  | .exit _ => true
  | .ret => true
  | _ => false
def exitOf : Ex → Exit | .normal => .normal | .exit id => .exit id | .ret => .ret
section
variable {P : Program} {F : Fx} {np : Nat} {takes : FuncId → Option Nat} {call : CallF} {g : Gh} {s : St} {a : Act} {w : World}

theorem forgetL_rep {D : List Nat} (h : Inv P F g s a w) : Inv P F g (forget D s) a w := by
  refine h.wk (g' := g) rfl (by simp [forget, forgetL_len]) rfl (fun i x' hi => ?_) (fun d cs' hd => ⟨cs', hd, rfl, rfl, fun j c' hj => ⟨c', hj, fun _ _ _ h => h⟩⟩) id (fun _ _ h => h) (fun _ _ _ _ e => e) (fun _ _ _ => rfl)
  unfold forget at hi
  dsimp only at hi
  rw [forgetL_get] at hi
  obtain ⟨x, hx, rfl⟩ := Option.map_eq_some_iff.1 hi
  refine ⟨x, hx, fun v hv => ?_⟩
  cases D.contains (0 + i)
  · exact hv
  · exact trivial
theorem pruneT_get (mask : Nat) : ∀ (l : List AV) (i j : Nat), (pruneT mask i l)[j]? = (l[j]?).map fun x => bif mask.testBit (i + j) then x else .dead
  | [], i, j => by simp [pruneT]
  | x :: l, i, 0 => by simp [pruneT]
  | x :: l, i, j + 1 => by
    simp only [pruneT, List.getElem?_cons_succ]
    rw [pruneT_get mask l (i + 1) j, show i + 1 + j = i + (j + 1) by omega]
theorem pruneT_len (mask : Nat) : ∀ (l : List AV) (i : Nat), (pruneT mask i l).length = l.length
  | [], i => rfl
  | x :: l, i => by simp [pruneT, pruneT_len mask l (i + 1)]
theorem pruneB_get (np : Nat) (u : List Nat) : ∀ (l : Bx) (i j : Nat) cs, (pruneB np u i l)[j]? = some (some cs) → l[j]? = some (some cs)
  | [], i, j, cs, h => by simp [pruneB] at h
  | x :: l, i, 0, cs, h => by
    cases x with
    | none => simp [pruneB] at h
    | some c =>
      have h' : (some (bif Nat.blt i np || u.contains i then some c else none) : Option (Option (List AV))) = some (some cs) := h
      revert h'
      cases Nat.blt i np || u.contains i <;> intro h' <;> cases h'
      rfl
  | x :: l, i, j + 1, cs, h => by
    have h' : (pruneB np u (i + 1) l)[j]? = some (some cs) := by cases x <;> exact h
    exact pruneB_get np u l (i + 1) j cs h'
theorem pruneB_len (np : Nat) (u : List Nat) : ∀ (l : Bx) (i : Nat), (pruneB np u i l).length = l.length
  | [], i => rfl
  | none :: l, i => by simp [pruneB, pruneB_len np u l (i + 1)]
  | some c :: l, i => by simp [pruneB, pruneB_len np u l (i + 1)]
theorem prune_rep {mask : Nat} (h : Inv P F g s a w) : Inv P F g (s.prune np mask) a w := by
  refine h.wk (g' := g) rfl (by simp [St.prune, pruneT_len]) (by simp [St.prune, pruneB_len]) (fun i x' hi => ?_) (fun d cs' hd => ?_) id (fun _ _ h => h) (fun _ _ _ _ e => e) (fun _ _ _ => rfl)
  · unfold St.prune at hi
    dsimp only at hi
    rw [pruneT_get] at hi
    obtain ⟨x, hx, rfl⟩ := Option.map_eq_some_iff.1 hi
    refine ⟨x, hx, fun v hv => ?_⟩
    cases mask.testBit (0 + i)
    · exact trivial
    · exact hv
  · exact ⟨cs', pruneB_get _ _ _ _ _ _ hd, rfl, rfl, fun j c' hj => ⟨c', hj, fun _ _ _ h => h⟩⟩
theorem endOk_forget {D : List Nat} {ops : List Oper} (h : endOk P ops (forget D s) = true) : endOk P ops s = true := by
  unfold endOk at h ⊢
  rw [List.all_eq_true] at h ⊢
  intro p hp
  have h1 := h p hp
  have key : ∀ z : Operand, (forget D s).ev z = s.ev z ∨ (forget D s).ev z = .dead := fun z => by
    cases z with
    | tmp t =>
      show (forget D s).get t = s.get t ∨ (forget D s).get t = .dead
      unfold St.get forget
      dsimp only
      rw [List.getD_eq_getElem?_getD, List.getD_eq_getElem?_getD, forgetL_get]
      cases s.t[t]? with
      | none => exact .inl rfl
      | some x =>
        simp only [Option.map_some, Option.getD_some]
        cases D.contains (0 + t)
        · exact .inl rfl
        · exact .inr rfl
    | _ => exact .inl rfl
  unfold aparts at h1 ⊢
  rcases key p.1 with e | e
  · rw [e] at h1
    cases hq : s.ev p.1 <;> rw [hq] at h1 <;> first | exact h1 | skip
    rename_i d off
    dsimp only at h1 ⊢
    have far : ∀ xs : List Operand, farFrom (forget D s) d xs = true → farFrom s d xs = true := fun xs => by
      induction xs with
      | nil => exact id
      | cons x xs ih =>
        intro h2
        unfold farFrom at h2 ⊢
        rw [Bool.and_eq_true] at h2 ⊢
        refine ⟨?_, ih h2.2⟩
        rcases key x with e | e
        · rw [← e]; exact h2.1
        · rw [e] at h2; cases h2.1
    exact far _ h1
  · rw [e] at h1; cases h1
/-- What is asked of a code: whatever the evaluator goes on with, the machine comes to. -/
def Sound (P : Program) (F : Fx) (c : Code) {β : Type} (thr : Value → Option β) (ev : St → KC β → Option β) : Prop :=
  ∀ (s : St) (k : KC β) (o : β) (g : Gh) (a : Act) (w : World) (Q : Exit → Act → World → Prop), ev s k = some o → Inv P F g s a w →
    (∀ x g' s' a' w', k x s' = some o → Inv P F g' s' a' w' → Q (exitOf x) a' w') → (∀ v a' w', thr v = some o → a'.defers = F.ds → Fr F.T F.w0 w' → Q (.panic [{ v := v, recovered := false }]) a' w') → c.wp P Q a w
theorem region_sound {id : Nat} {ops : Array Oper} {dr : Bool} (hm : P.follows .mixedOrders = true) (hcall : SoundCall P call) (hok : okCode P (.region id ops dr) = true) {β : Type} (thr : Value → Option β) :
    Sound P F (.region id ops dr) thr fun s k => evOps P F.np dr takes call (fun v => bif !dr || thrOk ops.toList then thr v else none) ops.toList (ops.size + 1) ops.toList s (fun s => bif !dr || endOk P ops.toList s then k .normal s else none) := by
  intro s k o g a w Q h hI hk ht
  simp only [okCode, Bool.and_eq_true, List.all_eq_true] at hok
  obtain ⟨⟨h1, h2⟩, h3⟩ := hok
  have hF : forget [] s = s := by
    obtain ⟨t, b⟩ := s
    have : ∀ (l : List AV) (i : Nat), forgetL [] i l = l := fun l => by
      induction l with
      | nil => intro i; rfl
      | cons x l ih => intro i; simp [forgetL, ih]
    show (⟨forgetL [] 0 t, b⟩ : St) = ⟨t, b⟩
    rw [this]
  obtain ⟨r, hr, e1, e2⟩ := evOps_run (P := P) (np := F.np) (dr := dr) (ops := ops.toList) (ops.size + 1) takes call _ ops.toList s [] _ o h2 (fun o ho => ⟨fun _ _ _ _ hm => (by cases hm), fun _ _ _ _ _ hm => (by cases hm), fun _ _ hm => (by cases hm)⟩) (by rw [hF]; exact h)
  have hk' : ∀ g' s' a' w', r = .inl s' → Inv P F g' s' a' w' → Q .normal a' w' := fun g' s' a' w' e hI' => by
    obtain ⟨D', hD'⟩ := e1 s' e
    exact hk .normal g' _ a' w' (bif_some hD').2 (forgetL_rep hI')
  have ht' : ∀ v a' w', r = .inr v → a'.defers = F.ds → Fr F.T F.w0 w' → Q (.panic [{ v := v, recovered := false }]) a' w' := fun v a' w' e hd hf =>
    ht v a' w' (bif_some (e2 v e)).2 hd hf
  cases dr
  · exact wp_region_list (runO_sound hcall ops.toList g s a w r hI h1 hr hk' ht')
  · exact region_drawn (takes := takes) hm h3 h1 hcall r (fun v e => by simpa using (bif_some (e2 v e)).1) (fun s' e => by
      obtain ⟨D', hD'⟩ := e1 s' e
      exact endOk_forget (by simpa using (bif_some hD').1)) hI hr hk' ht'
theorem iter_sound {c : Code} {β : Type} {thr : Value → Option β} {body : St → KC β → Option β} (hb : Sound P F c thr body) : ∀ (n : Nat) (s : St) (k : KC β) (o : β) (g : Gh) (a : Act) (w : World) (Q : Exit → Act → World → Prop), iter body n s k = some o → Inv P F g s a w →
    (∀ x g' s' a' w', k x s' = some o → Inv P F g' s' a' w' → Q (exitOf x) a' w') → (∀ v a' w', thr v = some o → a'.defers = F.ds → Fr F.T F.w0 w' → Q (.panic [{ v := v, recovered := false }]) a' w') → Code.rounds P c Q n a w
  | 0, s, k, o, g, a, w, Q, h, _, _, _ => by cases h
  | n + 1, s, k, o, g, a, w, Q, h, hI, hk, ht => by
    rw [rounds_succ]
    refine hb s _ o g a w _ h hI (fun x g' s' a' w' e hI' => ?_) (fun v a' w' e hd hf => ht v a' w' e hd hf)
    cases x with
    | normal => exact iter_sound hb n s' k o g' a' w' Q e hI' hk ht
    | exit id => exact hk (.exit id) g' s' a' w' e hI'
    | ret => exact hk .ret g' s' a' w' e hI'
theorem evC_sound (hm : P.follows .mixedOrders = true) (hcall : SoundCall P call) {ret n : Nat} {β : Type} (thr : Value → Option β) : ∀ (c : Code) (out : Nat) (ex : List (Nat × Nat)), okCode P c = true → Sound P F c thr (evC P F.np takes call ret n thr c out ex)
  | .skip, out, ex, hok => fun s k o g a w Q h hI hk ht => wp_skip (hk .normal g s a w h hI)
  | .region id ops dr, out, ex, hok => region_sound hm hcall hok thr
  | .seq x y, out, ex, hok => fun s k o g a w Q h hI hk ht => by
    simp only [okCode, Bool.and_eq_true] at hok
    refine wp_seq (evC_sound hm hcall thr x _ ex hok.1 s _ o g a w _ h hI (fun e g' s' a' w' he hI' => ?_) (fun v a' w' e hd hf => ht v a' w' e hd hf))
    cases e with
    | normal =>
      refine evC_sound hm hcall thr y out ex hok.2 _ k o g' a' w' Q he ?_ hk ht
      cases joins x
      · exact hI'
      · exact prune_rep hI'
    | exit id => exact hk (.exit id) g' s' a' w' he hI'
    | ret => exact hk .ret g' s' a' w' he hI'
  | .cond c x y, out, ex, hok => fun s k o g a w Q h hI hk ht => by
    simp only [okCode, Bool.and_eq_true] at hok
    unfold evC at h
    split at h
    · rename_i b hb
      have hc := hI.ev c hok.1.1
      rw [hb] at hc
      obtain ⟨hc, _⟩ := (show a.eval c = .bool b ∧ _ from hc)
      refine wp_cond hc ?_
      cases b
      · exact evC_sound hm hcall thr y out ex hok.2 s k o g a w Q h hI hk ht
      · exact evC_sound hm hcall thr x out ex hok.1.2 s k o g a w Q h hI hk ht
    · cases h
  | .block id c, out, ex, hok => fun s k o g a w Q h hI hk ht => by
    simp only [okCode] at hok
    refine wp_block (evC_sound hm hcall thr c out ((id, out) :: ex) hok s _ o g a w _ h hI (fun e g' s' a' w' he hI' => ?_) (fun v a' w' e hd hf => ht v a' w' e hd hf))
    cases e with
    | normal => exact hk .normal g' s' a' w' he hI'
    | exit j =>
      show (if j = id then Q .normal a' w' else Q (.exit j) a' w')
      cases hj : (j == id)
      · dsimp only at he
        rw [hj] at he
        have : ¬ j = id := by simpa using hj
        rw [if_neg this]
        exact hk (.exit j) g' s' a' w' he hI'
      · dsimp only at he
        rw [hj] at he
        have : j = id := by simpa using hj
        rw [if_pos this]
        exact hk .normal g' s' a' w' he hI'
    | ret => exact hk .ret g' s' a' w' he hI'
  | .loop c, out, ex, hok => fun s k o g a w Q h hI hk ht => by
    simp only [okCode] at hok
    refine wp_loop_rounds n (iter_sound (thr := thr) (fun s k o g a w Q h hI hk ht => ?_) n _ k o g a w Q h (prune_rep hI) hk ht)
    refine evC_sound hm hcall thr c _ ex hok _ _ o g a w Q h hI (fun e g' s' a' w' he hI' => ?_) ht
    cases e with
    | normal => exact hk .normal g' _ a' w' he (prune_rep hI')
    | exit id => exact hk (.exit id) g' s' a' w' he hI'
    | ret => exact hk .ret g' s' a' w' he hI'
  | .exit id, out, ex, hok => fun s k o g a w Q h hI hk ht => wp_exit (hk (.exit id) g s a w h hI)
  | .ret, out, ex, hok => fun s k o g a w Q h hI hk ht => wp_ret (hk .ret g s a w h hI)
  | .rangeFunc .., out, ex, hok => by cases hok
  | .scope _, out, ex, hok => by cases hok
  | .label _, out, ex, hok => by cases hok
  | .goto _, out, ex, hok => by cases hok
  | .refuse _, out, ex, hok => by cases hok
end
end Go.Proofs.YtckdgcpomkefpaaGreatDoor.En
