/- Part 4 of a proof: what it needs of the program's functions as plain Lean functions, with the proof that the machine's calls come to them, and of plain laws; put together out of smaller texts. No conditions besides those that each statement names. -/
import Derived.Deep.Slices
import Derived.IntWalk
import Derived.KernelRfl
import Derived.LoopN
import Derived.Recover
import Derived.Shelf.Strings.Builder1
import Derived.SizedLaws
import Derived.Test.YtckdgcpomkefpaaGreatDoorOw0
import Derived.Test.YtckdgcpomkefpaaGreatDoorOw3
section
set_option linter.unusedVariables false
set_option linter.unusedSimpArgs false
namespace Go.Proofs.YtckdgcpomkefpaaGreatDoor.En
open Go
def okCode (P : Program) : Code → Bool
  | .skip => true
  | .region _ ops dr => ops.toList.all okOp && okGroups ops.toList ops.toList && (!dr || (bif manyAlloc ops.toList then hoistOk P ops.toList && okGroups (ops.toList.map nopped) (ops.toList.map nopped) else drawnOk P ops.toList))
  | .seq a b => okCode P a && okCode P b
  | .cond c a b => okO c && okCode P a && okCode P b
  | .block _ c => okCode P c
  | .loop c => okCode P c
  | .exit _ => true
  | .ret => true
  | _ => false
def exitOf : Ex → Exit | .normal => .normal | .exit id => .exit id | .ret => .ret
section
variable {P : Program} {F : Fx} {np : Nat} {takes : FuncId → Option Nat} {call : CallF} {g : Gh} {s : St} {a : Act} {w : World}
theorem forgetL_rep {D : List Nat} (h : Inv P F g s a w) : Inv P F g (forget D s) a w := by
  refine h.wk (g' := g) rfl (by simp [forget, forgetL_len]) rfl (fun i x' hi => ?_) (fun d cs' hd => ⟨cs', hd, rfl, rfl, fun j c' hj => ⟨c', hj, fun _ _ _ h => h⟩⟩) id (fun _ _ h => h) (fun _ _ _ _ e => e) (fun _ _ _ => rfl)
  unfold forget at hi
  dsimp only at hi
  rw [forgetL_get] at hi
  obtain ⟨x, hx, rfl⟩ := Option.map_eq_some_iff.1 hi
  refine ⟨x, hx, fun v hv => ?_⟩
  cases D.contains (0 + i)
  · exact hv
  · exact trivial
theorem pruneT_get (mask : Nat) : ∀ (l : List AV) (i j : Nat), (pruneT mask i l)[j]? = (l[j]?).map fun x => bif mask.testBit (i + j) then x else .dead
  | [], i, j => by simp [pruneT]
  | x :: l, i, 0 => by simp [pruneT]
  | x :: l, i, j + 1 => by
    simp only [pruneT, List.getElem?_cons_succ]
    rw [pruneT_get mask l (i + 1) j, show i + 1 + j = i + (j + 1) by omega]
theorem pruneT_len (mask : Nat) : ∀ (l : List AV) (i : Nat), (pruneT mask i l).length = l.length
  | [], i => rfl
  | x :: l, i => by simp [pruneT, pruneT_len mask l (i + 1)]
theorem pruneB_get (np : Nat) (u : List Nat) : ∀ (l : Bx) (i j : Nat) cs, (pruneB np u i l)[j]? = some (some cs) → l[j]? = some (some cs)
  | [], i, j, cs, h => by simp [pruneB] at h
  | x :: l, i, 0, cs, h => by
    cases x with
    | none => simp [pruneB] at h
    | some c =>
      have h' : (some (bif Nat.blt i np || u.contains i then some c else none) : Option (Option (List AV))) = some (some cs) := h
      revert h'
      cases Nat.blt i np || u.contains i <;> intro h' <;> cases h'
      rfl
  | x :: l, i, j + 1, cs, h => by
    have h' : (pruneB np u (i + 1) l)[j]? = some (some cs) := by cases x <;> exact h
    exact pruneB_get np u l (i + 1) j cs h'
theorem pruneB_len (np : Nat) (u : List Nat) : ∀ (l : Bx) (i : Nat), (pruneB np u i l).length = l.length
  | [], i => rfl
  | none :: l, i => by simp [pruneB, pruneB_len np u l (i + 1)]
  | some c :: l, i => by simp [pruneB, pruneB_len np u l (i + 1)]
theorem prune_rep {mask : Nat} (h : Inv P F g s a w) : Inv P F g (s.prune np mask) a w := by
  refine h.wk (g' := g) rfl (by simp [St.prune, pruneT_len]) (by simp [St.prune, pruneB_len]) (fun i x' hi => ?_) (fun d cs' hd => ?_) id (fun _ _ h => h) (fun _ _ _ _ e => e) (fun _ _ _ => rfl)
  · unfold St.prune at hi
    dsimp only at hi
    rw [pruneT_get] at hi
    obtain ⟨x, hx, rfl⟩ := Option.map_eq_some_iff.1 hi
    refine ⟨x, hx, fun v hv => ?_⟩
    cases mask.testBit (0 + i)
    · exact trivial
    · exact hv
  · exact ⟨cs', pruneB_get _ _ _ _ _ _ hd, rfl, rfl, fun j c' hj => ⟨c', hj, fun _ _ _ h => h⟩⟩
theorem endOk_forget {D : List Nat} {ops : List Oper} (h : endOk P ops (forget D s) = true) : endOk P ops s = true := by
  unfold endOk at h ⊢
  rw [List.all_eq_true] at h ⊢
  intro p hp
  have h1 := h p hp
  have key : ∀ z : Operand, (forget D s).ev z = s.ev z ∨ (forget D s).ev z = .dead := fun z => by
    cases z with
    | tmp t =>
      show (forget D s).get t = s.get t ∨ (forget D s).get t = .dead
      unfold St.get forget
      dsimp only
      rw [List.getD_eq_getElem?_getD, List.getD_eq_getElem?_getD, forgetL_get]
      cases s.t[t]? with
      | none => exact .inl rfl
      | some x =>
        simp only [Option.map_some, Option.getD_some]
        cases D.contains (0 + t)
        · exact .inl rfl
        · exact .inr rfl
    | _ => exact .inl rfl
  unfold aparts at h1 ⊢
  rcases key p.1 with e | e
  · rw [e] at h1
    cases hq : s.ev p.1 <;> rw [hq] at h1 <;> first | exact h1 | skip
    rename_i d off
    dsimp only at h1 ⊢
    have far : ∀ xs : List Operand, farFrom (forget D s) d xs = true → farFrom s d xs = true := fun xs => by
      induction xs with
      | nil => exact id
      | cons x xs ih =>
        intro h2
        unfold farFrom at h2 ⊢
        rw [Bool.and_eq_true] at h2 ⊢
        refine ⟨?_, ih h2.2⟩
        rcases key x with e | e
        · rw [← e]; exact h2.1
        · rw [e] at h2; cases h2.1
    exact far _ h1
  · rw [e] at h1; cases h1
def Sound (P : Program) (F : Fx) (c : Code) {β : Type} (thr : Value → Option β) (ev : St → KC β → Option β) : Prop :=
  ∀ (s : St) (k : KC β) (o : β) (g : Gh) (a : Act) (w : World) (Q : Exit → Act → World → Prop), ev s k = some o → Inv P F g s a w →
    (∀ x g' s' a' w', k x s' = some o → Inv P F g' s' a' w' → Q (exitOf x) a' w') → (∀ v a' w', thr v = some o → a'.defers = F.ds → Fr F.T F.w0 w' → Q (.panic [{ v := v, recovered := false }]) a' w') → c.wp P Q a w
theorem forget_nil (s : St) : forget [] s = s := by
  obtain ⟨t, b⟩ := s
  have : ∀ (l : List AV) (i : Nat), forgetL [] i l = l := fun l => by
    induction l with
    | nil => intro i; rfl
    | cons x l ih => intro i; simp [forgetL, ih]
  show (⟨forgetL [] 0 t, b⟩ : St) = ⟨t, b⟩
  rw [this]
def regE (P : Program) (np : Nat) (takes : FuncId → Option Nat) (call : CallF) {β : Type} (thr : Value → Option β) (ops : Array Oper) (dr : Bool) (s : St) (k : KC β) : Option β :=
  bif dr && manyAlloc ops.toList then
      (bif (allocDs ops.toList).all s.fresh then (allocsS P np (allocDs ops.toList) ops.toList s).bind fun s => evOps P np dr takes call (fun v => bif !dr || thrOk (ops.toList.map nopped) then thr v else none) (ops.toList.map nopped) (ops.size + 1) (ops.toList.map nopped) s (fun s => bif !dr || endOk P (ops.toList.map nopped) s then k .normal s else none) else none)
    else evOps P np dr takes call (fun v => bif !dr || thrOk ops.toList then thr v else none) ops.toList (ops.size + 1) ops.toList s (fun s => bif !dr || endOk P ops.toList s then k .normal s else none)
theorem region_sound {id : Nat} {ops : Array Oper} {dr : Bool} (hm : P.follows .mixedOrders = true) (hcall : SoundCall P call) (hok : okCode P (.region id ops dr) = true) {β : Type} (thr : Value → Option β) :
    Sound P F (.region id ops dr) thr fun s k => regE P F.np takes call thr ops dr s k := by
  intro s k o g a w Q h hI hk ht
  simp only [okCode, Bool.and_eq_true, List.all_eq_true] at hok
  obtain ⟨⟨h1, h2⟩, h3⟩ := hok
  have h : regE P F.np takes call thr ops dr s k = some o := h
  unfold regE at h
  cases hma : dr && manyAlloc ops.toList
  · rw [hma, cond_false] at h
    obtain ⟨r, hr, e1, e2⟩ := evOps_run (P := P) (np := F.np) (dr := dr) (ops := ops.toList) (ops.size + 1) takes call _ ops.toList s [] _ o h2 (fun o ho => ⟨fun _ _ _ _ hm => (by cases hm), fun _ _ _ _ _ hm => (by cases hm), fun _ _ hm => (by cases hm)⟩) (by rw [forget_nil]; exact h)
    have hk' : ∀ g' s' a' w', r = .inl s' → Inv P F g' s' a' w' → Q .normal a' w' := fun g' s' a' w' e hI' => by
      obtain ⟨D', hD'⟩ := e1 s' e
      exact hk .normal g' _ a' w' (bif_some hD').2 (forgetL_rep hI')
    have ht' : ∀ v a' w', r = .inr v → a'.defers = F.ds → Fr F.T F.w0 w' → Q (.panic [{ v := v, recovered := false }]) a' w' := fun v a' w' e hd hf =>
      ht v a' w' (bif_some (e2 v e)).2 hd hf
    cases dr
    · exact wp_region_list (runO_sound hcall ops.toList g s a w r hI h1 hr hk' ht')
    · have hma2 : manyAlloc ops.toList = false := hma
      rw [hma2] at h3
      exact region_drawn (takes := takes) hm h3 h1 hcall r (fun v e => by simpa using (bif_some (e2 v e)).1) (fun s' e => by
        obtain ⟨D', hD'⟩ := e1 s' e
        exact endOk_forget (by simpa using (bif_some hD').1)) hI hr hk' ht'
  · rw [hma, cond_true] at h
    rw [Bool.and_eq_true] at hma
    obtain ⟨hd, hma⟩ := hma
    subst hd
    rw [hma] at h3
    simp only [Bool.not_true, Bool.false_or, cond_true, Bool.and_eq_true] at h3
    obtain ⟨h3, h4⟩ := h3
    obtain ⟨hfr, h⟩ := bif_some h
    obtain ⟨sh, hsh, h⟩ := Option.bind_eq_some_iff.1 h
    obtain ⟨r, hr, e1, e2⟩ := evOps_run (P := P) (np := F.np) (dr := true) (ops := ops.toList.map nopped) (ops.size + 1) takes call _ (ops.toList.map nopped) sh [] _ o h4 (fun o ho => ⟨fun _ _ _ _ hm => (by cases hm), fun _ _ _ _ _ hm => (by cases hm), fun _ _ hm => (by cases hm)⟩) (by rw [forget_nil]; exact h)
    have hk' : ∀ g' s' a' w', r = .inl s' → Inv P F g' s' a' w' → Q .normal a' w' := fun g' s' a' w' e hI' => by
      obtain ⟨D', hD'⟩ := e1 s' e
      exact hk .normal g' _ a' w' (bif_some hD').2 (forgetL_rep hI')
    have ht' : ∀ v a' w', r = .inr v → a'.defers = F.ds → Fr F.T F.w0 w' → Q (.panic [{ v := v, recovered := false }]) a' w' := fun v a' w' e hd hf =>
      ht v a' w' (bif_some (e2 v e)).2 hd hf
    exact region_hoist (takes := takes) hm h3 h1 hcall r (fun v e => by simpa using (bif_some (e2 v e)).1) (fun s' e => by
      obtain ⟨D', hD'⟩ := e1 s' e
      exact endOk_forget (by simpa using (bif_some hD').1)) hI hfr hsh hr hk' ht'
theorem iter_sound {c : Code} {β : Type} {thr : Value → Option β} {body : St → KC β → Option β} (hb : Sound P F c thr body) : ∀ (n : Nat) (s : St) (k : KC β) (o : β) (g : Gh) (a : Act) (w : World) (Q : Exit → Act → World → Prop), iter body n s k = some o → Inv P F g s a w →
    (∀ x g' s' a' w', k x s' = some o → Inv P F g' s' a' w' → Q (exitOf x) a' w') → (∀ v a' w', thr v = some o → a'.defers = F.ds → Fr F.T F.w0 w' → Q (.panic [{ v := v, recovered := false }]) a' w') → Code.rounds P c Q n a w
  | 0, s, k, o, g, a, w, Q, h, _, _, _ => by cases h
  | n + 1, s, k, o, g, a, w, Q, h, hI, hk, ht => by
    rw [rounds_succ]
    refine hb s _ o g a w _ h hI (fun x g' s' a' w' e hI' => ?_) (fun v a' w' e hd hf => ht v a' w' e hd hf)
    cases x with
    | normal => exact iter_sound hb n s' k o g' a' w' Q e hI' hk ht
    | exit id => exact hk (.exit id) g' s' a' w' e hI'
    | ret => exact hk .ret g' s' a' w' e hI'
theorem evC_sound (hm : P.follows .mixedOrders = true) (hcall : SoundCall P call) {ret n : Nat} {β : Type} (thr : Value → Option β) : ∀ (c : Code) (out : Nat) (ex : List (Nat × Nat)), okCode P c = true → Sound P F c thr (evC P F.np takes call ret n thr c out ex)
  | .skip, out, ex, hok => fun s k o g a w Q h hI hk ht => wp_skip (hk .normal g s a w h hI)
  | .region id ops dr, out, ex, hok => region_sound hm hcall hok thr
  | .seq x y, out, ex, hok => fun s k o g a w Q h hI hk ht => by
    simp only [okCode, Bool.and_eq_true] at hok
    refine wp_seq (evC_sound hm hcall thr x _ ex hok.1 s _ o g a w _ h hI (fun e g' s' a' w' he hI' => ?_) (fun v a' w' e hd hf => ht v a' w' e hd hf))
    cases e with
    | normal =>
      refine evC_sound hm hcall thr y out ex hok.2 _ k o g' a' w' Q he ?_ hk ht
      cases joins x
      · exact hI'
      · exact prune_rep hI'
    | exit id => exact hk (.exit id) g' s' a' w' he hI'
    | ret => exact hk .ret g' s' a' w' he hI'
  | .cond c x y, out, ex, hok => fun s k o g a w Q h hI hk ht => by
    simp only [okCode, Bool.and_eq_true] at hok
    unfold evC at h
    split at h
    · rename_i b hb
      have hc := hI.ev c hok.1.1
      rw [hb] at hc
      obtain ⟨hc, _⟩ := (show a.eval c = .bool b ∧ _ from hc)
      refine wp_cond hc ?_
      cases b
      · exact evC_sound hm hcall thr y out ex hok.2 s k o g a w Q h hI hk ht
      · exact evC_sound hm hcall thr x out ex hok.1.2 s k o g a w Q h hI hk ht
    · cases h
  | .block id c, out, ex, hok => fun s k o g a w Q h hI hk ht => by
    simp only [okCode] at hok
    refine wp_block (evC_sound hm hcall thr c out ((id, out) :: ex) hok s _ o g a w _ h hI (fun e g' s' a' w' he hI' => ?_) (fun v a' w' e hd hf => ht v a' w' e hd hf))
    cases e with
    | normal => exact hk .normal g' s' a' w' he hI'
    | exit j =>
      show (if j = id then Q .normal a' w' else Q (.exit j) a' w')
      cases hj : (j == id)
      · dsimp only at he
        rw [hj] at he
        have : ¬ j = id := by simpa using hj
        rw [if_neg this]
        exact hk (.exit j) g' s' a' w' he hI'
      · dsimp only at he
        rw [hj] at he
        have : j = id := by simpa using hj
        rw [if_pos this]
        exact hk .normal g' s' a' w' he hI'
    | ret => exact hk .ret g' s' a' w' he hI'
  | .loop c, out, ex, hok => fun s k o g a w Q h hI hk ht => by
    simp only [okCode] at hok
    refine wp_loop_rounds n (iter_sound (thr := thr) (fun s k o g a w Q h hI hk ht => ?_) n _ k o g a w Q h (prune_rep hI) hk ht)
    refine evC_sound hm hcall thr c _ ex hok _ _ o g a w Q h hI (fun e g' s' a' w' he hI' => ?_) ht
    cases e with
    | normal => exact hk .normal g' _ a' w' he (prune_rep hI')
    | exit id => exact hk (.exit id) g' s' a' w' he hI'
    | ret => exact hk .ret g' s' a' w' he hI'
  | .exit id, out, ex, hok => fun s k o g a w Q h hI hk ht => wp_exit (hk (.exit id) g s a w h hI)
  | .ret, out, ex, hok => fun s k o g a w Q h hI hk ht => wp_ret (hk .ret g s a w h hI)
  | .rangeFunc .., out, ex, hok => by cases hok
  | .scope _, out, ex, hok => by cases hok
  | .label _, out, ex, hok => by cases hok
  | .goto _, out, ex, hok => by cases hok
  | .refuse _, out, ex, hok => by cases hok
end
end Go.Proofs.YtckdgcpomkefpaaGreatDoor.En
end
section
set_option linter.unusedVariables false
set_option linter.unusedSimpArgs false
namespace Go.Proofs.YtckdgcpomkefpaaGreatDoor.En
open Go
def okFn (P : Program) (fn : Func) : Bool := !(fn.name == "runtime.NumGoroutine") && (match fn.body with | some c => okCode P c | none => false)
section
variable {P : Program} {F : Fx} {np : Nat} {takes : FuncId → Option Nat} {call : CallF} {g : Gh} {s : St} {a : Act} {w : World}
structure Shape (x : AV) : Prop where
  box : ∀ d o, x ≠ .box d o
  fn : ∀ f a b, x ≠ .fn f a b
  tup : ∀ vs, x ≠ .tup vs
  agg : ∀ cs, x = .agg cs → ∀ (i : Nat) c, cs[i]? = some c → c.bare = c
theorem bare_bare (c : AV) : c.bare.bare = c.bare := by cases c <;> rfl
theorem bare_C {c : AV} {v : Value} (h : RepC P g w c v) : RepC P g w c.bare v := by
  cases c <;> first | exact h | skip
  case row t E l => exact ⟨h.1, fun n hn => by cases hn⟩
  case box d off => obtain ⟨β, _, rfl⟩ := h; exact rfl
  case fn f xs cs => obtain ⟨us, ws, rfl, _⟩ := h; exact rfl
theorem claim_spec (u : List Nat) (x : AV) : (∀ v, RepS P g w x v → RepT P g w (claim u x).2 v) ∧ Shape (claim u x).2 ∧ (∀ m E l, (claim u x).2 = .row (some m) E l → m ∉ u ∧ m < 1024 ∧ (claim u x).1 = m :: u) ∧ (∀ m, m ∈ u → m ∈ (claim u x).1) := by
  cases x with
  | row t E l =>
    cases t with
    | none => exact ⟨fun v h => h, ⟨fun _ _ e => (by cases e), fun _ _ _ e => (by cases e), fun _ e => (by cases e), fun _ e => (by cases e)⟩, fun _ _ _ e => (by cases e), fun _ h => h⟩
    | some n =>
      unfold claim
      dsimp only
      cases hc : u.contains n || !Nat.blt n 1024
      · simp only [Bool.or_eq_false_iff] at hc
        refine ⟨fun v h => h, ⟨fun _ _ e => (by cases e), fun _ _ _ e => (by cases e), fun _ e => (by cases e), fun _ e => (by cases e)⟩, fun m E' l' e => ?_, fun m h => by simp [h]⟩
        cases e
        have h2 : Nat.blt n 1024 = true := by simpa using hc.2
        exact ⟨by simpa using hc.1, Nat.le_of_ble_eq_true h2, rfl⟩
      · exact ⟨fun v h => ⟨h.1, fun m hm => by cases hm⟩, ⟨fun _ _ e => (by cases e), fun _ _ _ e => (by cases e), fun _ e => (by cases e), fun _ e => (by cases e)⟩, fun _ _ _ e => (by cases e), fun _ h => h⟩
  | agg cs =>
    refine ⟨fun v h => ?_, ⟨fun _ _ e => (by cases e), fun _ _ _ e => (by cases e), fun _ e => (by cases e), fun cs' e i c hi => ?_⟩, fun _ _ _ e => (by cases e), fun _ h => h⟩
    · obtain ⟨vs, h1, h2, h3⟩ := h
      refine ⟨vs, h1, by simp [h2], fun j c hj => ?_⟩
      rw [List.getElem?_map] at hj
      obtain ⟨c0, hc0, rfl⟩ := Option.map_eq_some_iff.1 hj
      obtain ⟨u, hu, hr⟩ := h3 j c0 hc0
      exact ⟨u, hu, bare_C hr⟩
    · cases e
      rw [List.getElem?_map] at hi
      obtain ⟨c0, hc0, rfl⟩ := Option.map_eq_some_iff.1 hi
      exact bare_bare c0
  | tup vs => exact ⟨fun v h => trivial, ⟨fun _ _ e => (by cases e), fun _ _ _ e => (by cases e), fun _ e => (by cases e), fun _ e => (by cases e)⟩, fun _ _ _ e => (by cases e), fun _ h => h⟩
  | fn f xs cs => exact ⟨fun v h => trivial, ⟨fun _ _ e => (by cases e), fun _ _ _ e => (by cases e), fun _ e => (by cases e), fun _ e => (by cases e)⟩, fun _ _ _ e => (by cases e), fun _ h => h⟩
  | box d o => exact ⟨fun v h => trivial, ⟨fun _ _ e => (by cases e), fun _ _ _ e => (by cases e), fun _ e => (by cases e), fun _ e => (by cases e)⟩, fun _ _ _ e => (by cases e), fun _ h => h⟩
  | v y => exact ⟨fun v h => h, ⟨fun _ _ e => (by cases e), fun _ _ _ e => (by cases e), fun _ e => (by cases e), fun _ e => (by cases e)⟩, fun _ _ _ e => (by cases e), fun _ h => h⟩
  | ro cs => exact ⟨fun v h => h, ⟨fun _ _ e => (by cases e), fun _ _ _ e => (by cases e), fun _ e => (by cases e), fun _ e => (by cases e)⟩, fun _ _ _ e => (by cases e), fun _ h => h⟩
  | self => exact ⟨fun v h => h, ⟨fun _ _ e => (by cases e), fun _ _ _ e => (by cases e), fun _ e => (by cases e), fun _ e => (by cases e)⟩, fun _ _ _ e => (by cases e), fun _ h => h⟩
  | dead => exact ⟨fun v h => h, ⟨fun _ _ e => (by cases e), fun _ _ _ e => (by cases e), fun _ e => (by cases e), fun _ e => (by cases e)⟩, fun _ _ _ e => (by cases e), fun _ h => h⟩
theorem bare_no (c : AV) : (∀ d o, c.bare ≠ .box d o) ∧ (∀ f a b, c.bare ≠ .fn f a b) ∧ ∀ m E l, c.bare ≠ .row (some m) E l := by
  cases c <;> exact ⟨fun _ _ e => (by cases e), fun _ _ _ e => (by cases e), fun _ _ _ e => (by cases e)⟩
theorem claimA_spec (sh : List Bool) : ∀ (cs : List AV) (u : List Nat), (claimA sh u cs).length = cs.length ∧
    (∀ (j : Nat) x, (claimA sh u cs)[j]? = some x → ∃ y, cs[j]? = some y ∧ (∀ v, RepC P g w y v → RepC P g w x v) ∧ (∀ d o, x ≠ .box d o) ∧ ∀ f a b, x ≠ .fn f a b) ∧
    (∀ (j m : Nat) E d, (claimA sh u cs)[j]? = some (.row (some m) E d) → m ∉ u ∧ (m < 1024 ∨ sh.getD (m / 1024 - 1) false = false)) ∧
    ∀ (j j' m : Nat) E d E' d', (claimA sh u cs)[j]? = some (.row (some m) E d) → (claimA sh u cs)[j']? = some (.row (some m) E' d') → j = j'
  | [], u => ⟨rfl, fun j x h => by simp [claimA] at h, fun j m E d h => by simp [claimA] at h, fun j j' m E d E' d' h => by simp [claimA] at h⟩
  | c :: cs, u => by
    have mk : ∀ (c1 : AV) (u1 : List Nat), claimA sh u (c :: cs) = c1 :: claimA sh u1 cs → ((∀ v, RepC P g w c v → RepC P g w c1 v) ∧ (∀ d o, c1 ≠ .box d o) ∧ ∀ f a b, c1 ≠ .fn f a b) →
        (∀ m E l, c1 = .row (some m) E l → (m ∉ u ∧ (m < 1024 ∨ sh.getD (m / 1024 - 1) false = false)) ∧ m ∈ u1) → (∀ m, m ∈ u → m ∈ u1) → _ := fun c1 u1 he h1 h2 h3 => (by
      obtain ⟨i1, i2, i3, i4⟩ := claimA_spec sh cs u1
      rw [he]
      refine ⟨by simp [i1], fun j c' h => ?_, fun j m E l h => ?_, fun j j' m E l E' l' h h' => ?_⟩
      · cases j with
        | zero => simp at h; subst h; exact ⟨c, rfl, h1⟩
        | succ j => exact i2 j c' (by simpa using h)
      · cases j with
        | zero => simp at h; exact (h2 m E l h).1
        | succ j =>
          have := i3 j m E l (by simpa using h)
          exact ⟨fun hm => this.1 (h3 m hm), this.2⟩
      · cases j with
        | zero =>
          simp at h
          cases j' with
          | zero => rfl
          | succ j' => exact absurd (h2 m E l h).2 (i3 j' m E' l' (by simpa using h')).1
        | succ j =>
          cases j' with
          | zero => simp at h'; exact absurd (h2 m E' l' h').2 (i3 j m E l (by simpa using h)).1
          | succ j' => rw [i4 j j' m E l E' l' (by simpa using h) (by simpa using h')] : (claimA sh u (c :: cs)).length = (c :: cs).length ∧
    (∀ (j : Nat) x, (claimA sh u (c :: cs))[j]? = some x → ∃ y, (c :: cs)[j]? = some y ∧ (∀ v, RepC P g w y v → RepC P g w x v) ∧ (∀ d o, x ≠ .box d o) ∧ ∀ f a b, x ≠ .fn f a b) ∧
    (∀ (j m : Nat) E d, (claimA sh u (c :: cs))[j]? = some (.row (some m) E d) → m ∉ u ∧ (m < 1024 ∨ sh.getD (m / 1024 - 1) false = false)) ∧
    ∀ (j j' m : Nat) E d E' d', (claimA sh u (c :: cs))[j]? = some (.row (some m) E d) → (claimA sh u (c :: cs))[j']? = some (.row (some m) E' d') → j = j')
    have hbare : claimA sh u (c :: cs) = c.bare :: claimA sh u cs → _ := fun he => mk c.bare u he ⟨fun v hv => bare_C hv, fun d o e => (bare_no c).1 d o e, fun f a b e => (bare_no c).2.1 f a b e⟩ (fun m E l e => ((bare_no c).2.2 m E l e).elim) (fun _ h => h)
    cases c with
    | row t E l =>
      cases t with
      | none => exact hbare rfl
      | some n =>
        cases hc : u.contains n || (!(Nat.blt n 1024) && sh.getD (n / 1024 - 1) false)
        · refine mk (.row (some n) E l) (n :: u) (by simp only [claimA, hc, cond_false]) ⟨fun v h => h, fun _ _ e => (by cases e), fun _ _ _ e => (by cases e)⟩ (fun m E' l' e => ?_) (fun m h => by simp [h])
          cases e
          rw [Bool.or_eq_false_iff] at hc
          refine ⟨⟨by simpa using hc.1, ?_⟩, by simp⟩
          cases hb : Nat.blt n 1024
          · rw [hb] at hc
            exact .inr (by simpa using hc.2)
          · exact .inl (Nat.le_of_ble_eq_true hb)
        · exact mk (.row none E l) u (by simp only [claimA, hc, cond_true]) ⟨fun v h => ⟨h.1, fun m hm => (by cases hm)⟩, fun _ _ e => (by cases e), fun _ _ _ e => (by cases e)⟩ (fun _ _ _ e => (by cases e)) (fun _ h => h)
    | _ => exact hbare rfl
theorem claimL_spec : ∀ (l : List AV) (u : List Nat), (claimL u l).length = l.length ∧
    (∀ (j : Nat) x, (claimL u l)[j]? = some x → ∃ y, l[j]? = some y ∧ (∀ v, RepS P g w y v → RepT P g w x v) ∧ Shape x) ∧
    (∀ (j m : Nat) E d, (claimL u l)[j]? = some (.row (some m) E d) → m ∉ u ∧ m < 1024) ∧
    ∀ (j j' m : Nat) E d E' d', (claimL u l)[j]? = some (.row (some m) E d) → (claimL u l)[j']? = some (.row (some m) E' d') → j = j'
  | [], u => ⟨rfl, fun j x h => by simp [claimL] at h, fun j m E d h => by simp [claimL] at h, fun j j' m E d E' d' h => by simp [claimL] at h⟩
  | x :: l, u => by
    obtain ⟨c1, c2, c3, c4⟩ := claim_spec (P := P) (g := g) (w := w) u x
    obtain ⟨i1, i2, i3, i4⟩ := claimL_spec l (claim u x).1
    unfold claimL
    refine ⟨by simp [i1], fun j y h => ?_, fun j m E d h => ?_, fun j j' m E d E' d' h h' => ?_⟩
    · cases j with
      | zero => simp at h; subst h; exact ⟨x, rfl, c1, c2⟩
      | succ j => exact i2 j y (by simpa using h)
    · cases j with
      | zero => simp at h; exact ⟨(c3 m E d h).1, (c3 m E d h).2.1⟩
      | succ j =>
        have := i3 j m E d (by simpa using h)
        exact ⟨fun hm => this.1 (c4 m hm), this.2⟩
    · cases j with
      | zero =>
        simp at h
        cases j' with
        | zero => rfl
        | succ j' =>
          have := (i3 j' m E' d' (by simpa using h')).1
          rw [(c3 m E d h).2.2] at this
          simp at this
      | succ j =>
        cases j' with
        | zero =>
          simp at h'
          have := (i3 j m E d (by simpa using h)).1
          rw [(c3 m E' d' h').2.2] at this
          simp at this
        | succ j' => rw [i4 j j' m E d E' d' (by simpa using h) (by simpa using h')]
theorem claimB_spec : ∀ (bx b : Bx) (i : Nat), bx.length ≤ b.length → (claimB i bx b).length = bx.length ∧ ∀ (j : Nat) cs, (claimB i bx b)[j]? = some (some cs) → ∃ cs0 cs1, bx[j]? = some (some cs0) ∧ b[j]? = some (some cs1) ∧ cs = giveL (i + j) (i + j) 0 cs1
  | [], b, i, h => ⟨by cases b <;> rfl, fun j cs hj => by cases b <;> simp [claimB] at hj⟩
  | x :: bx, [], i, h => by simp at h
  | x :: bx, y :: b, i, h => by
    obtain ⟨h1, h2⟩ := claimB_spec bx b (i + 1) (by simpa using h)
    have tl : ∀ (j : Nat) cs, (claimB (i + 1) bx b)[j]? = some (some cs) → ∃ cs0 cs1, (x :: bx)[j + 1]? = some (some cs0) ∧ (y :: b)[j + 1]? = some (some cs1) ∧ cs = giveL (i + (j + 1)) (i + (j + 1)) 0 cs1 := fun j cs hj => by
      obtain ⟨a1, a2, e1, e2, e3⟩ := h2 j cs hj
      exact ⟨a1, a2, by simpa using e1, by simpa using e2, by rw [e3, show i + 1 + j = i + (j + 1) by omega]⟩
    have mk : (claimB i (x :: bx) (y :: b) = none :: claimB (i + 1) bx b) → _ := fun e => (show (claimB i (x :: bx) (y :: b)).length = (x :: bx).length ∧ ∀ (j : Nat) cs, (claimB i (x :: bx) (y :: b))[j]? = some (some cs) → ∃ cs0 cs1, (x :: bx)[j]? = some (some cs0) ∧ (y :: b)[j]? = some (some cs1) ∧ cs = giveL (i + j) (i + j) 0 cs1 from by
      rw [e]
      refine ⟨by simp [h1], fun j cs hj => ?_⟩
      cases j with
      | zero => simp at hj
      | succ j => exact tl j cs (by simpa using hj))
    cases x with
    | none => exact mk (by cases y <;> rfl)
    | some cs0 =>
      cases y with
      | none => exact mk rfl
      | some cs1 =>
        show (some (giveL i i 0 cs1) :: claimB (i + 1) bx b).length = _ ∧ _
        refine ⟨by simp [h1], fun j cs hj => ?_⟩
        cases j with
        | zero =>
          have hj' : (some (some (giveL i i 0 cs1)) : Option (Option (List AV))) = some (some cs) := hj
          cases hj'
          exact ⟨cs0, cs1, rfl, rfl, rfl⟩
        | succ j => exact tl j cs (by simpa [claimB] using hj)
def resF (tm : Array Value) : ResultVar → Sem Value
  | .tmp t => pure (tm.getD t undef)
  | .cell c t => do loadVar t (← asAddr (tm.getD c undef))
theorem results_eq (fn : Func) (tm : Array Value) : results fn tm = (do
    let vs ← fn.results.mapM (resF tm)
    pure (if h : vs.size = 1 then vs[0] else .tuple vs)) := by
  unfold results
  congr 1
theorem resVal_sound (h : Inv P F g s a w) {r : ResultVar} {x : AV} (hx : resVal P s r = some x) : Runs P w (resF a.tmps r) (RepS P g w x) := by
  cases r with
  | tmp t => cases hx; exact runs_pure (h.get t)
  | cell c T =>
    obtain ⟨cs, hcs, hx⟩ := Option.bind_eq_some_iff.1 hx
    obtain ⟨β, off, hv, hc⟩ := cellsOf_sound h (h.get c) hcs
    unfold resF
    dsimp only
    rw [hv]
    exact (show Runs P w (asAddr (.pointer (some ⟨β, off, none⟩))) (· = ⟨β, off, none⟩) from ⟨_, by simp [asAddr], rfl⟩).bind fun A hA => by
      subst hA
      exact loadVar_sound hc hx
theorem resVals_sound (h : Inv P F g s a w) : ∀ (rs : List ResultVar) (l : List AV), resVals P s rs = some l → Runs P w (rs.mapM (resF a.tmps)) fun vs => vs.length = l.length ∧ ∀ (j : Nat) x, l[j]? = some x → ∃ v, vs[j]? = some v ∧ RepS P g w x v
  | [], l, hl => by
    cases hl
    rw [List.mapM_nil]
    exact runs_pure ⟨rfl, fun j x hj => by simp at hj⟩
  | r :: rs, l, hl => by
    obtain ⟨x, hx, hl'⟩ := Option.bind_eq_some_iff.1 hl
    obtain ⟨l', hl2, he⟩ := Option.bind_eq_some_iff.1 hl'
    cases he
    rw [List.mapM_cons]
    refine (resVal_sound h hx).bind fun v hv => ?_
    refine (resVals_sound h rs l' hl2).bind fun vs hvs => ?_
    refine runs_pure ⟨by simp [hvs.1], fun j y hj => ?_⟩
    cases j with
    | zero => simp at hj; subst hj; exact ⟨v, rfl, hv⟩
    | succ j => exact hvs.2 j y (by simpa using hj)
end
end Go.Proofs.YtckdgcpomkefpaaGreatDoor.En
end
section
set_option linter.unusedVariables false
set_option linter.unusedSimpArgs false
namespace Go.Proofs.YtckdgcpomkefpaaGreatDoor.En
open Go
section
variable {P : Program} {takes : FuncId → Option Nat} {call : CallF}
theorem give_rep0 {g : Gh} {w : World} {T : TypeId} {β d j : Nat} {c : AV} {u : Value} (h : RepB P g w T β j c u) : RepB P g w T β j (c.give d d j) u := by
  cases c with
  | row t E l =>
    cases t with
    | none => exact h
    | some m =>
      show RepC P g w (.row (bif m == sub d j then some (sub d j) else none) E l) u
      have h' : RepC P g w (.row (some m) E l) u := h
      cases hm : m == sub d j
      · exact ⟨h'.1, fun n hn => by cases hn⟩
      · exact ⟨h'.1, fun n hn => by
          cases hn
          have : m = sub d j := by simpa using hm
          rw [← this]
          exact h'.2 m rfl⟩
  | box e o =>
    obtain ⟨β', _, rfl⟩ := (show RepC P g w (.box e o) u from h)
    rfl
  | fn f xs cs =>
    obtain ⟨us, ws, rfl, _⟩ := (show RepC P g w (.fn f xs cs) u from h)
    rfl
  | v x => exact h
  | agg cs => exact h
  | tup cs => exact h
  | ro cs => exact h
  | self => exact h
  | dead => exact h
theorem giveL_len' (e d : Nat) : ∀ (cs : List AV) (j : Nat), (giveL e d j cs).length = cs.length
  | [], j => rfl
  | c :: cs, j => by simp [giveL, giveL_len' e d cs (j + 1)]
theorem give_tok {d j m : Nat} {c : AV} {E : TypeId} {l : List Dat} (h : c.give d d j = .row (some m) E l) : m = sub d j := by
  cases c with
  | row t E' l' =>
    cases t with
    | none => cases h
    | some k =>
      have h' : (AV.row (bif k == sub d j then some (sub d j) else none) E' l') = .row (some m) E l := h
      cases hk : k == sub d j <;> rw [hk] at h' <;> cases h'
      rfl
  | box e o => cases h
  | fn f xs cs => cases h
  | v x => cases h
  | agg cs => cases h
  | tup cs => cases h
  | ro cs => cases h
  | self => cases h
  | dead => cases h
def fxOf {P : Program} (g : Gh) (w : World) (bs : Bx) (np : Nat) (hm : Mem P g w bs) (hL : Laid g w) : Fx := ⟨w, g.G, TBof g, BBof g bs, g.bx, np, [], fun β hβ => ⟨hL.G β hβ, fun ⟨i, cs, hi, hb⟩ => by
  obtain ⟨β', us, T, h1, _, _, h2, _⟩ := hm.box i cs hi
  rw [hb] at h1
  cases h1
  exact h2 0 (hL.G β hβ 0)⟩, hL.P⟩
theorem entry_inv {g : Gh} {w : World} {fn : Func} {xs : List AV} {bs : Bx} {vs : Array Value} (hm : Mem P g w bs) (hL : Laid g w) (hl : bs.length = xs.length) (hv : vs.size = xs.length)
    (hr : ∀ (i : Nat) x, xs[i]? = some x → ∃ v, vs[i]? = some v ∧ RepS P g w x v) :
    Inv P (fxOf g w bs fn.params.size hm hL) g (entry fn xs bs) { tmps := vs ++ Array.replicate (fn.ntmps - vs.size) undef, defers := [] } w := by
  have hb : ∀ (d : Nat) cs, (bs ++ List.replicate (fn.ntmps - bs.length) none)[d]? = some (some cs) → bs[d]? = some (some cs) := fun d cs h => by
    rw [List.getElem?_append] at h
    split at h
    · exact h
    · rw [List.getElem?_replicate] at h
      split at h <;> cases h
  refine ⟨⟨hm.gsz, fun d cs h => hm.box d cs (hb d cs h), fun d d' β cs cs' h h' => hm.apart d d' β cs cs' (hb d cs h) (hb d' cs' h'), hm.own, hm.tkap, fun n v E β d cs h1 h2 h => hm.tkbx n v E β d cs h1 h2 (hb d cs h)⟩,
    by simp [entry, hl], by simp [entry, hv], fun i x hi => ?_, rfl, Fr.refl _ _, fun β j h => h, fun β j h _ => .inl h, fun n v E β h1 h2 => .inr ⟨n, v, E, h1, h2⟩, fun d cs β h1 h2 => .inr ⟨d, cs, hb d cs h1, h2⟩, fun i _ _ => rfl⟩
  have hi' : (xs ++ List.replicate (fn.ntmps - xs.length) AV.dead)[i]? = some x := hi
  rw [List.getElem?_append] at hi'
  split at hi'
  · rename_i hlt
    obtain ⟨v, h1, h2⟩ := hr i x hi'
    refine ⟨v, ?_, h2⟩
    show (vs ++ _)[i]? = _
    rw [Array.getElem?_append, if_pos (by omega)]
    exact h1
  · rename_i hlt
    rw [List.getElem?_replicate] at hi'
    split at hi'
    · rename_i hlt2
      cases hi'
      refine ⟨undef, ?_, trivial⟩
      show (vs ++ _)[i]? = _
      rw [Array.getElem?_append, if_neg (by omega), Array.getElem?_replicate, if_pos (by omega)]
    · cases hi'
theorem RepT.toS {g : Gh} {w : World} {x : AV} {v : Value} (h : RepT P g w x v) (hx : ∀ vs, x ≠ .tup vs) : RepS P g w x v := by
  rw [RepS.eq hx]; exact h
theorem keptB_get : ∀ (bs b : Bx) (i : Nat) (cs : List AV), keptB (bs.map Option.isSome) b = true → bs[i]? = some (some cs) → ∃ cs', b[i]? = some (some cs')
  | [], b, i, cs, _, hi => by simp at hi
  | none :: bs, [], i, cs, h, _ => by cases h
  | some c :: bs, [], i, cs, h, _ => by cases h
  | none :: bs, o :: r, 0, cs, h, hi => by simp at hi
  | some c :: bs, o :: r, 0, cs, h, hi => by
    simp only [List.map_cons, Option.isSome_some, keptB, Bool.and_eq_true] at h
    obtain ⟨cs', e⟩ := Option.isSome_iff_exists.1 h.1
    exact ⟨cs', by rw [e]; rfl⟩
  | none :: bs, o :: r, i + 1, cs, h, hi => keptB_get bs r i cs h (by simpa using hi)
  | some c :: bs, o :: r, i + 1, cs, h, hi => by
    simp only [List.map_cons, Option.isSome_some, keptB, Bool.and_eq_true] at h
    exact keptB_get bs r i cs h.2 (by simpa using hi)
def thaw (bs : Bx) (b : Bx) : Bx := b.mapIdx fun i o => match bs.getD i none with | some _ => o | none => none
theorem thaw_get {bs b : Bx} {i : Nat} {cs : List AV} (h : (thaw bs b)[i]? = some (some cs)) : b[i]? = some (some cs) ∧ ∃ c0, bs[i]? = some (some c0) := by
  unfold thaw at h
  rw [List.getElem?_mapIdx] at h
  obtain ⟨o, ho, h⟩ := Option.map_eq_some_iff.1 h
  split at h
  · rename_i c0 hc
    subst h
    refine ⟨ho, c0, ?_⟩
    rw [List.getD_eq_getElem?_getD] at hc
    cases hq : bs[i]? with
    | none => rw [hq] at hc; cases hc
    | some q => rw [hq] at hc; exact congrArg some hc
  · cases h
theorem thaw_of {bs b : Bx} {i : Nat} {c0 : List AV} (hi : bs[i]? = some (some c0)) : (thaw bs b)[i]? = b[i]? := by
  unfold thaw
  rw [List.getElem?_mapIdx]
  have : bs.getD i none = some c0 := by rw [List.getD_eq_getElem?_getD, hi]; rfl
  rw [this]
  cases b[i]? <;> rfl
theorem frz_rep {g1 g2 : Gh} {w : World} {T : TypeId} {β j : Nat} {c : AV} {u : Value} (hG : ∀ β j, g1.G β j → g2.G β j) (h : RepB P g1 w T β j c u) : Rep0 P g2 w c.frz u := by
  cases c with
  | v x => exact h
  | row t E l => exact ⟨rfl, (show RepC P g1 w (.row t E l) u from h).1.mono fun β j hj => ⟨hG β j hj, rfl⟩⟩
  | self T' => rcases h.2 with e | e <;> rw [e] <;> rfl
  | dead => exact h
  | agg cs => exact h.elim
  | tup cs => exact h.elim
  | box e o => exact RepC.one (P := P) (g := g1) (w := w) (x := .box e o) h
  | ro cs => exact RepC.one (P := P) (g := g1) (w := w) (x := .ro cs) h
  | fn f xs cs => exact RepC.one (P := P) (g := g1) (w := w) (x := .fn f xs cs) h
theorem freeze {g g' : Gh} {w w' : World} {np : Nat} {bs : Bx} {s' : St} {a' : Act} (hm : Mem P g w bs) (hL : Laid g w) (hI : Inv P (fxOf g w bs np hm hL) g' s' a' w') (hl : bs.length = np) (hbx : ∀ (i : Nat) cs, bs[i]? = some (some cs) → g'.bx i = g.bx i) :
    ∃ g2 b2, Inv P (fxOf g w bs np hm hL) g2 ⟨s'.t, b2⟩ a' w' ∧ g2.bx = g'.bx ∧ b2.length = s'.b.length ∧ (∀ (i : Nat) c0, bs[i]? = some (some c0) → b2[i]? = s'.b[i]?) ∧ ∀ x v, RepS P g' w' x v → RepS P g2 w' (frzX (bs.map Option.isSome) s' x) v := by
  cases hk : keptB (bs.map Option.isSome) s'.b
  · refine ⟨g', s'.b, hI, rfl, rfl, fun _ _ _ => rfl, fun x v hx => ?_⟩
    have : frzX (bs.map Option.isSome) s' x = x := by
      unfold frzX
      split
      · split
        · rw [hk, Bool.and_false]; rfl
        · rfl
      · rfl
    rw [this]; exact hx
  have hne : ∀ d cs β i c0, s'.b[d]? = some (some cs) → bs.getD d none = none → g'.bx d = some β → bs[i]? = some (some c0) → g'.bx i = some β → False := fun d cs β i c0 h1 h2 h3 h4 h5 => by
    obtain ⟨cs', h6⟩ := keptB_get bs s'.b i c0 hk h4
    have := hI.mem.apart d i β cs cs' h1 h6 h3 h5
    subst this
    rw [List.getD_eq_getElem?_getD, h4] at h2
    cases h2
  obtain ⟨g2, hg2⟩ : ∃ g2 : Gh, g2 = ⟨fun β j => g'.G β j ∨ ∃ d cs, s'.b[d]? = some (some cs) ∧ bs.getD d none = none ∧ g'.bx d = some β, g'.tk, g'.bx⟩ := ⟨_, rfl⟩
  have hG : ∀ β j, g2.G β j ↔ (g'.G β j ∨ ∃ d cs, s'.b[d]? = some (some cs) ∧ bs.getD d none = none ∧ g'.bx d = some β) := fun β j => by rw [hg2]
  have htk : g2.tk = g'.tk := by rw [hg2]
  have hbx2 : g2.bx = g'.bx := by rw [hg2]
  have hle : g'.Le g2 w' w' := ⟨fun β j hj => ⟨(hG β j).2 (.inl hj), rfl⟩, fun n v hn => by rw [htk]; exact hn, fun d β hd => by rw [hbx2]; exact hd⟩
  refine ⟨g2, thaw bs s'.b, ⟨⟨fun β j hj => ?_, fun d cs hd => ?_, fun d d' β cs cs' hd hd' hβ hβ' => ?_, fun n v E hn => ?_, fun n m v v' E E' β hn hm => ?_, fun n v E β d cs hn hv hd hβ => ?_⟩, ?_, hI.len, fun i x hi => ?_, hI.dfr, hI.fr, fun β j hj => (hG β j).2 (.inl (hI.g0 β j hj)), fun β j hj hlt => ?_, fun n v E β hn => ?_, fun d cs β hd hβ => ?_, fun i hi hn => ?_⟩, hbx2, by simp [thaw], fun i c0 hi => thaw_of hi, fun x v hx => ?_⟩
  · rcases (hG β j).1 hj with hj | ⟨d, cs, h1, _, h3⟩
    · exact hI.mem.gsz β j hj
    · obtain ⟨β', us, T, e1, e2, _⟩ := hI.mem.box d cs h1
      rw [h3] at e1
      cases e1
      exact (Array.getElem?_eq_some_iff.1 e2).1
  · obtain ⟨h1, c0, h2⟩ := thaw_get hd
    obtain ⟨β, us, T, e1, e2, e3, e4, e5⟩ := hI.mem.box d cs h1
    refine ⟨β, us, T, by rw [hbx2]; exact e1, e2, e3, fun j hj => ?_, fun j c hc => let ⟨u, hu, hr⟩ := e5 j c hc; ⟨u, hu, hr.mono hle⟩⟩
    rcases (hG β j).1 hj with hj | ⟨d', cs', q1, q2, q3⟩
    · exact e4 j hj
    · exact hne d' cs' β d c0 q1 q2 q3 h2 e1
  · rw [hbx2] at hβ hβ'
    exact hI.mem.apart d d' β cs cs' (thaw_get hd).1 (thaw_get hd').1 hβ hβ'
  · rw [htk] at hn
    refine (hI.mem.own n v E hn).keep fun β hβ => ⟨rfl, fun j hj => ?_⟩
    rcases (hG β j).1 hj with hj | ⟨d, cs, q1, q2, q3⟩
    · exact hj
    · exact (hI.mem.tkbx n v E β d cs hn hβ q1 q3).elim
  · rw [htk] at hn hm
    exact hI.mem.tkap n m v v' E E' β hn hm
  · rw [htk] at hn
    rw [hbx2] at hβ
    exact hI.mem.tkbx n v E β d cs hn hv (thaw_get hd).1 hβ
  · show (thaw bs s'.b).length = s'.t.length
    rw [← hI.blen]
    simp [thaw]
  · obtain ⟨v, h1, h2⟩ := hI.tm i x hi
    exact ⟨v, h1, h2.mono hle⟩
  · rcases (hG β j).1 hj with hj | ⟨d, cs, q1, q2, q3⟩
    · exact hI.gfr β j hj hlt
    · rcases hI.bb d cs β q1 q3 with e | ⟨i, c0, e1, e2⟩
      · omega
      · exact (hne d cs β i c0 q1 q2 q3 e1 (by rw [hbx i c0 e1]; exact e2)).elim
  · rw [htk] at hn
    exact hI.tb n v E β hn
  · rw [hbx2] at hβ
    exact hI.bb d cs β (thaw_get hd).1 hβ
  · rw [hbx2]
    exact hI.pbx i hi hn
  · unfold frzX
    split
    · rename_i d off
      split
      · rename_i cs hcs
        cases hsh : (bs.map Option.isSome).getD d false <;> simp only [Bool.not_true, Bool.not_false, Bool.false_and, Bool.true_and, cond_false]
        case true => exact hx.mono hle
        have hnn : bs.getD d none = none := by
          rw [List.getD_eq_getElem?_getD, List.getElem?_map] at hsh
          rw [List.getD_eq_getElem?_getD]
          cases hq : bs[d]? with
          | none => rfl
          | some o =>
            rw [hq] at hsh
            cases o with
            | none => rfl
            | some c => cases hsh
        rw [hk]
        obtain ⟨β, hβ, hv⟩ := (show RepC P g' w' (.box d off) v from hx)
        have hb := boxAt_eq hcs
        obtain ⟨β', us, T, e1, e2, e3, e4, e5⟩ := hI.mem.box d cs hb
        rw [hβ] at e1
        cases e1
        refine (show RepC P g2 w' (.ro ((cs.drop off).map AV.frz)) v from ⟨β, off, hv, fun j c hj => ?_⟩)
        rw [List.getElem?_map, List.getElem?_drop] at hj
        obtain ⟨c0, hc0, rfl⟩ := Option.map_eq_some_iff.1 hj
        obtain ⟨u, hu, hr⟩ := e5 (off + j) c0 hc0
        refine ⟨u, ?_, (hG _ _).2 (.inr ⟨d, cs, hb, hnn, hβ⟩), frz_rep (fun β j hj => (hG β j).2 (.inl hj)) hr⟩
        simp [World.cell?, e2, hu]
      · exact hx.mono hle
    · exact hx.mono hle
theorem outOf_sound {g g' : Gh} {w w' : World} {fn : Func} {bs : Bx} {s' : St} {a' : Act} {out : Out} (hm : Mem P g w bs) (hL : Laid g w) (hI : Inv P (fxOf g w bs fn.params.size hm hL) g' s' a' w') (hl : bs.length = fn.params.size) (h : outOf P fn bs s' = some out) :
    ∃ x v bs' g', out = .ret v bs' ∧ (results fn a'.tmps).run P w' = .ok x w' ∧ CallPost P g w bs v bs' x g' w' := by
  unfold outOf at h
  obtain ⟨l, hl2, h⟩ := Option.bind_eq_some_iff.1 h
  obtain ⟨hle, h⟩ := bif_some h
  cases h
  have hle' := Nat.le_of_ble_eq_true hle
  obtain ⟨vs, hrun, hlen, hvs⟩ := resVals_sound hI _ _ hl2
  obtain ⟨b1, b2⟩ := claimB_spec bs s'.b 0 hle'
  have hbox : ∀ (i : Nat) cs, bs[i]? = some (some cs) → g'.bx i = g.bx i := fun i cs hi => by
    obtain ⟨β, us, T, e1, _⟩ := hm.box i cs hi
    have hlt := (List.getElem?_eq_some_iff.1 hi).1
    exact hI.pbx i (by show i < fn.params.size; omega) (by show g.bx i ≠ none; rw [e1]; simp)
  obtain ⟨g2, fb, hI, hbx2, hfl, hfb, hfz⟩ := freeze hm hL hI hl hbox
  replace hbox : ∀ (i : Nat) cs, bs[i]? = some (some cs) → g2.bx i = g.bx i := fun i cs hi => by rw [hbx2]; exact hbox i cs hi
  replace hvs : ∀ (j : Nat) x, (l.map (frzX (bs.map Option.isSome) s'))[j]? = some x → ∃ v, vs[j]? = some v ∧ RepS P g2 w' x v := fun j x hj => by
    rw [List.getElem?_map] at hj
    obtain ⟨x0, hx0, rfl⟩ := Option.map_eq_some_iff.1 hj
    obtain ⟨v, e1, e2⟩ := hvs j x0 hx0
    exact ⟨v, e1, hfz x0 v e2⟩
  replace hlen : vs.length = (l.map (frzX (bs.map Option.isSome) s')).length := by rw [hlen]; simp
  clear hfz hbx2
  generalize l.map (frzX (bs.map Option.isSome) s') = l at hvs hlen ⊢
  generalize g2 = g' at hI hbox hvs ⊢
  obtain ⟨c1, c2, c3, c4⟩ := claimL_spec (P := P) (g := g') (w := w') l []
  have hT : ∀ (j : Nat) x, (claimL [] l)[j]? = some x → ∃ v, vs[j]? = some v ∧ RepT P g' w' x v ∧ Shape x := fun j x hj => by
    obtain ⟨y, h1, h2, h3⟩ := c2 j x hj
    obtain ⟨v, e1, e2⟩ := hvs j y h1
    exact ⟨v, e1, h2 v e2, h3⟩
  have hres : (results fn a'.tmps).run P w' = .ok (if h : vs.toArray.size = 1 then vs.toArray[0] else .tuple vs.toArray) w' := by
    rw [results_eq, Array.mapM_eq_mapM_toList]
    have hr2 : (List.toArray <$> (fn.results.toList.mapM (resF a'.tmps)) : Sem (Array Value)).run P w' = .ok vs.toArray w' := by
      rw [← bind_pure_comp, Sem.run_bind, hrun]
      simp
    rw [Sem.run_bind, hr2]
    simp
  have hv : RepS P g' w' (claimR (bs.map Option.isSome) l) (if h : vs.toArray.size = 1 then vs.toArray[0] else .tuple vs.toArray) ∧ OutV (claimR (bs.map Option.isSome) l) ∧ tokLt bs (claimR (bs.map Option.isSome) l) := by
    by_cases hA : ∃ cs, l = [.agg cs]
    · obtain ⟨cs, rfl⟩ := hA
      obtain ⟨v, e1, e2⟩ := hvs 0 (.agg cs) rfl
      have hvs1 : vs = [v] := by
        match vs, hlen, e1 with
        | [y], _, e1 => simp at e1; rw [e1]
      subst hvs1
      obtain ⟨us, r1, r2, r3⟩ := (show RepT P g' w' (.agg cs) v from e2)
      obtain ⟨a1, a2, a3, a4⟩ := claimA_spec (P := P) (g := g') (w := w') (bs.map Option.isSome) cs []
      refine ⟨(show RepT P g' w' (.agg (claimA (bs.map Option.isSome) [] cs)) v from ⟨us, r1, by rw [a1]; exact r2, fun j c hj => ?_⟩), ⟨fun j d o hj => ?_, fun j f a b hj => ?_, a4⟩, fun j m E l hj => ?_⟩
      · obtain ⟨y, q1, q2, _⟩ := a2 j c hj
        obtain ⟨u, hu, hr⟩ := r3 j y q1
        exact ⟨u, hu, q2 u hr⟩
      · obtain ⟨_, _, _, q, _⟩ := a2 j _ hj
        exact q d o rfl
      · obtain ⟨_, _, _, _, q⟩ := a2 j _ hj
        exact q f a b rfl
      · rcases (a3 j m E l hj).2 with e | e
        · exact .inl e
        · refine .inr fun c hc => ?_
          have : (bs.map Option.isSome).getD (m / 1024 - 1) false = true := by rw [List.getD_eq_getElem?_getD, List.getElem?_map, hc]; rfl
          rw [e] at this
          cases this
    · have hR : claimR (bs.map Option.isSome) l = (match claimL [] l with | [x] => x | l => .tup l) := by
        unfold claimR
        split
        · exact absurd ⟨_, rfl⟩ hA
        · rfl
      rw [hR]
      have hcl : (claimL [] l).length = vs.length := by rw [c1, hlen]
      generalize hL : claimL [] l = L at hT c3 c4 hcl
      have many : L.length ≠ 1 → RepS P g' w' (.tup L) (if h : vs.toArray.size = 1 then vs.toArray[0] else .tuple vs.toArray) ∧ OutV (.tup L) ∧ tokLt bs (.tup L) := fun hne => by
        rw [dif_neg (by simpa using (show ¬ vs.length = 1 by omega))]
        refine ⟨⟨vs.toArray, rfl, by simp [hcl], fun j x hj => ?_⟩, ⟨fun j d o hj => ?_, fun j f a b hj => ?_, fun j cs hj i c hi => ?_, fun j j' m E d E' d' h1 h2 => c4 j j' m E d E' d' h1 h2⟩, fun j m E d hj => (c3 j m E d hj).2⟩
        · obtain ⟨v, e1, e2, _⟩ := hT j x hj
          exact ⟨v, by simpa using e1, e2⟩
        · exact ((hT j _ hj).elim fun v hv => hv.2.2.box d o rfl)
        · exact ((hT j _ hj).elim fun v hv => hv.2.2.fn f a b rfl)
        · exact ((hT j _ hj).elim fun v hv => hv.2.2.agg cs rfl i c hi)
      match L, hT, c3, c4, hcl, many with
      | [], hT, c3, c4, hcl, many => exact many (by simp)
      | [x], hT, c3, c4, hcl, many =>
        obtain ⟨v, e1, e2, e3⟩ := hT 0 x rfl
        have hvs1 : vs = [v] := by
          match vs, hcl, e1 with
          | [y], _, e1 => simp at e1; rw [e1]
        subst hvs1
        refine ⟨e2.toS e3.tup, ?_, ?_⟩
        · cases x with
          | box d o => exact absurd rfl (e3.box d o)
          | fn f a b => exact absurd rfl (e3.fn f a b)
          | tup vs => exact absurd rfl (e3.tup vs)
          | agg cs => exact ⟨fun j d o hj => (by have := e3.agg cs rfl j _ hj; cases this), fun j f a b hj => (by have := e3.agg cs rfl j _ hj; cases this), fun j j' m E l E' l' h1 _ => (by have := e3.agg cs rfl j _ h1; cases this)⟩
          | v y => exact trivial
          | row t E l => exact trivial
          | ro cs => exact trivial
          | self => exact trivial
          | dead => exact trivial
        · cases x with
          | tup vs => exact absurd rfl (e3.tup vs)
          | row t E l =>
            cases t with
            | none => exact trivial
            | some m => exact (c3 0 m E l rfl).2
          | box d o => exact trivial
          | fn f a b => exact trivial
          | agg cs => exact fun j m E l hj => (by have := e3.agg cs rfl j _ hj; cases this)
          | v y => exact trivial
          | ro cs => exact trivial
          | self => exact trivial
          | dead => exact trivial
      | x :: y :: L, hT, c3, c4, hcl, many => exact many (by simp)
  refine ⟨_, _, _, g', rfl, hres, ⟨?_, b1, fun i cs' hi => ?_, hv.1, hI.fr, hI.g0, hI.gfr, hI.tb, hbox, fun i j m cs E d hi hj => ?_, hv.2.1, hv.2.2⟩⟩
  · refine hI.mem.wk (g' := g') rfl (fun d cs' hd => ?_) id (fun _ _ h => h) (fun _ _ _ _ e => e)
    obtain ⟨cs0, cs1, e1, e2, e3⟩ := b2 d cs' hd
    rw [Nat.zero_add] at e3
    subst e3
    refine ⟨cs1, (hfb d cs0 e1).trans e2, giveL_len' _ _ _ _, rfl, fun j c' hj => ?_⟩
    rw [giveL_get, Nat.zero_add] at hj
    obtain ⟨c, hc, rfl⟩ := Option.map_eq_some_iff.1 hj
    exact ⟨c, hc, fun T β u hu => give_rep0 hu⟩
  · obtain ⟨cs0, cs1, e1, _⟩ := b2 i cs' hi
    exact ⟨cs0, e1⟩
  · obtain ⟨cs0, cs1, e1, e2, e3⟩ := b2 i cs hi
    rw [Nat.zero_add] at e3
    subst e3
    rw [giveL_get, Nat.zero_add] at hj
    obtain ⟨c, hc, he⟩ := Option.map_eq_some_iff.1 hj
    exact give_tok he
def PostOf (P : Program) (g : Gh) (w : World) (bs : Bx) (out : Out) (e : Ending) (w' : World) : Prop := match out with
  | .ret v bs' => ∃ x g', e = .returned x ∧ CallPost P g w bs v bs' x g' w'
  | .thr x => e = .panicked [{ v := x, recovered := false }] ∧ Fr (TTof g bs) w w'
theorem evBody_sound (hmix : P.follows .mixedOrders = true) (hcall : SoundCall P call) {n : Nat} {f : FuncId} {fn : Func} (hf : P.funcs[f]? = some fn) (hok : okFn P fn = true) {xs : List AV} {bs : Bx} {out : Out} (h : evBody P takes call n fn xs bs = some out)
    {g : Gh} {w : World} {vs : Array Value} (hm : Mem P g w bs) (hL : Laid g w) (hl : bs.length = xs.length) (hv : vs.size = xs.length) (hr : ∀ (i : Nat) x, xs[i]? = some x → ∃ v, vs[i]? = some v ∧ RepS P g w x v) :
    Calls P f vs w (PostOf P g w bs out) := by
  unfold okFn at hok
  rw [Bool.and_eq_true] at hok
  unfold evBody at h
  split at h
  · rename_i c hc
    obtain ⟨hchk, h⟩ := bif_some h
    simp only [Bool.and_eq_true] at hchk
    have hbl : bs.length = fn.params.size := Nat.eq_of_beq_eq_true hchk.1.2
    have hokc : okCode P c = true := by
      have := hok.2
      rw [hc] at this
      exact this
    have ret : ∀ g' s' a' w', outOf P fn bs s' = some out → Inv P (fxOf g w bs fn.params.size hm hL) g' s' a' w' → a'.defers = [] ∧ ∃ v, (results fn a'.tmps).run P w' = .ok v w' ∧ PostOf P g w bs out (.returned v) w' := fun g' s' a' w' e hI' => by
      obtain ⟨x, v, bs', g2, rfl, hrun, post⟩ := outOf_sound hm hL hI' hbl e
      exact ⟨hI'.dfr, x, hrun, x, g2, rfl, post⟩
    refine calls_of_wp hf hc (evC_sound (F := fxOf g w bs fn.params.size hm hL) hmix hcall (takes := takes) _ c _ _ hokc _ _ out g _ w _ h (entry_inv hm hL hl hv hr) (fun x g' s' a' w' e hI' => ?_) (fun v a' w' e hd hf => ?_))
    · cases x with
      | normal => exact ret g' s' a' w' e hI'
      | ret => exact ret g' s' a' w' e hI'
      | exit id => cases e
    · cases e
      exact ⟨hd, rfl, hf⟩
  · cases h
end
end Go.Proofs.YtckdgcpomkefpaaGreatDoor.En
end
section
set_option linter.unusedVariables false
set_option linter.unusedSimpArgs false
namespace Go.Proofs.YtckdgcpomkefpaaGreatDoor.En
open Go
def lkD {α : Type} (d : α) : List (Nat × α) → Nat → α
  | [], _ => d
  | (j, x) :: r, i => bif Nat.beq i j then x else lkD d r i
def upto : Nat → List Nat → List Nat
  | 0, l => l
  | n + 1, l => upto n (n :: l)
def sp (n : Nat) (t : List (Nat × AV)) (b : List (Nat × List AV)) : St := ⟨(upto n []).map (lkD .dead t), (upto n []).map (lkD none (b.map fun p => (p.1, some p.2)))⟩
section
variable (P : Program) (np : Nat) (takes : FuncId → Option Nat) (call : CallF) (ret n : Nat)
def atL {β : Type} (thr : Value → Option β) : List Bool → Code → Nat → List (Nat × Nat) → KC β → (Code × Nat × List (Nat × Nat) × KC β)
  | p, .seq a b, out, ex, k => (match p with
    | false :: p => atL thr p a (liveC ret b out ex) ex (fun x s => match x with
      | .normal => evC P np takes call ret n thr b out ex (bif joins a then s.prune np (liveC ret b out ex) else s) k
      | .exit id => k (.exit id) s
      | .ret => k .ret s)
    | _ :: p => atL thr p b out ex k
    | [] => (.skip, out, ex, k))
  | p, .cond c a b, out, ex, k => (match p with
    | false :: p => atL thr p a out ex k
    | _ :: p => atL thr p b out ex k
    | [] => (.skip, out, ex, k))
  | p, .block id c, out, ex, k => atL thr p c out ((id, out) :: ex) (fun x s => match x with
    | .exit j => k (bif j == id then .normal else .exit j) s
    | .normal => k .normal s
    | .ret => k .ret s)
  | p, .loop c, out, ex, k => (match p with
    | [] => (c, out, ex, k)
    | _ :: p => (c, out, ex, k))
  | _, c, out, ex, k => (.skip, out, ex, k)
def loopGo {β : Type} (thr : Value → Option β) (q : Code × Nat × List (Nat × Nat) × KC β) (m : Nat) (s : St) : Option β :=
  iter (fun s k => evC P np takes call ret n thr q.1 (liveC ret (.loop q.1) q.2.1 q.2.2.1) q.2.2.1 s (fun x s => match x with
    | .normal => k .normal (s.prune np (liveC ret (.loop q.1) q.2.1 q.2.2.1))
    | .exit id => k (.exit id) s
    | .ret => k .ret s)) m s q.2.2.2
end
def loopF (P : Program) (takes : FuncId → Option Nat) (call : CallF) (n : Nat) (f : FuncId) (bx : Bx) (p : List Bool) (m : Nat) (s : St) : Option Out := match P.funcs[f]? with
  | some fn => (match fn.body with
    | some c => loopGo P fn.params.size takes call (retMask fn.results.toList) n (fun v => some (.thr v)) (atL P fn.params.size takes call (retMask fn.results.toList) n (fun v => some (.thr v)) p c (retMask fn.results.toList) [] (fun x s => match x with
        | .normal => outOf P fn bx s
        | .ret => outOf P fn bx s
        | .exit _ => none)) m s
    | none => none)
  | none => none
def loopF2 (P : Program) (takes : FuncId → Option Nat) (call : CallF) (n : Nat) (f : FuncId) (bx : Bx) (p1 : List Bool) (m1 : Nat) (p2 : List Bool) (m : Nat) (s : St) : Option Out := match P.funcs[f]? with
  | some fn => (match fn.body with
    | some c =>
      let thr : Value → Option Out := fun v => some (.thr v)
      let q1 := atL P fn.params.size takes call (retMask fn.results.toList) n thr p1 c (retMask fn.results.toList) [] (fun x s => match x with
        | .normal => outOf P fn bx s
        | .ret => outOf P fn bx s
        | .exit _ => none)
      loopGo P fn.params.size takes call (retMask fn.results.toList) n thr (atL P fn.params.size takes call (retMask fn.results.toList) n thr p2 q1.1 (liveC (retMask fn.results.toList) (.loop q1.1) q1.2.1 q1.2.2.1) q1.2.2.1 (fun x s => match x with
        | .normal => loopGo P fn.params.size takes call (retMask fn.results.toList) n thr q1 m1 (s.prune fn.params.size (liveC (retMask fn.results.toList) (.loop q1.1) q1.2.1 q1.2.2.1))
        | .exit id => q1.2.2.2 (.exit id) s
        | .ret => q1.2.2.2 .ret s)) m s
    | none => none)
  | none => none
def evFn (P : Program) (takes : FuncId → Option Nat) (call : CallF) (n : Nat) (f : FuncId) (xs : List AV) (bx : Bx) : Option Out := match P.funcs[f]? with
  | some fn => evBody P takes call n fn xs bx
  | none => none
end Go.Proofs.YtckdgcpomkefpaaGreatDoor.En
end
section
set_option linter.unusedVariables false
set_option linter.unusedSimpArgs false
namespace Go.Proofs.YtckdgcpomkefpaaGreatDoor.En
open Go
def addF (f : FuncId) (ent : List AV → Bx → Option (Bool × Out)) (ext : CallF) : CallF := fun g xs bs => bif Nat.beq g f then ent xs bs else ext g xs bs
section
variable {P : Program} {takes : FuncId → Option Nat} {ext call : CallF}
theorem SoundCall.le (h : SoundCall P call) (hle : ∀ f xs bs out, ext f xs bs = some (true, out) → call f xs bs = some (true, out)) : SoundCall P ext := fun f xs bs out ho => h f xs bs out (hle f xs bs out ho)
theorem sound_fn (hmix : P.follows .mixedOrders = true) (hext : SoundCall P ext) {f : FuncId} {fn : Func} (hf : P.funcs[f]? = some fn) (hok : okFn P fn = true) {n : Nat} {xs : List AV} {bs : Bx} {out : Out} (h : evFn P takes ext n f xs bs = some out) :
    (∃ fn, P.funcs[f]? = some fn ∧ fn.body.isSome = true ∧ (fn.name == "runtime.NumGoroutine") = false) ∧ ∀ (g : Gh) (w : World) (vs : Array Value), Mem P g w bs → Laid g w → bs.length = xs.length → vs.size = xs.length →
  (∀ (i : Nat) x, xs[i]? = some x → ∃ v, vs[i]? = some v ∧ RepS P g w x v) → Calls P f vs w (PostOf P g w bs out) := by
  unfold evFn at h
  rw [hf] at h
  refine ⟨⟨fn, hf, ?_, ?_⟩, fun g w vs hm hL hl hv hr => evBody_sound hmix hext hf hok h hm hL hl hv hr⟩
  · unfold okFn at hok
    cases hb : fn.body with
    | none => rw [hb] at hok; simp at hok
    | some c => rfl
  · unfold okFn at hok
    simp only [Bool.and_eq_true, Bool.not_eq_true'] at hok
    exact hok.1
theorem sound_add (hmix : P.follows .mixedOrders = true) (hext : SoundCall P ext) (f : FuncId) {fn : Func} (hf : P.funcs[f]? = some fn) (hok : okFn P fn = true) (ent : List AV → Bx → Option (Bool × Out))
    (h : ∀ xs bs out, ent xs bs = some (true, out) → ∃ n, evFn P takes ext n f xs bs = some out) : SoundCall P (addF f ent ext) := fun g xs bs out ho => by
  unfold addF at ho
  cases hg : Nat.beq g f <;> rw [hg] at ho <;> simp only [cond_true, cond_false] at ho
  · exact hext g xs bs out ho
  · have e : g = f := Nat.eq_of_beq_eq_true hg
    subst e
    obtain ⟨n, hn⟩ := h xs bs out ho
    obtain ⟨h1, h2⟩ := sound_fn hmix hext hf hok hn
    refine ⟨h1, fun gh w vs a1 aL a2 a3 a4 => ?_⟩
    have := h2 gh w vs a1 aL a2 a3 a4
    cases out <;> exact this
theorem sound_rec (hmix : P.follows .mixedOrders = true) (hext : SoundCall P ext) (f : FuncId) {fn : Func} (hf : P.funcs[f]? = some fn) (hok : okFn P fn = true) (ent : Nat → List AV → Bx → Option (Bool × Out)) (h0 : ∀ xs bs out, ent 0 xs bs ≠ some (true, out))
    (h : ∀ k xs bs out, ent (k + 1) xs bs = some (true, out) → ∃ n, evFn P takes (addF f (ent k) ext) n f xs bs = some out) : ∀ k, SoundCall P (addF f (ent k) ext)
  | 0 => fun g xs bs out ho => by
    unfold addF at ho
    cases hg : Nat.beq g f <;> rw [hg] at ho <;> simp only [cond_true, cond_false] at ho
    · exact hext g xs bs out ho
    · exact absurd ho (h0 _ _ _)
  | k + 1 => fun g xs bs out ho => by
    unfold addF at ho
    cases hg : Nat.beq g f <;> rw [hg] at ho <;> simp only [cond_true, cond_false] at ho
    · exact hext g xs bs out ho
    · have e : g = f := Nat.eq_of_beq_eq_true hg
      subst e
      obtain ⟨n, hn⟩ := h k xs bs out ho
      obtain ⟨h1, h2⟩ := sound_fn hmix (sound_rec hmix hext g hf hok ent h0 h k) hf hok hn
      refine ⟨h1, fun gh w vs a1 aL a2 a3 a4 => ?_⟩
      have := h2 gh w vs a1 aL a2 a3 a4
      cases out <;> exact this
theorem sound_none : SoundCall P (fun _ _ _ => none) := fun f xs bs out h => by cases h
end
end Go.Proofs.YtckdgcpomkefpaaGreatDoor.En
end
section
set_option linter.unusedVariables false
set_option linter.unusedSimpArgs false
set_option maxRecDepth 100000
namespace Go.Proofs.YtckdgcpomkefpaaGreatDoor.En
open Go
noncomputable abbrev PR := Tryz.prog
def TK : FuncId → Option Nat := fun _ => none
theorem idx_at {l : List Dat} {i : Nat} (h : i < l.length) : idx l (i : Int) = some l[i] := by
  unfold idx
  have e : decide ((0 : Int) ≤ i) = true := decide_eq_true (by omega)
  rw [e]
  simp [h]
noncomputable def keepL (call : CallF) (n m : Nat) (l1 l2 : List Dat) (i : Int) : Option Out := loopF PR TK call n 21 [none, none] [true, true, false, true] m (sp 26 [(0, .row none 3 l1), (1, .row none 3 l2), (5, I i)] [])
theorem keep_0 (call : CallF) (n : Nat) (l1 l2 : List Dat) : evFn PR TK call n 21 [.row none 3 l1, .row none 3 l2] [none, none] =
  bif ((l1.length : Int) != (l2.length : Int)) then some (Out.ret (B false) [none, none]) else keepL call n n l1 l2 0 := by kernel_rfl
theorem keep_S (call : CallF) (n m : Nat) (l1 l2 : List Dat) (i : Int) : keepL call n (m + 1) l1 l2 i =
  bif decide (i < l1.length) then (idx l1 i).bind fun d => (idx l2 i).bind fun e => bif ((d.at 0).toI != (e.at 0).toI) then some (Out.ret (B false) [none, none]) else keepL call n m l1 l2 (IntKind.i64.wrap (i + 1))
  else some (Out.ret (B true) [none, none]) := by kernel_rfl
def keepB : List Dat → List Dat → Bool
  | [], [] => true
  | d :: l, e :: m => ((d.at 0).toI == (e.at 0).toI) && keepB l m
  | _, _ => false
theorem keep_loop (call : CallF) (n : Nat) (l1 l2 : List Dat) (hl : l1.length = l2.length) (hf : l1.length < 4611686018427387904) : ∀ (k i m : Nat), i + k = l1.length → k < m → keepL call n m l1 l2 (i : Int) = some (.ret (B (keepB (l1.drop i) (l2.drop i))) [none, none])
  | k, i, 0, _, h => by omega
  | 0, i, m + 1, hi, _ => by
    rw [keep_S, show decide ((i : Int) < l1.length) = false from decide_eq_false (by omega)]
    rw [List.drop_eq_nil_of_le (by omega), List.drop_eq_nil_of_le (by omega)]
    rfl
  | k + 1, i, m + 1, hi, hm => by
    have h1 : i < l1.length := by omega
    have h2 : i < l2.length := by omega
    rw [keep_S, show decide ((i : Int) < l1.length) = true from decide_eq_true (by omega), idx_at h1, idx_at h2, IntWalk.i64_in _ (by omega)]
    simp only [cond_true, Option.bind_some]
    rw [List.drop_eq_getElem_cons h1, List.drop_eq_getElem_cons h2]
    have ih := keep_loop call n l1 l2 hl hf k (i + 1) m (by omega) (by omega)
    rw [show ((i + 1 : Nat) : Int) = (i : Int) + 1 by omega] at ih
    rw [ih]
    show _ = some (Out.ret (B (((l1[i].at 0).toI == (l2[i].at 0).toI) && keepB (l1.drop (i + 1)) (l2.drop (i + 1)))) [none, none])
    unfold bne
    cases ((l1[i].at 0).toI == (l2[i].at 0).toI) <;> rfl
def keepE : List AV → Bx → Option (Bool × Out)
  | [.row none 3 l1, .row none 3 l2], [none, none] => some (Nat.blt l1.length 4611686018427387904, .ret (B (Nat.beq l1.length l2.length && keepB l1 l2)) [none, none])
  | _, _ => none
theorem keep_sound {ext : CallF} (hmix : PR.follows .mixedOrders = true) (hext : SoundCall PR ext) : SoundCall PR (addF 21 keepE ext) := by
  refine sound_add (takes := TK) hmix hext _ (fn := (PR.funcs[21]?).getD default) (by kernel_rfl) (by kernel_rfl) keepE fun xs bs out h => ?_
  unfold keepE at h
  split at h
  · rename_i l1 l2
    injection h with h
    injection h with hf h
    subst h
    have hf' : l1.length < 4611686018427387904 := Nat.le_of_ble_eq_true hf
    refine ⟨l1.length + 1, ?_⟩
    rw [keep_0]
    cases hb : Nat.beq l1.length l2.length
    · have : ¬ l1.length = l2.length := fun e => by rw [e, Nat.beq_refl] at hb; cases hb
      have e : ((l1.length : Int) != (l2.length : Int)) = true := by simp; omega
      rw [e]; rfl
    · have hl : l1.length = l2.length := Nat.eq_of_beq_eq_true hb
      have e : ((l1.length : Int) != (l2.length : Int)) = false := by simp; omega
      rw [e]
      exact keep_loop ext (l1.length + 1) l1 l2 hl hf' l1.length 0 (l1.length + 1) (by omega) (by omega)
  · cases h
end Go.Proofs.YtckdgcpomkefpaaGreatDoor.En
end
section
set_option linter.unusedVariables false
set_option linter.unusedSimpArgs false
namespace Go.Proofs.YtckdgcpomkefpaaGreatDoor.En
open Go
def g0 (w : World) : Gh := ⟨fun β _ => β < w.heap.size, fun _ => none, fun _ => none⟩
theorem Mem.of_none {P : Program} {w : World} {b : Bx} (hb : ∀ x ∈ b, x = none) : Mem P (g0 w) w b := by
  have hn : ∀ d cs, b[d]? = some (some cs) → False := fun d cs h => by have := hb _ (List.mem_of_getElem? h); cases this
  exact ⟨fun β j h => h, fun d cs h => (hn d cs h).elim, fun d d' β cs cs' h => (hn d cs h).elim, fun n v E h => (by cases h), fun n m v v' E E' β h => (by cases h), fun n v E β d cs h => (by cases h)⟩
theorem TT_none {w : World} {b : Bx} (hb : ∀ x ∈ b, x = none) {β j : Nat} (h : TTof (g0 w) b β j) : False := by
  rcases h with ⟨i, cs, h, _⟩ | ⟨⟨n, y, E, h, _⟩, _⟩
  · have := hb _ (List.mem_of_getElem? h); cases this
  · cases h
theorem calls_v {P : Program} {call : CallF} (h : SoundCall P call) {f : FuncId} {xs : List AV} {bs bs' : Bx} {x : Value} (hc : call f xs bs = some (true, .ret (.v x) bs')) (hb : ∀ x ∈ bs, x = none) (hl : bs.length = xs.length) {W : World} (hW : GW W) {vs : Array Value} (hv : vs.size = xs.length)
    (hr : ∀ (i : Nat) x, xs[i]? = some x → ∃ v, vs[i]? = some v ∧ RepS P (g0 W) W x v) : Calls P f vs W fun e w' => e = .returned x ∧ Go.RowKit.Below W.heap.size W w' := by
  obtain ⟨_, h2⟩ := h f xs bs _ hc
  refine (h2 (g0 W) W vs (Mem.of_none hb) ⟨fun β hβ _ => Nat.lt_of_lt_of_le hβ hW.size, hW⟩ hl hv hr).mono fun e w' he => ?_
  obtain ⟨y, g', rfl, post⟩ := he
  obtain ⟨rfl, _⟩ := (show y = x ∧ _ from post.rep)
  exact ⟨rfl, (post.fr.mono fun β j _ t => TT_none hb t).below⟩
theorem RepRow.of_cells {P : Program} {w : World} {E : TypeId} {ks : List CK} {l : List Dat} {β off cap : Nat} {vals : Nat → Nat → Value} (hk : kinds P E = some ks) (hlen : l.length ≤ cap)
    (hc : ∀ i j, i < l.length → j < ks.length → w.cell? ⟨β, off + i * ks.length + j, none⟩ = some (vals i j) ∧ (vals i j).oneCell' = true)
    (hs : ∀ i j d k, l[i]? = some d → ks[j]? = some k → scal k (d.at j) (vals i j))
    (hr : ∀ i j d E', l[i]? = some d → ks[j]? = some (.row E') → RepRow P (g0 w).G w E' (d.at j).toL (vals i j)) : RepRow P (g0 w).G w E l (.slice (some ⟨β, off, none⟩) l.length cap) :=
  .mk E l β off cap ks vals hk hlen (fun i j hi hj => ⟨World.block_lt_of_cell? w ⟨β, off + i * ks.length + j, none⟩ (hc i j hi hj).1, (hc i j hi hj).1, (hc i j hi hj).2⟩) hs hr
end Go.Proofs.YtckdgcpomkefpaaGreatDoor.En
end
section
set_option linter.unusedVariables false
set_option linter.unusedSimpArgs false
namespace Go.Proofs.YtckdgcpomkefpaaGreatDoor.En
open Go Go.RowKit Go.ChangeShapes Go.WideShapes
inductive Sz (P : Program) : CK → Dat → Prop
  | int (k : IntKind) (d : Dat) : (Lit.int k d.toI).wf = true → Sz P (.int k) d
  | bool (d : Dat) : Sz P .bool d
  | str (d : Dat) : d.toS.size ≤ reachBytes → Sz P .str d
  | row (E : TypeId) (ks : List CK) (d : Dat) : kinds P E = some ks → d.toL.length * P.bytesOf E ≤ reachBytes → (∀ e ∈ d.toL, ∀ (j : Nat) k, ks[j]? = some k → Sz P k (e.at j)) → Sz P (.row E) d
  | self (d : Dat) : Sz P .self d
  | other (d : Dat) : Sz P .other d
structure Opn1 (P : Program) (w : World) (k : CK) (d : Dat) (u : Value) : Prop where
  one : u.oneCell' = true
  sc : scal k d u
  row : ∀ E, k = .row E → RepRow P (g0 w).G w E d.toL u
  sz : Sz P k d
structure Opn (P : Program) (w : World) (ks : List CK) (ds : List Dat) (cs : List Value) : Prop where
  ld : ds.length = ks.length
  lc : cs.length = ks.length
  each : ∀ (j : Nat) k d u, ks[j]? = some k → ds[j]? = some d → cs[j]? = some u → Opn1 P w k d u
theorem Opn.append {P : Program} {w : World} {ks ks' : List CK} {ds ds' : List Dat} {cs cs' : List Value} (h : Opn P w ks ds cs) (h' : Opn P w ks' ds' cs') : Opn P w (ks ++ ks') (ds ++ ds') (cs ++ cs') := by
  refine ⟨by simp [h.ld, h'.ld], by simp [h.lc, h'.lc], fun j k d u hk hd hu => ?_⟩
  rw [List.getElem?_append] at hk hd hu
  rw [h.ld] at hd
  rw [h.lc] at hu
  by_cases hj : j < ks.length
  · rw [if_pos hj] at hk hd hu
    exact h.each j k d u hk hd hu
  · rw [if_neg hj] at hk hd hu
    exact h'.each _ k d u hk hd hu
theorem Opn.nil {P : Program} {w : World} : Opn P w [] [] [] := ⟨rfl, rfl, fun j k d u h => by simp at h⟩
theorem Opn.single {P : Program} {w : World} {k : CK} {d : Dat} {u : Value} (h : Opn1 P w k d u) : Opn P w [k] [d] [u] :=
  ⟨rfl, rfl, fun j k' d' u' h1 h2 h3 => by
    cases j with
    | zero => cases h1; cases h2; cases h3; exact h
    | succ j => simp at h1⟩
def offsB (P : Program) (Rl : List TypeId) : Nat → List Field → Bool
  | _, [] => true
  | o, f :: r => f.offset == o && Rl.contains f.type && offsB P Rl (o + P.cellsOf f.type) r
def sumC (P : Program) (fs : List Field) : Nat := fs.foldr (fun f n => P.cellsOf f.type + n) 0
def closedB (P : Program) (Rl : List TypeId) : Bool := Rl.all fun T => match P.underlying T with
  | some (.int _) | some .bool | some .string | some (.pointer _) => true
  | some (.slice E) => Rl.contains E && (match kinds P E with | some ks => P.cellsOf E == ks.length && Nat.blt 0 ks.length | none => false)
  | some (.struct fs) => P.cellsOf T == sumC P fs.toList && offsB P Rl 0 fs.toList
  | _ => false
theorem weights_all {H : Type} {P : Program} {e : TypeId} : ∀ {l : List (DataW H)} {d : DataW H}, d ∈ l → ∀ n ∈ d.weights P e, n ∈ DataW.weightsAll P e l
  | [], d, h, n, hn => by simp at h
  | a :: l, d, h, n, hn => by
    rw [DataW.weightsAll, List.mem_append]
    rcases List.mem_cons.1 h with rfl | h
    · exact .inl hn
    · exact .inr (weights_all h n hn)
def fk (P : Program) (n : Nat) (T : TypeId) (f : Field) : Option (List CK) := match P.underlying f.type with
  | some (.pointer E) => some [bif E == T then CK.self else CK.other]
  | _ => kindsF P n f.type
def catO (l : List (Option (List CK))) : Option (List CK) := l.foldr (fun a b => a.bind fun x => b.bind fun y => some (x ++ y)) (some [])
theorem opn_fields {P : Program} {w : World} {n : Nat} {T : TypeId} {Rl : List TypeId} {cs : List Value} (rd : Field → List Value → Prop)
    (ih : ∀ f c ks, Rl.contains f.type = true → fk P n T f = some ks → rd f c → ∃ ds, Opn P w ks ds c) : ∀ (fs : List Field) (o : Nat) (ks : List CK), offsB P Rl o fs = true → catO (fs.map (fk P n T)) = some ks → cs.length = o + sumC P fs →
      (∀ f ∈ fs, rd f ((cs.drop f.offset).take (P.cellsOf f.type))) → ∃ ds, Opn P w ks ds (cs.drop o)
  | [], o, ks, ho, hk, hl, hr => by
    cases hk
    refine ⟨[], ?_⟩
    rw [List.drop_eq_nil_of_le (by simp [sumC] at hl; omega)]
    exact Opn.nil
  | f :: fs, o, ks, ho, hk, hl, hr => by
    simp only [offsB, Bool.and_eq_true] at ho
    obtain ⟨⟨h1, h2⟩, h3⟩ := ho
    have h1 : f.offset = o := by simpa using h1
    have hk' : ((fk P n T f).bind fun x => (catO (fs.map (fk P n T))).bind fun y => some (x ++ y)) = some ks := hk
    obtain ⟨k1, e1, hk'⟩ := Option.bind_eq_some_iff.1 hk'
    obtain ⟨k2, e2, hk'⟩ := Option.bind_eq_some_iff.1 hk'
    cases hk'
    have hl' : cs.length = o + (P.cellsOf f.type + sumC P fs) := hl
    obtain ⟨d1, o1⟩ := ih f _ k1 h2 e1 (hr f (by simp))
    obtain ⟨d2, o2⟩ := opn_fields rd ih fs (o + P.cellsOf f.type) k2 h3 e2 (by omega) (fun g hg => hr g (by simp [hg]))
    refine ⟨d1 ++ d2, ?_⟩
    have := o1.append o2
    rw [h1, ← List.drop_drop, List.take_append_drop] at this
    exact this
theorem opens {P : Program} {Rl : List TypeId} (hcl : closedB P Rl = true) {H : Type} {enc : TypeId × Value → H} {w : World} {base : Nat} {spare : Nat → Bool} {held : Bool} : ∀ (fuel n : Nat) (T : TypeId) (ks : List CK) (cs : List Value) (x : DataW H × List MemPlace),
    Rl.contains T = true → kindsF P n T = some ks → DataW.trod enc P w base spare held fuel T cs = some x → (∀ n ∈ x.1.weights P T, n ≤ reachBytes) → ∃ ds, Opn P w ks ds cs
  | 0, n, T, ks, cs, x, hT, hk, h, hw => by simp [DataW.trod] at h
  | fuel + 1, 0, T, ks, cs, x, hT, hk, h, hw => by simp [kindsF] at hk
  | fuel + 1, n + 1, T, ks, cs, x, hT, hk, h, hw => by
    have hc := List.all_eq_true.1 hcl T (by simpa using hT)
    unfold kindsF at hk
    cases hu : P.underlying T with
    | none => rw [hu] at hc; cases hc
    | some D =>
      rw [hu] at hc hk
      cases D <;> first | (cases hc; done) | skip
      case bool =>
        cases hk
        obtain ⟨b, rfl, _⟩ := DataW.trod_bool hu h
        exact ⟨[.bool b], Opn.single ⟨rfl, rfl, fun E e => (by cases e), .bool _⟩⟩
      case int k =>
        cases hk
        obtain ⟨m, rfl, _, hwf⟩ := DataW.trod_int hu h
        exact ⟨[.int m], Opn.single ⟨rfl, rfl, fun E e => (by cases e), .int k _ hwf⟩⟩
      case string =>
        cases hk
        obtain ⟨s, rfl, rfl, _⟩ := DataW.trod_string hu h
        have := hw s.data.toList.length (by simp [DataW.weights])
        exact ⟨[.str s], Opn.single ⟨rfl, rfl, fun E e => (by cases e), .str _ (by rwa [Array.length_toList] at this)⟩⟩
      case pointer e =>
        cases hk
        rcases DataW.trod_pointer hu h with ⟨rfl, _⟩ | ⟨a, cs', y, m, _, rfl, _⟩
        · exact ⟨[.int 0], Opn.single ⟨rfl, trivial, fun E e => (by cases e), .other _⟩⟩
        · exact ⟨[.int 0], Opn.single ⟨rfl, trivial, fun E e => (by cases e), .other _⟩⟩
      case struct fs =>
        simp only [Bool.and_eq_true] at hc
        obtain ⟨xs, m, hm, rfl, hcl', hxl, hf⟩ := DataW.trod_struct hu h
        cases hm
        have hsum : P.cellsOf T = sumC P fs.toList := by simpa using hc.1
        have hkk : catO (fs.toList.map (fk P n T)) = some ks := hk
        obtain ⟨ds, hds⟩ := opn_fields (P := P) (w := w) (n := n) (T := T) (Rl := Rl) (cs := cs) (fun f c => ∃ y, DataW.trod enc P w base spare held fuel f.type c = some y ∧ ∀ k ∈ y.1.weights P f.type, k ≤ reachBytes) (fun f c ks' hcf hkf hr => by
            obtain ⟨y, hy, hyw⟩ := hr
            unfold fk at hkf
            split at hkf
            · rename_i E hE
              cases hkf
              have hone : ∀ k, (k = CK.self ∨ k = CK.other) → ∀ u : Value, u.oneCell' = true → Opn1 P w k (.int 0) u := fun k hk u hu1 => by
                rcases hk with rfl | rfl
                · exact ⟨hu1, trivial, fun E e => (by cases e), .self _⟩
                · exact ⟨hu1, trivial, fun E e => (by cases e), .other _⟩
              have hk2 : (bif E == T then CK.self else CK.other) = CK.self ∨ (bif E == T then CK.self else CK.other) = CK.other := by cases E == T <;> simp
              rcases DataW.trod_pointer hE hy with ⟨rfl, _⟩ | ⟨a, cs', y', m', _, rfl, _⟩
              · exact ⟨[.int 0], Opn.single (hone _ hk2 _ rfl)⟩
              · exact ⟨[.int 0], Opn.single (hone _ hk2 _ rfl)⟩
            · exact opens hcl fuel n f.type ks' c y hcf hkf hy hyw) fs.toList 0 ks hc.2 hkk (by rw [hcl', hsum]; omega) (fun f hfm => by
            obtain ⟨i, hi, rfl⟩ := List.mem_iff_getElem.1 hfm
            have hi' : i < fs.size := by simpa using hi
            have hfi : fs[i]? = some fs.toList[i] := by simp [hi']
            have h2 := hf i _ hfi
            obtain ⟨y, hy⟩ : ∃ y, xs[i]? = some y := ⟨_, List.getElem?_eq_getElem (by omega)⟩
            refine ⟨y, by rw [h2, hy], fun k hk => hw k ?_⟩
            simp only [DataW.weights, hu]
            exact DataW.weights_mem_each (j := i) (t := fs.toList[i].type) (by simp [hi']) (by simp [hy]) k hk)
        rw [List.drop_zero] at hds
        exact ⟨ds, hds⟩
      case slice E =>
        simp only [Bool.and_eq_true] at hc
        cases hk
        cases hkE : kinds P E with
        | none => rw [hkE] at hc; cases hc.2
        | some kE =>
          rw [hkE] at hc
          simp only [Bool.and_eq_true] at hc
          have hcE : P.cellsOf E = kE.length := by simpa using hc.2.1
          have h0 : 0 < kE.length := Nat.le_of_ble_eq_true hc.2.2
          rcases DataW.trod_slice hu h with ⟨rfl, rfl⟩ | ⟨a, len, cap, elems, rest, m, hm, rfl, rfl, hb, hl, hmx, hlen, hel, _, _⟩
          · exact ⟨[.rows []], Opn.single ⟨rfl, trivial, fun E' e => (by cases e; exact .nil E none 0), .row E kE _ hkE (by simp [Dat.toL]) (fun e he => by simp [Dat.toL] at he)⟩⟩
          cases hm
          have each : ∀ i, i < len → ∃ p : List Dat × List Value, (∀ j u, p.2[j]? = some u → w.cell? (a.add (i * kE.length + j)) = some u) ∧ Opn P w kE p.1 p.2 := fun i hi => by
            have h2 := hel i hi
            obtain ⟨y, hy⟩ : ∃ y, elems[i]? = some y := ⟨_, List.getElem?_eq_getElem (by omega)⟩
            rw [hy] at h2
            obtain ⟨cs', h3, h4⟩ := Option.bind_eq_some_iff.1 h2
            obtain ⟨_, e1, e2⟩ := World.cells?_some h3
            obtain ⟨ds, hds⟩ := opens hcl fuel 9 E kE cs' y hc.1 hkE h4 (fun k hk => hw k (by
              simp only [DataW.weights, hu, List.mem_cons, List.mem_append]
              exact .inr (.inl (weights_all (List.mem_map.2 ⟨y, List.mem_of_getElem? hy, rfl⟩) k hk))))
            refine ⟨(ds, cs'), fun j u hj => ?_, hds⟩
            have hjl : j < P.cellsOf E := by rw [← e1]; exact (List.getElem?_eq_some_iff.1 hj).1
            have := e2 j hjl
            rw [Deep.add_add, hcE] at this
            rw [this]; exact hj
          obtain ⟨F, hF⟩ := Deep.choose_lt each
          let L : List Dat := (List.range len).map fun i => .agg (F i).1
          have hLl : L.length = len := by simp [L]
          have hLget : ∀ i d, L[i]? = some d → i < len ∧ d = .agg (F i).1 := fun i d hi => by
            have hlt := (List.getElem?_eq_some_iff.1 hi).1
            rw [hLl] at hlt
            simp only [L, List.getElem?_map, List.getElem?_range hlt, Option.map_some] at hi
            cases hi
            exact ⟨hlt, rfl⟩
          have hat : ∀ i j, ∀ hj : j < (F i).1.length, (Dat.agg (F i).1).at j = (F i).1[j] := fun i j hj => by
            show (F i).1.getD j (.int 0) = _
            rw [List.getD_eq_getElem?_getD, List.getElem?_eq_getElem hj]; rfl
          have hcells : ∀ i j k, i < len → kE[j]? = some k → ∃ d u, (F i).1[j]? = some d ∧ (F i).2[j]? = some u ∧ Opn1 P w k d u := fun i j k hi hj => by
            have hjl := (List.getElem?_eq_some_iff.1 hj).1
            obtain ⟨_, ho⟩ := hF i hi
            have q1 := List.getElem?_eq_getElem (l := (F i).1) (i := j) (by rw [ho.ld]; exact hjl)
            have q2 := List.getElem?_eq_getElem (l := (F i).2) (i := j) (by rw [ho.lc]; exact hjl)
            exact ⟨_, _, q1, q2, ho.each j k _ _ hj q1 q2⟩
          have hsz : Sz P (.row E) (.rows L) := by
            refine .row E kE _ hkE ?_ (fun e he j k hj => ?_)
            · have := hw (((elems.map (·.1)).length + (rest.map (·.1)).length) * P.bytesOf E) (by simp [DataW.weights, hu])
              show L.length * P.bytesOf E ≤ reachBytes
              rw [hLl]
              refine Nat.le_trans (Nat.mul_le_mul_right _ ?_) this
              simp
              omega
            · obtain ⟨i, hi⟩ := List.getElem?_of_mem (show e ∈ L from he)
              obtain ⟨hlt, rfl⟩ := hLget i e hi
              obtain ⟨d, u, q1, q2, q3⟩ := hcells i j k hlt hj
              have hl2 := (List.getElem?_eq_some_iff.1 q1).1
              rw [hat i j hl2]
              rw [List.getElem?_eq_getElem hl2] at q1
              cases q1
              exact q3.sz
          refine ⟨[.rows L], Opn.single ⟨rfl, trivial, fun E' e => ?_, hsz⟩⟩
          cases e
          show RepRow P (g0 w).G w E L (.slice (some a) len cap)
          cases len with
          | zero =>
            have : L = [] := List.length_eq_zero_iff.1 hLl
            rw [this]
            exact .nil E (some a) cap
          | succ len' =>
            have hspot : a.spot = none := by
              obtain ⟨k0, hk0⟩ : ∃ k0, kE[0]? = some k0 := ⟨_, List.getElem?_eq_getElem h0⟩
              obtain ⟨d, u, _, q2, _⟩ := hcells 0 0 k0 (by omega) hk0
              have h1 := (hF 0 (by omega)).1 0 u q2
              rw [Nat.zero_mul, Nat.zero_add] at h1
              have h1 : w.cell? a = some u := h1
              unfold World.cell? at h1
              split at h1
              · cases hs : a.spot with
                | none => rfl
                | some z => rw [hs] at h1; cases h1
              · cases h1
            obtain ⟨β, off, spot⟩ := a
            dsimp only at hspot
            subst hspot
            have := RepRow.of_cells (P := P) (w := w) (E := E) (ks := kE) (l := L) (β := β) (off := off) (cap := cap) (vals := fun i j => (F i).2.getD j undef) hkE (by rw [hLl]; exact hl) (fun i j hi hj => by
              rw [hLl] at hi
              obtain ⟨d, u, _, q2, q3⟩ := hcells i j kE[j] hi (List.getElem?_eq_getElem hj)
              have h1 := (hF i hi).1 j u q2
              rw [add_lit] at h1
              rw [List.getD_eq_getElem?_getD, q2]
              exact ⟨by rw [show off + i * kE.length + j = off + (i * kE.length + j) by omega]; exact h1, q3.one⟩) (fun i j d k hi hj => by
              obtain ⟨hlt, rfl⟩ := hLget i d hi
              obtain ⟨d, u, q1, q2, q3⟩ := hcells i j k hlt hj
              have hl2 := (List.getElem?_eq_some_iff.1 q1).1
              rw [hat i j hl2, List.getD_eq_getElem?_getD, q2]
              rw [List.getElem?_eq_getElem hl2] at q1
              cases q1
              exact q3.sc) (fun i j d E' hi hj => by
              obtain ⟨hlt, rfl⟩ := hLget i d hi
              obtain ⟨d, u, q1, q2, q3⟩ := hcells i j _ hlt hj
              have hl2 := (List.getElem?_eq_some_iff.1 q1).1
              rw [hat i j hl2, List.getD_eq_getElem?_getD, q2]
              rw [List.getElem?_eq_getElem hl2] at q1
              cases q1
              exact q3.row E' rfl)
            rw [hLl] at this
            exact this
end Go.Proofs.YtckdgcpomkefpaaGreatDoor.En
end
section
set_option linter.unusedVariables false
set_option linter.unusedSimpArgs false
namespace Go.Proofs.YtckdgcpomkefpaaGreatDoor.En
open Go Go.RowKit Go.ChangeShapes Go.WideShapes
def avOf (k : CK) (d : Dat) : AV := match k with
  | .int k => .v (.int k d.toI)
  | .bool => .v (.bool d.toB)
  | .str => .v (.string d.toS)
  | .row E => .row none E d.toL
  | _ => .dead
theorem avOf_rep {P : Program} {w : World} {k : CK} {d : Dat} {u : Value} (h : Opn1 P w k d u) : RepC P (g0 w) w (avOf k d) u := by
  cases k with
  | int k => exact ⟨h.sc, rfl⟩
  | bool => exact ⟨h.sc, rfl⟩
  | str => exact ⟨h.sc, rfl⟩
  | row E => exact ⟨h.row E rfl, fun n hn => by cases hn⟩
  | self => exact h.one
  | other => exact h.one
def avsOf : List CK → List Dat → List AV
  | k :: ks, d :: ds => avOf k d :: avsOf ks ds
  | _, _ => []
theorem avsOf_get : ∀ (ks : List CK) (ds : List Dat) (j : Nat) x, (avsOf ks ds)[j]? = some x → ∃ k d, ks[j]? = some k ∧ ds[j]? = some d ∧ x = avOf k d
  | [], ds, j, x, h => by simp [avsOf] at h
  | k :: ks, [], j, x, h => by simp [avsOf] at h
  | k :: ks, d :: ds, 0, x, h => by simp [avsOf] at h; exact ⟨k, d, rfl, rfl, h.symm⟩
  | k :: ks, d :: ds, j + 1, x, h => avsOf_get ks ds j x (by simpa [avsOf] using h)
theorem avsOf_len : ∀ (ks : List CK) (ds : List Dat), ds.length = ks.length → (avsOf ks ds).length = ks.length
  | [], [], _ => rfl
  | [], _ :: _, h => by simp at h
  | _ :: _, [], h => by simp at h
  | k :: ks, d :: ds, h => by simp [avsOf, avsOf_len ks ds (by simpa using h)]
theorem agg_rep {P : Program} {w : World} {ks : List CK} {ds : List Dat} {cs : Array Value} (h : Opn P w ks ds cs.toList) : RepS P (g0 w) w (.agg (avsOf ks ds)) (.agg cs) := by
  refine ⟨cs, rfl, ?_, fun j c hj => ?_⟩
  · rw [avsOf_len ks ds h.ld, ← h.lc]; simp
  · obtain ⟨k, d, h1, h2, rfl⟩ := avsOf_get ks ds j c hj
    have hjl := (List.getElem?_eq_some_iff.1 h1).1
    have hu := List.getElem?_eq_getElem (l := cs.toList) (i := j) (by rw [h.lc]; exact hjl)
    refine ⟨_, ?_, avOf_rep (h.each j k d _ h1 h2 hu)⟩
    rw [← Array.getElem?_toList]; exact hu
end Go.Proofs.YtckdgcpomkefpaaGreatDoor.En
end
section
set_option linter.unusedVariables false
set_option maxRecDepth 100000
namespace Go.Proofs.YtckdgcpomkefpaaGreatDoor.En
open Go
def obA (k n : Int) (b : Bool) (s : ByteArray) (ks l : List Dat) : List AV := [I k, B b, I n, S s, .row none 9 ks, .row none 43 l]
def zr : List AV := [I 0, B false, I 0, S ⟨#[]⟩, .row (some (sub 4 4)) 9 [], .row (some (sub 4 5)) 43 []]
end Go.Proofs.YtckdgcpomkefpaaGreatDoor.En
end
section
set_option linter.unusedVariables false
set_option linter.unusedSimpArgs false
set_option maxRecDepth 100000
namespace Go.Proofs.YtckdgcpomkefpaaGreatDoor.En
open Go
theorem hmixP : PR.follows .mixedOrders = true := by kernel_rfl
def mkO (k n : Int) (b : Bool) (s : ByteArray) (ks l : List Dat) : Dat := .agg [.int k, .bool b, .int n, .str s, .rows ks, .rows l]
def obD (d : Dat) : List AV := obA (d.at 0).toI (d.at 2).toI (d.at 1).toB (d.at 3).toS (d.at 4).toL (d.at 5).toL
def nrm (d : Dat) : Dat := mkO (d.at 0).toI (d.at 2).toI (d.at 1).toB (d.at 3).toS (d.at 4).toL (d.at 5).toL
def orK {β : Type} (c : Bool) (d : Bool) (k : Bool → Option β) : Option β := (bif c then some true else some d).bind k
theorem orK_eq {β : Type} (c d : Bool) (k : Bool → Option β) : orK c d k = k (c || d) := by cases c <;> rfl
def fitO : Nat → List Dat → List Dat → Prop
  | 0, _, _ => False
  | k + 1, ks, l => ks.length ≤ 1000000 ∧ l.length ≤ 1000000 ∧ ∀ d ∈ l, fitO k (d.at 4).toL (d.at 5).toL
noncomputable def decP (p : Prop) : Bool := @decide p (Classical.propDecidable p)
theorem decP_eq {p : Prop} (h : p) : decP p = true := @decide_eq_true p (Classical.propDecidable p) h
theorem decP_of {p : Prop} (h : decP p = true) : p := @of_decide_eq_true p (Classical.propDecidable p) h
noncomputable def fitB (k : Nat) (ks l : List Dat) : Bool := decP (fitO k ks l)
theorem fitB_eq {k : Nat} {ks l : List Dat} (h : fitO k ks l) : fitB k ks l = true := decP_eq h
theorem fitB_of {k : Nat} {ks l : List Dat} (h : fitB k ks l = true) : fitO k ks l := decP_of h
def keysEq : List Dat → List Dat → Bool
  | [], [] => true
  | d :: l, e :: m => ((d.at 0).toS.toList == (e.at 0).toS.toList) && keysEq l m
  | _, _ => false
def allEq (f : Dat → Dat → Bool) : List Dat → List Dat → Bool
  | [], [] => true
  | d :: l, e :: m => f d e && allEq f l m
  | _, _ => false
def sameO : Nat → Dat → Dat → Bool
  | 0, _, _ => false
  | k + 1, a, b => ((a.at 0).toI == (b.at 0).toI) && (((a.at 1).toB == (b.at 1).toB) && (((a.at 2).toI == (b.at 2).toI) && (((a.at 3).toS.toList == (b.at 3).toS.toList) && (keysEq (a.at 4).toL (b.at 4).toL && allEq (sameO k) (a.at 5).toL (b.at 5).toL))))
theorem sameO_nrm (k : Nat) (a b : Dat) : sameO k (nrm a) (nrm b) = sameO k a b := by cases k <;> rfl
noncomputable def sameE (k : Nat) : List AV → Bx → Option (Bool × Out)
  | [.agg [.v (.int .i64 k1), .v (.bool b1), .v (.int .i64 n1), .v (.string s1), .row none 9 ks1, .row none 43 l1], .agg [.v (.int .i64 k2), .v (.bool b2), .v (.int .i64 n2), .v (.string s2), .row none 9 ks2, .row none 43 l2]], [none, none] =>
    some (fitB k ks1 l1, .ret (B (sameO k (mkO k1 n1 b1 s1 ks1 l1) (mkO k2 n2 b2 s2 ks2 l2))) [none, none])
  | _, _ => none
noncomputable def sameC (k : Nat) (ext : CallF) : CallF := addF 28 (sameE k) ext
noncomputable def sameL1 (call : CallF) (m r : Nat) (k1 n1 k2 n2 : Int) (b1 b2 : Bool) (s1 s2 : ByteArray) (ks1 l1 ks2 l2 : List Dat) (i : Int) := loopF PR TK call m 28 [none, none] [true, true, false, true] r (sp 88 [(2, .box 2 0), (3, .box 3 0), (5, I i)] [(2, obA k1 n1 b1 s1 ks1 l1), (3, obA k2 n2 b2 s2 ks2 l2)])
noncomputable def sameL2 (call : CallF) (m r : Nat) (k1 n1 k2 n2 : Int) (b1 b2 : Bool) (s1 s2 : ByteArray) (ks1 l1 ks2 l2 : List Dat) (i : Int) := loopF PR TK call m 28 [none, none] [true, true, true, false, true] r (sp 88 [(2, .box 2 0), (3, .box 3 0), (6, I i)] [(2, obA k1 n1 b1 s1 ks1 l1), (3, obA k2 n2 b2 s2 ks2 l2)])
section
variable (call ext : CallF) (k m r : Nat) (k1 n1 k2 n2 : Int) (b1 b2 : Bool) (s1 s2 : ByteArray) (ks1 l1 ks2 l2 : List Dat) (i : Int)
theorem same_0 : evFn PR TK call m 28 [.agg (obA k1 n1 b1 s1 ks1 l1), .agg (obA k2 n2 b2 s2 ks2 l2)] [none, none] =
    orK (k1 != k2) (!(b1 == b2)) fun t => orK t (n1 != n2) fun t => orK t (!(s1.toList == s2.toList)) fun t => orK t ((ks1.length : Int) != ks2.length) fun t => orK t ((l1.length : Int) != l2.length) fun t =>
      bif t then some (.ret (B false) [none, none]) else sameL1 call m m k1 n1 k2 n2 b1 b2 s1 s2 ks1 l1 ks2 l2 0 := by kernel_rfl
theorem same_1 : sameL1 call m (r + 1) k1 n1 k2 n2 b1 b2 s1 s2 ks1 l1 ks2 l2 i = bif decide (i < ks1.length) then (idx ks1 i).bind fun d => (idx ks2 i).bind fun e =>
      bif !((d.at 0).toS.toList == (e.at 0).toS.toList) then some (.ret (B false) [none, none]) else sameL1 call m r k1 n1 k2 n2 b1 b2 s1 s2 ks1 l1 ks2 l2 (IntKind.i64.wrap (i + 1))
    else sameL2 call m m k1 n1 k2 n2 b1 b2 s1 s2 ks1 l1 ks2 l2 0 := by kernel_rfl
theorem same_2 : sameL2 (sameC k ext) m (r + 1) k1 n1 k2 n2 b1 b2 s1 s2 ks1 l1 ks2 l2 i = bif decide (i < l1.length) then (idx l1 i).bind fun d => (idx l2 i).bind fun e =>
      bif fitB k (d.at 4).toL (d.at 5).toL then (bif !(sameO k (nrm d) (nrm e)) then some (.ret (B false) [none, none]) else sameL2 (sameC k ext) m r k1 n1 k2 n2 b1 b2 s1 s2 ks1 l1 ks2 l2 (IntKind.i64.wrap (i + 1))) else none
    else some (.ret (B true) [none, none]) := by kernel_rfl
end
def bR (x : Bool) : Option Out := some (.ret (B x) [none, none])
theorem same_loop2 {ext : CallF} {k m : Nat} {k1 n1 k2 n2 : Int} {b1 b2 : Bool} {s1 s2 : ByteArray} {ks1 l1 ks2 l2 : List Dat} (hl : l1.length = l2.length) (hf : l1.length ≤ 1000000) (hk : ∀ d ∈ l1, fitO k (d.at 4).toL (d.at 5).toL) :
    ∀ (n i r : Nat), i + n = l1.length → n < r → sameL2 (sameC k ext) m r k1 n1 k2 n2 b1 b2 s1 s2 ks1 l1 ks2 l2 (i : Int) = bR (allEq (sameO k) (l1.drop i) (l2.drop i))
  | n, i, 0, _, h => by omega
  | 0, i, r + 1, hi, _ => by
    rw [same_2, show decide ((i : Int) < l1.length) = false from decide_eq_false (by omega), List.drop_eq_nil_of_le (by omega), List.drop_eq_nil_of_le (by omega)]
    rfl
  | n + 1, i, r + 1, hi, hm => by
    have h1 : i < l1.length := by omega
    have h2 : i < l2.length := by omega
    rw [same_2, show decide ((i : Int) < l1.length) = true from decide_eq_true (by omega), idx_at h1, idx_at h2, IntWalk.i64_in _ (by omega)]
    simp only [cond_true, Option.bind_some]
    rw [fitB_eq (hk _ (List.getElem_mem h1)), cond_true, sameO_nrm, List.drop_eq_getElem_cons h1, List.drop_eq_getElem_cons h2]
    have ih := same_loop2 (ext := ext) (m := m) (k1 := k1) (n1 := n1) (k2 := k2) (n2 := n2) (b1 := b1) (b2 := b2) (s1 := s1) (s2 := s2) (ks1 := ks1) (ks2 := ks2) hl hf hk n (i + 1) r (by omega) (by omega)
    rw [show ((i + 1 : Nat) : Int) = (i : Int) + 1 by omega] at ih
    rw [ih]
    show _ = bR (sameO k l1[i] l2[i] && allEq (sameO k) (l1.drop (i + 1)) (l2.drop (i + 1)))
    cases sameO k l1[i] l2[i] <;> rfl
theorem same_loop1 {ext : CallF} {k m : Nat} {k1 n1 k2 n2 : Int} {b1 b2 : Bool} {s1 s2 : ByteArray} {ks1 l1 ks2 l2 : List Dat} (hlk : ks1.length = ks2.length) (hl : l1.length = l2.length) (hfk : ks1.length ≤ 1000000) (hf : l1.length ≤ 1000000) (hk : ∀ d ∈ l1, fitO k (d.at 4).toL (d.at 5).toL) (hm : l1.length < m) :
    ∀ (n i r : Nat), i + n = ks1.length → n < r → sameL1 (sameC k ext) m r k1 n1 k2 n2 b1 b2 s1 s2 ks1 l1 ks2 l2 (i : Int) = bR (keysEq (ks1.drop i) (ks2.drop i) && allEq (sameO k) l1 l2) := by
  have e0 := same_loop2 (ext := ext) (k := k) (m := m) (k1 := k1) (n1 := n1) (k2 := k2) (n2 := n2) (b1 := b1) (b2 := b2) (s1 := s1) (s2 := s2) (ks1 := ks1) (ks2 := ks2) hl hf hk l1.length 0 m (by omega) hm
  rw [List.drop_zero, List.drop_zero, show ((0 : Nat) : Int) = 0 from rfl] at e0
  intro n
  induction n with
  | zero =>
    intro i r hi hr
    cases r with
    | zero => omega
    | succ r =>
      rw [same_1, show decide ((i : Int) < ks1.length) = false from decide_eq_false (by omega), List.drop_eq_nil_of_le (by omega), List.drop_eq_nil_of_le (by omega), e0]
      rfl
  | succ n ih =>
    intro i r hi hr
    cases r with
    | zero => omega
    | succ r =>
      have h1 : i < ks1.length := by omega
      have h2 : i < ks2.length := by omega
      have ih := ih (i + 1) r (by omega) (by omega)
      rw [show ((i + 1 : Nat) : Int) = (i : Int) + 1 by omega] at ih
      rw [same_1, e0, show decide ((i : Int) < ks1.length) = true from decide_eq_true (by omega), idx_at h1, idx_at h2, IntWalk.i64_in _ (by omega)]
      simp only [cond_true, Option.bind_some]
      rw [List.drop_eq_getElem_cons h1, List.drop_eq_getElem_cons h2, ih]
      show _ = bR ((((ks1[i].at 0).toS.toList == (ks2[i].at 0).toS.toList) && keysEq (ks1.drop (i + 1)) (ks2.drop (i + 1))) && allEq (sameO k) l1 l2)
      cases ((ks1[i].at 0).toS.toList == (ks2[i].at 0).toS.toList) <;> rfl
theorem keysEq_len : ∀ {l m : List Dat}, keysEq l m = true → l.length = m.length
  | [], [], _ => rfl
  | d :: l, e :: m, h => by
    rw [keysEq, Bool.and_eq_true] at h
    simp [keysEq_len h.2]
  | [], _ :: _, h => by cases h
  | _ :: _, [], h => by cases h
theorem allEq_len {f : Dat → Dat → Bool} : ∀ {l m : List Dat}, allEq f l m = true → l.length = m.length
  | [], [], _ => rfl
  | d :: l, e :: m, h => by
    rw [allEq, Bool.and_eq_true] at h
    simp [allEq_len h.2]
  | [], _ :: _, h => by cases h
  | _ :: _, [], h => by cases h
theorem ne_len {α : Type} {l m : List α} : ((l.length : Int) != m.length) = !decide (l.length = m.length) := by
  by_cases h : l.length = m.length
  · simp [h]
  · have : (l.length : Int) ≠ m.length := by omega
    simp [h, this]
theorem same_run {ext : CallF} {k m : Nat} {k1 n1 k2 n2 : Int} {b1 b2 : Bool} {s1 s2 : ByteArray} {ks1 l1 ks2 l2 : List Dat} (h : fitO (k + 1) ks1 l1) (hm : 1000000 < m) :
    evFn PR TK (sameC k ext) m 28 [.agg (obA k1 n1 b1 s1 ks1 l1), .agg (obA k2 n2 b2 s2 ks2 l2)] [none, none] = bR (sameO (k + 1) (mkO k1 n1 b1 s1 ks1 l1) (mkO k2 n2 b2 s2 ks2 l2)) := by
  obtain ⟨h1, h2, h3⟩ := h
  rw [same_0]
  simp only [orK_eq]
  show (bif ((((((k1 != k2) || !(b1 == b2)) || (n1 != n2)) || !(s1.toList == s2.toList)) || ((ks1.length : Int) != ks2.length)) || ((l1.length : Int) != l2.length)) then bR false else _) =
    bR ((k1 == k2) && ((b1 == b2) && ((n1 == n2) && ((s1.toList == s2.toList) && (keysEq ks1 ks2 && allEq (sameO k) l1 l2)))))
  rw [ne_len, ne_len]
  unfold bne
  cases (k1 == k2) <;> cases (b1 == b2) <;> cases (n1 == n2) <;> cases (s1.toList == s2.toList) <;> try rfl
  by_cases e1 : ks1.length = ks2.length
  · by_cases e2 : l1.length = l2.length
    · rw [decide_eq_true e1, decide_eq_true e2]
      have e := same_loop1 (ext := ext) (k := k) (m := m) (k1 := k1) (n1 := n1) (k2 := k2) (n2 := n2) (b1 := b1) (b2 := b2) (s1 := s1) (s2 := s2) e1 e2 h1 h2 h3 (by omega) ks1.length 0 m (by omega) (by omega)
      rw [List.drop_zero, List.drop_zero, show ((0 : Nat) : Int) = 0 from rfl] at e
      show sameL1 _ _ _ _ _ _ _ _ _ _ _ _ _ _ _ 0 = _
      rw [e]; rfl
    · rw [decide_eq_false e2]
      have : allEq (sameO k) l1 l2 = false := by
        cases hq : allEq (sameO k) l1 l2
        · rfl
        · exact absurd (allEq_len hq) e2
      rw [this]
      cases decide (ks1.length = ks2.length) <;> cases keysEq ks1 ks2 <;> rfl
  · rw [decide_eq_false e1]
    have : keysEq ks1 ks2 = false := by
      cases hq : keysEq ks1 ks2
      · rfl
      · exact absurd (keysEq_len hq) e1
    rw [this]; rfl
theorem same_sound {ext : CallF} (hext : SoundCall PR ext) : ∀ k, SoundCall PR (sameC k ext) := by
  refine sound_rec (takes := TK) hmixP hext _ (fn := (PR.funcs[28]?).getD default) (by kernel_rfl) (by kernel_rfl) sameE (fun xs bs out h => ?_) (fun k xs bs out h => ?_)
  · unfold sameE at h
    split at h
    · injection h with h
      injection h with h _
      exact fitB_of h
    · cases h
  · unfold sameE at h
    split at h
    · injection h with h
      injection h with h1 h2
      subst h2
      exact ⟨1000001, same_run (fitB_of h1) (by omega)⟩
    · cases h
def copyO : Nat → Dat → Dat
  | 0, d => d
  | k + 1, d => mkO (d.at 0).toI (d.at 2).toI (d.at 1).toB (d.at 3).toS (d.at 4).toL ((d.at 5).toL.map (copyO k))
def obT (k n : Int) (b : Bool) (s : ByteArray) (ks l : List Dat) : List AV := [I k, B b, I n, S s, .row (some (sub 2 4)) 9 ks, .row (some (sub 2 5)) 43 l]
noncomputable def copyE (k : Nat) : List AV → Bx → Option (Bool × Out)
  | [.agg [.v (.int .i64 k1), .v (.bool b1), .v (.int .i64 n1), .v (.string s1), .row none 9 ks1, .row none 43 l1]], [none] =>
    some (fitB k ks1 l1, .ret (.agg (obT k1 n1 b1 s1 ks1 (l1.map (copyO (k - 1))))) [none])
  | _, _ => none
noncomputable def copyC (k : Nat) (ext : CallF) : CallF := addF 25 (copyE k) ext
noncomputable def copyL (call : CallF) (m r : Nat) (k1 n1 : Int) (b1 : Bool) (s1 : ByteArray) (ks1 l1 acc : List Dat) (i : Int) := loopF PR TK call m 25 [none] [true, true, true, false, true] r
  (sp 29 [(1, .box 1 0), (2, .box 2 0), (3, .row (some 3) 43 acc), (4, I i)] [(1, [I k1, B b1, I n1, S s1, .row (some (sub 1 4)) 9 ks1, .row none 43 l1]), (2, [I 0, B false, I 0, S ⟨#[]⟩, .row (some (sub 2 4)) 9 [], .row (some (sub 2 5)) 43 []])])
section
variable (call ext : CallF) (k m r : Nat) (k1 n1 : Int) (b1 : Bool) (s1 : ByteArray) (ks1 l1 acc : List Dat) (i : Int)
theorem copy_0 : evFn PR TK call m 25 [.agg (obA k1 n1 b1 s1 ks1 l1)] [none] = bif Nat.ble (0 + ks1.length) fitsN then copyL call m m k1 n1 b1 s1 ks1 l1 [] 0 else none := by kernel_rfl
theorem copy_1 : copyL (copyC k ext) m (r + 1) k1 n1 b1 s1 ks1 l1 acc i = bif decide (i < l1.length) then (idx l1 i).bind fun d =>
      bif fitB k (d.at 4).toL (d.at 5).toL then (bif Nat.ble (acc.length + 1) fitsN then copyL (copyC k ext) m r k1 n1 b1 s1 ks1 l1 (acc ++ [mkO (d.at 0).toI (d.at 2).toI (d.at 1).toB (d.at 3).toS (d.at 4).toL ((d.at 5).toL.map (copyO (k - 1)))]) (IntKind.i64.wrap (i + 1)) else none) else none
    else some (.ret (.agg (obT k1 n1 b1 s1 ks1 acc)) [none]) := by kernel_rfl
end
end Go.Proofs.YtckdgcpomkefpaaGreatDoor.En
end
section
set_option linter.unusedVariables false
set_option linter.unusedSimpArgs false
set_option maxRecDepth 100000
namespace Go.Proofs.YtckdgcpomkefpaaGreatDoor.En
open Go
theorem fits_ble {n : Nat} (h : n ≤ 1000001) : Nat.ble n fitsN = true := Nat.ble_eq_true_of_le (by unfold fitsN; omega)
theorem copy_loop {ext : CallF} {k m : Nat} {k1 n1 : Int} {b1 : Bool} {s1 : ByteArray} {ks1 l1 : List Dat} (hk0 : 0 < k) (hf : l1.length ≤ 1000000) (hk : ∀ d ∈ l1, fitO k (d.at 4).toL (d.at 5).toL) :
    ∀ (n i r : Nat) (acc : List Dat), i + n = l1.length → n < r → acc.length = i → copyL (copyC k ext) m r k1 n1 b1 s1 ks1 l1 acc (i : Int) = some (.ret (.agg (obT k1 n1 b1 s1 ks1 (acc ++ (l1.drop i).map (copyO k)))) [none]) := by
  intro n
  induction n with
  | zero =>
    intro i r acc hi hr ha
    cases r with
    | zero => omega
    | succ r =>
      rw [copy_1, show decide ((i : Int) < l1.length) = false from decide_eq_false (by omega), List.drop_eq_nil_of_le (by omega), List.map_nil, List.append_nil]
      rfl
  | succ n ih =>
    intro i r acc hi hr ha
    cases r with
    | zero => omega
    | succ r =>
      have h1 : i < l1.length := by omega
      have e : mkO (l1[i].at 0).toI (l1[i].at 2).toI (l1[i].at 1).toB (l1[i].at 3).toS (l1[i].at 4).toL ((l1[i].at 5).toL.map (copyO (k - 1))) = copyO k l1[i] := by
        obtain ⟨j, rfl⟩ : ∃ j, k = j + 1 := ⟨k - 1, by omega⟩
        rfl
      have ih := ih (i + 1) r (acc ++ [copyO k l1[i]]) (by omega) (by omega) (by simp; omega)
      rw [show ((i + 1 : Nat) : Int) = (i : Int) + 1 by omega] at ih
      rw [copy_1, show decide ((i : Int) < l1.length) = true from decide_eq_true (by omega), idx_at h1, IntWalk.i64_in _ (by omega)]
      simp only [cond_true, Option.bind_some]
      rw [fitB_eq (hk _ (List.getElem_mem h1)), cond_true, fits_ble (by omega), cond_true, e, ih, List.drop_eq_getElem_cons h1, List.map_cons, List.append_assoc]
      rfl
theorem copy_run {ext : CallF} {k m : Nat} {k1 n1 : Int} {b1 : Bool} {s1 : ByteArray} {ks1 l1 : List Dat} (h : fitO (k + 1) ks1 l1) (hm : 1000000 < m) :
    evFn PR TK (copyC k ext) m 25 [.agg (obA k1 n1 b1 s1 ks1 l1)] [none] = some (.ret (.agg (obT k1 n1 b1 s1 ks1 (l1.map (copyO k)))) [none]) := by
  obtain ⟨h1, h2, h3⟩ := h
  rw [copy_0, fits_ble (by omega), cond_true]
  cases l1 with
  | nil =>
    obtain ⟨m, rfl⟩ : ∃ j, m = j + 1 := ⟨m - 1, by omega⟩
    rw [copy_1]; rfl
  | cons d l =>
    have hk0 : 0 < k := by
      cases k with
      | zero => exact (h3 d (by simp)).elim
      | succ k => omega
    have e := copy_loop (ext := ext) (m := m) (k1 := k1) (n1 := n1) (b1 := b1) (s1 := s1) (ks1 := ks1) hk0 h2 h3 (d :: l).length 0 m [] (by omega) (by omega) rfl
    rw [List.drop_zero, List.nil_append, show ((0 : Nat) : Int) = 0 from rfl] at e
    exact e
theorem copy_sound {ext : CallF} (hext : SoundCall PR ext) : ∀ k, SoundCall PR (copyC k ext) := by
  refine sound_rec (takes := TK) hmixP hext _ (fn := (PR.funcs[25]?).getD default) (by kernel_rfl) (by kernel_rfl) copyE (fun xs bs out h => ?_) (fun k xs bs out h => ?_)
  · unfold copyE at h
    split at h
    · injection h with h
      injection h with h _
      exact fitB_of h
    · cases h
  · unfold copyE at h
    split at h
    · injection h with h
      injection h with h1 h2
      subst h2
      exact ⟨1000001, copy_run (fitB_of h1) (by omega)⟩
    · cases h
def findK (key : ByteArray) : List Dat → Nat → Option Nat
  | [], _ => none
  | d :: ks, i => bif (d.at 0).toS.toList == key.toList then some i else findK key ks (i + 1)
def zeroO : Dat := mkO 0 0 false ⟨#[]⟩ [] []
def getO (ks l : List Dat) (key : ByteArray) : Option Dat := (findK key ks 0).bind fun i => l[i]?
def getR (r : Option Dat) : Option Out := some (.ret (.tup [.agg (obD (r.getD zeroO)), B r.isSome]) [none, none])
def getE : List AV → Bx → Option (Bool × Out)
  | [.agg [.v (.int .i64 k1), .v (.bool b1), .v (.int .i64 n1), .v (.string s1), .row none 9 ks1, .row none 43 l1], .v (.string key)], [none, none] =>
    some (Nat.ble ks1.length 1000000 && Nat.ble l1.length 1000000, .ret (.tup [.agg (obD ((bif k1 == 7 then getO ks1 l1 key else none).getD zeroO)), B (bif k1 == 7 then getO ks1 l1 key else none).isSome]) [none, none])
  | _, _ => none
theorem idx_ge {l : List Dat} {i : Nat} (h : ¬ i < l.length) : l[i]? = none := List.getElem?_eq_none (by omega)
noncomputable def ogetL (call : CallF) (m r : Nat) (k n : Int) (b : Bool) (s key : ByteArray) (ks l : List Dat) (i : Int) := loopF PR TK call m 35 [none, none] [true, true, false, true] r
  (sp 37 [(1, S key), (2, .box 2 0), (4, .box 4 0), (13, .row none 9 ks), (14, I ks.length), (15, I i)] [(2, obA k n b s ks l), (4, zr)])
theorem oget_0 (call : CallF) (m : Nat) (k n : Int) (b : Bool) (s key : ByteArray) (ks l : List Dat) : evFn PR TK call m 35 [.agg (obA k n b s ks l), S key] [none, none] =
  bif (k != 7) then some (.ret (.tup [.agg (obA 0 0 false ⟨#[]⟩ [] []), B false]) [none, none]) else ogetL call m m k n b s key ks l 0 := by kernel_rfl
def andK {β : Type} (c d : Bool) (k : Bool → Option β) : Option β := (bif c then some d else some false).bind k
theorem andK_eq {β : Type} (c d : Bool) (k : Bool → Option β) : andK c d k = k (c && d) := by cases c <;> rfl
theorem oget_1 (call : CallF) (m r : Nat) (k n : Int) (b : Bool) (s key : ByteArray) (ks l : List Dat) (i : Int) : ogetL call m (r + 1) k n b s key ks l i =
  bif decide (i < ks.length) then (idx ks i).bind fun d => andK ((d.at 0).toS.toList == key.toList) (decide (i < l.length)) fun t => bif t then (idx l i).bind fun e => some (.ret (.tup [.agg (obD e), B true]) [none, none])
    else ogetL call m r k n b s key ks l (IntKind.i64.wrap (i + 1))
  else some (.ret (.tup [.agg (obA 0 0 false ⟨#[]⟩ [] []), B false]) [none, none]) := by kernel_rfl
theorem findK_ge {key : ByteArray} : ∀ (ks : List Dat) (i j : Nat), findK key ks i = some j → i ≤ j
  | [], i, j, h => by cases h
  | d :: ks, i, j, h => by
    unfold findK at h
    cases hc : ((d.at 0).toS.toList == key.toList) <;> rw [hc] at h <;> simp only [cond_true, cond_false] at h
    · have := findK_ge ks (i + 1) j h; omega
    · cases h; exact Nat.le_refl _
theorem oget_loop {call : CallF} {m : Nat} {k1 n1 : Int} {b1 : Bool} {s1 key : ByteArray} {ks1 l1 : List Dat} (hf : ks1.length ≤ 1000000) :
    ∀ (n i r : Nat), i + n = ks1.length → n < r → ogetL call m r k1 n1 b1 s1 key ks1 l1 (i : Int) = getR ((findK key (ks1.drop i) i).bind fun i => l1[i]?) := by
  intro n
  induction n with
  | zero =>
    intro i r hi hr
    cases r with
    | zero => omega
    | succ r =>
      rw [oget_1, show decide ((i : Int) < ks1.length) = false from decide_eq_false (by omega), List.drop_eq_nil_of_le (by omega)]
      rfl
  | succ n ih =>
    intro i r hi hr
    cases r with
    | zero => omega
    | succ r =>
      have h1 : i < ks1.length := by omega
      have ih := ih (i + 1) r (by omega) (by omega)
      rw [show ((i + 1 : Nat) : Int) = (i : Int) + 1 by omega] at ih
      rw [oget_1, show decide ((i : Int) < ks1.length) = true from decide_eq_true (by omega), idx_at h1, IntWalk.i64_in _ (by omega), ih, List.drop_eq_getElem_cons h1]
      simp only [cond_true, Option.bind_some, findK, andK_eq]
      cases ((ks1[i].at 0).toS.toList == key.toList)
      · rfl
      · simp only [cond_true, Option.bind_some, Bool.true_and]
        by_cases h2 : i < l1.length
        · rw [show decide ((i : Int) < l1.length) = true from decide_eq_true (by omega), idx_at h2, List.getElem?_eq_getElem h2]
          rfl
        · rw [show decide ((i : Int) < l1.length) = false from decide_eq_false (by omega), idx_ge h2]
          simp only [cond_false]
          cases hq : findK key (ks1.drop (i + 1)) (i + 1) with
          | none => rfl
          | some j =>
            have := findK_ge _ _ _ hq
            rw [Option.bind_some, idx_ge (by omega)]
theorem oget_run {call : CallF} {m : Nat} {k1 n1 : Int} {b1 : Bool} {s1 key : ByteArray} {ks1 l1 : List Dat} (hf : ks1.length ≤ 1000000) (hm : 1000000 < m) :
    evFn PR TK call m 35 [.agg (obA k1 n1 b1 s1 ks1 l1), S key] [none, none] = getR (bif k1 == 7 then getO ks1 l1 key else none) := by
  rw [oget_0]
  unfold bne
  cases (k1 == 7)
  · rfl
  · have e := oget_loop (call := call) (m := m) (k1 := k1) (n1 := n1) (b1 := b1) (s1 := s1) (key := key) (l1 := l1) hf ks1.length 0 m (by omega) (by omega)
    rw [List.drop_zero, show ((0 : Nat) : Int) = 0 from rfl] at e
    exact e
theorem oget_sound {ext : CallF} (hext : SoundCall PR ext) : SoundCall PR (addF 35 getE ext) := by
  refine sound_add (takes := TK) hmixP hext _ (fn := (PR.funcs[35]?).getD default) (by kernel_rfl) (by kernel_rfl) getE fun xs bs out h => ?_
  unfold getE at h
  split at h
  · injection h with h
    injection h with h1 h2
    subst h2
    rw [Bool.and_eq_true] at h1
    exact ⟨1000001, oget_run (Nat.le_of_ble_eq_true h1.1) (by omega)⟩
  · cases h
end Go.Proofs.YtckdgcpomkefpaaGreatDoor.En
end
section
set_option linter.unusedVariables false
set_option linter.unusedSimpArgs false
set_option maxRecDepth 100000
namespace Go.Proofs.YtckdgcpomkefpaaGreatDoor.En
open Go
def keysN : List Dat → Int → Int
  | [], n => n
  | d :: ks, n => keysN ks (n + ((d.at 0).toS.size : Int).tdiv 100)
def itemsN (f : Dat → Int → Int) : List Dat → Int → Int
  | [], n => n
  | d :: l, n => bif decide (n ≥ 0) then itemsN f l (f d n) else n
def headN (s : ByteArray) (ks l : List Dat) (ahead : Int) : Int := ahead + 1 + ks.length + l.length + (s.size : Int).tdiv 100
def largeO : Nat → Dat → Int → Int → Int
  | 0, _, _, _ => -1
  | k + 1, d, nest, ahead => bif decide (headN (d.at 3).toS (d.at 4).toL (d.at 5).toL ahead > 2000) || decide (nest > 100) then -1
    else itemsN (fun e n => largeO k e (nest + 1) n) (d.at 5).toL (keysN (d.at 4).toL (headN (d.at 3).toS (d.at 4).toL (d.at 5).toL ahead))
def fitZ : Nat → ByteArray → List Dat → List Dat → Prop
  | 0, _, _, _ => True
  | k + 1, s, ks, l => s.size ≤ 140737488355328 ∧ ks.length ≤ 140737488355328 ∧ l.length ≤ 140737488355328 ∧ (∀ d ∈ ks, (d.at 0).toS.size ≤ 140737488355328) ∧ ∀ d ∈ l, fitZ k (d.at 3).toS (d.at 4).toL (d.at 5).toL
def okZ (k : Nat) (s : ByteArray) (ks l : List Dat) (nest ahead : Int) : Prop := 102 ≤ k + nest ∧ 0 ≤ nest ∧ nest ≤ 101 ∧ 0 ≤ ahead ∧ ahead ≤ 4503599627370496 ∧ fitZ k s ks l
noncomputable def zB (k : Nat) (s : ByteArray) (ks l : List Dat) (nest ahead : Int) : Bool := decP (okZ k s ks l nest ahead)
noncomputable def largeE (k : Nat) : List AV → Bx → Option (Bool × Out)
  | [.agg [.v (.int .i64 k1), .v (.bool b1), .v (.int .i64 n1), .v (.string s1), .row none 9 ks1, .row none 43 l1], .v (.int .i64 nest), .v (.int .i64 ahead)], [none, none, none] =>
    some (zB k s1 ks1 l1 nest ahead, .ret (I (largeO k (mkO k1 n1 b1 s1 ks1 l1) nest ahead)) [none, none, none])
  | _, _ => none
noncomputable def largeC (k : Nat) (ext : CallF) : CallF := addF 43 (largeE k) ext
noncomputable def largeL1 (call : CallF) (m r : Nat) (k1 n1 : Int) (b1 : Bool) (s1 : ByteArray) (ks1 l1 : List Dat) (nest n i : Int) := loopF PR TK call m 43 [none, none, none] [true, true, true, false, true] r (sp 68 [(1, I nest), (3, .box 3 0), (7, I n), (8, I i)] [(3, obA k1 n1 b1 s1 ks1 l1)])
noncomputable def largeL2 (call : CallF) (m r : Nat) (k1 n1 : Int) (b1 : Bool) (s1 : ByteArray) (ks1 l1 : List Dat) (nest n i : Int) := loopF PR TK call m 43 [none, none, none] [true, true, true, true, false, true] r (sp 68 [(1, I nest), (3, .box 3 0), (7, I n), (9, I i)] [(3, obA k1 n1 b1 s1 ks1 l1)])
def nR (n : Int) : Option Out := some (.ret (I n) [none, none, none])
def W (n : Int) : Int := IntKind.i64.wrap n
section
variable (call ext : CallF) (k m r : Nat) (k1 n1 : Int) (b1 : Bool) (s1 : ByteArray) (ks1 l1 : List Dat) (nest ahead n i : Int)
theorem large_0 : evFn PR TK call m 43 [.agg (obA k1 n1 b1 s1 ks1 l1), I nest, I ahead] [none, none, none] =
    orK (decide (W (W (W (W (ahead + 1) + ks1.length) + l1.length) + W ((s1.size : Int).tdiv 100)) > 2000)) (decide (nest > 100)) fun t => bif t then nR (-1) else
      largeL1 call m m k1 n1 b1 s1 ks1 l1 nest (W (W (W (W (ahead + 1) + ks1.length) + l1.length) + W ((s1.size : Int).tdiv 100))) 0 := by kernel_rfl
theorem large_1 : largeL1 call m (r + 1) k1 n1 b1 s1 ks1 l1 nest n i = bif decide (i < ks1.length) then (idx ks1 i).bind fun d => largeL1 call m r k1 n1 b1 s1 ks1 l1 nest (W (n + W (((d.at 0).toS.size : Int).tdiv 100))) (W (i + 1))
    else largeL2 call m m k1 n1 b1 s1 ks1 l1 nest n 0 := by kernel_rfl
theorem large_2 : largeL2 (largeC k ext) m (r + 1) k1 n1 b1 s1 ks1 l1 nest n i = andK (decide (i < l1.length)) (decide (n ≥ 0)) fun t => bif t then (idx l1 i).bind fun d =>
      bif zB k (d.at 3).toS (d.at 4).toL (d.at 5).toL (W (nest + 1)) n then largeL2 (largeC k ext) m r k1 n1 b1 s1 ks1 l1 nest (largeO k (nrm d) (W (nest + 1)) n) (W (i + 1)) else none
    else nR n := by kernel_rfl
end
theorem W_in {n : Int} (h : -9223372036854775808 ≤ n ∧ n ≤ 9223372036854775807) : W n = n := IntWalk.i64_in _ h
theorem div_nat (n : Nat) : ((n : Int).tdiv 100) = ((n / 100 : Nat) : Int) := by
  rw [Int.tdiv_eq_ediv_of_nonneg (by omega)]; omega
theorem largeO_nrm (k : Nat) (d : Dat) (nest ahead : Int) : largeO k (nrm d) nest ahead = largeO k d nest ahead := by cases k <;> rfl
theorem keysN_bd : ∀ (ks : List Dat) (n : Int), (∀ d ∈ ks, (d.at 0).toS.size ≤ 140737488355328) → n ≤ keysN ks n ∧ keysN ks n ≤ n + ks.length * 1407374883553
  | [], n, _ => by simp [keysN]
  | d :: ks, n, h => by
    have h0 := h d (by simp)
    have ih := keysN_bd ks (n + ((d.at 0).toS.size : Int).tdiv 100) fun e he => h e (by simp [he])
    rw [div_nat] at ih
    show _ ≤ keysN ks (n + ((d.at 0).toS.size : Int).tdiv 100) ∧ keysN ks (n + ((d.at 0).toS.size : Int).tdiv 100) ≤ _
    rw [div_nat, List.length_cons]
    omega
theorem itemsN_bd {f : Dat → Int → Int} {M : Int} : ∀ (l : List Dat) (n : Int), (∀ d ∈ l, ∀ n, 0 ≤ n → n ≤ M → -1 ≤ f d n ∧ f d n ≤ M) → -1 ≤ n → n ≤ M → -1 ≤ itemsN f l n ∧ itemsN f l n ≤ M
  | [], n, _, h1, h2 => ⟨h1, h2⟩
  | d :: l, n, hf, h1, h2 => by
    show -1 ≤ (bif decide (n ≥ 0) then itemsN f l (f d n) else n) ∧ (bif decide (n ≥ 0) then itemsN f l (f d n) else n) ≤ M
    by_cases h : n ≥ 0
    · rw [decide_eq_true h]
      have := hf d (by simp) n h h2
      exact itemsN_bd l _ (fun e he => hf e (by simp [he])) this.1 this.2
    · rw [decide_eq_false h]; exact ⟨h1, h2⟩
theorem headN_eq (s : ByteArray) (ks l : List Dat) (ahead : Int) : headN s ks l ahead = ahead + 1 + ks.length + l.length + ((s.size / 100 : Nat) : Int) := by unfold headN; rw [div_nat]
theorem largeO_bd : ∀ (k : Nat) (d : Dat) (nest ahead : Int), 0 ≤ ahead → fitZ k (d.at 3).toS (d.at 4).toL (d.at 5).toL → -1 ≤ largeO k d nest ahead ∧ largeO k d nest ahead ≤ 4503599627370496
  | 0, d, nest, ahead, _, _ => by simp [largeO]
  | k + 1, d, nest, ahead, h0, hz => by
    obtain ⟨z1, z2, z3, z4, z5⟩ := hz
    unfold largeO
    cases hc : decide (headN (d.at 3).toS (d.at 4).toL (d.at 5).toL ahead > 2000) || decide (nest > 100)
    · rw [Bool.or_eq_false_iff] at hc
      have h1 := of_decide_eq_false hc.1
      rw [headN_eq] at h1
      have hk := keysN_bd (d.at 4).toL (headN (d.at 3).toS (d.at 4).toL (d.at 5).toL ahead) z4
      rw [headN_eq] at hk
      simp only [cond_false]
      rw [headN_eq]
      exact itemsN_bd _ _ (fun e he n hn _ => largeO_bd k e (nest + 1) n hn (z5 e he)) (by omega) (by omega)
    · exact ⟨by simp, by simp⟩
theorem large_loop2 {ext : CallF} {k m : Nat} {k1 n1 : Int} {b1 : Bool} {s1 : ByteArray} {ks1 l1 : List Dat} {nest : Int} (h1 : 102 ≤ k + (nest + 1)) (h2 : 0 ≤ nest) (h3 : nest ≤ 100) (hl : l1.length ≤ 2000) (hz : ∀ d ∈ l1, fitZ k (d.at 3).toS (d.at 4).toL (d.at 5).toL) :
    ∀ (q i r : Nat) (n : Int), i + q = l1.length → q < r → -1 ≤ n → n ≤ 4503599627370496 → largeL2 (largeC k ext) m r k1 n1 b1 s1 ks1 l1 nest n (i : Int) = nR (itemsN (fun e n => largeO k e (nest + 1) n) (l1.drop i) n) := by
  intro q
  induction q with
  | zero =>
    intro i r n hi hr hn1 hn2
    cases r with
    | zero => omega
    | succ r =>
      rw [large_2, andK_eq, show decide ((i : Int) < l1.length) = false from decide_eq_false (by omega), List.drop_eq_nil_of_le (by omega)]
      rfl
  | succ q ih =>
    intro i r n hi hr hn1 hn2
    cases r with
    | zero => omega
    | succ r =>
      have hlt : i < l1.length := by omega
      rw [large_2, andK_eq, show decide ((i : Int) < l1.length) = true from decide_eq_true (by omega), idx_at hlt, List.drop_eq_getElem_cons hlt, W_in (n := (i : Int) + 1) (by omega), W_in (n := nest + 1) (by omega), Bool.true_and]
      show _ = nR (bif decide (n ≥ 0) then itemsN (fun e n => largeO k e (nest + 1) n) (l1.drop (i + 1)) (largeO k l1[i] (nest + 1) n) else n)
      by_cases hn : n ≥ 0
      · have hd := hz _ (List.getElem_mem hlt)
        have hb := largeO_bd k l1[i] (nest + 1) n hn hd
        have ih := ih (i + 1) r (largeO k l1[i] (nest + 1) n) (by omega) (by omega) hb.1 hb.2
        rw [show ((i + 1 : Nat) : Int) = (i : Int) + 1 by omega] at ih
        have hzb : zB k (l1[i].at 3).toS (l1[i].at 4).toL (l1[i].at 5).toL (nest + 1) n = true := decP_eq ⟨h1, by omega, by omega, hn, by omega, hd⟩
        rw [decide_eq_true hn, cond_true, Option.bind_some, hzb, cond_true, largeO_nrm, ih]
        rfl
      · rw [decide_eq_false hn]; rfl
theorem large_loop1 {ext : CallF} {k m : Nat} {k1 n1 : Int} {b1 : Bool} {s1 : ByteArray} {ks1 l1 : List Dat} {nest : Int} (h1 : 102 ≤ k + (nest + 1)) (h2 : 0 ≤ nest) (h3 : nest ≤ 100) (hl : l1.length ≤ 2000) (hlk : ks1.length ≤ 2000) (hz : ∀ d ∈ l1, fitZ k (d.at 3).toS (d.at 4).toL (d.at 5).toL) (hzk : ∀ d ∈ ks1, (d.at 0).toS.size ≤ 140737488355328) (hm : 2000 < m) :
    ∀ (q i r : Nat) (n : Int), i + q = ks1.length → q < r → 0 ≤ n → n ≤ 2000 + i * 1407374883553 → largeL1 (largeC k ext) m r k1 n1 b1 s1 ks1 l1 nest n (i : Int) = nR (itemsN (fun e n => largeO k e (nest + 1) n) l1 (keysN (ks1.drop i) n)) := by
  intro q
  induction q with
  | zero =>
    intro i r n hi hr hn1 hn2
    cases r with
    | zero => omega
    | succ r =>
      have e := large_loop2 (ext := ext) (m := m) (k1 := k1) (n1 := n1) (b1 := b1) (s1 := s1) (ks1 := ks1) h1 h2 h3 hl hz l1.length 0 m n (by omega) (by omega) (by omega) (by omega)
      rw [List.drop_zero, show ((0 : Nat) : Int) = 0 from rfl] at e
      rw [large_1, e, show decide ((i : Int) < ks1.length) = false from decide_eq_false (by omega), List.drop_eq_nil_of_le (by omega)]
      rfl
  | succ q ih =>
    intro i r n hi hr hn1 hn2
    cases r with
    | zero => omega
    | succ r =>
      have hlt : i < ks1.length := by omega
      have hd := hzk _ (List.getElem_mem hlt)
      have ih := ih (i + 1) r (n + ((ks1[i].at 0).toS.size : Int).tdiv 100) (by omega) (by omega) (by rw [div_nat]; omega) (by rw [div_nat]; omega)
      rw [show ((i + 1 : Nat) : Int) = (i : Int) + 1 by omega] at ih
      have e := large_loop2 (ext := ext) (m := m) (k1 := k1) (n1 := n1) (b1 := b1) (s1 := s1) (ks1 := ks1) h1 h2 h3 hl hz l1.length 0 m n (by omega) (by omega) (by omega) (by omega)
      rw [List.drop_zero, show ((0 : Nat) : Int) = 0 from rfl] at e
      rw [large_1, e, show decide ((i : Int) < ks1.length) = true from decide_eq_true (by omega), idx_at hlt, List.drop_eq_getElem_cons hlt, cond_true, Option.bind_some]
      have w1 : W (((ks1[i].at 0).toS.size : Int).tdiv 100) = ((ks1[i].at 0).toS.size : Int).tdiv 100 := W_in (by rw [div_nat]; omega)
      have w2 : W (n + ((ks1[i].at 0).toS.size : Int).tdiv 100) = n + ((ks1[i].at 0).toS.size : Int).tdiv 100 := W_in (by rw [div_nat]; omega)
      rw [w1, w2, W_in (n := (i : Int) + 1) (by omega), ih]
      rfl
theorem large_run {ext : CallF} {k m : Nat} {k1 n1 : Int} {b1 : Bool} {s1 : ByteArray} {ks1 l1 : List Dat} {nest ahead : Int} (h : okZ (k + 1) s1 ks1 l1 nest ahead) (hm : 2000 < m) :
    evFn PR TK (largeC k ext) m 43 [.agg (obA k1 n1 b1 s1 ks1 l1), I nest, I ahead] [none, none, none] = nR (largeO (k + 1) (mkO k1 n1 b1 s1 ks1 l1) nest ahead) := by
  obtain ⟨h1, h2, h3, h4, h5, z1, z2, z3, z4, z5⟩ := h
  rw [large_0, orK_eq]
  have w0 := div_nat s1.size
  rw [W_in (n := (s1.size : Int).tdiv 100) (by omega), W_in (n := ahead + 1) (by omega), W_in (n := ahead + 1 + ks1.length) (by omega), W_in (n := ahead + 1 + ks1.length + l1.length) (by omega), W_in (n := ahead + 1 + ks1.length + l1.length + (s1.size : Int).tdiv 100) (by omega)]
  show _ = nR (bif decide (headN s1 ks1 l1 ahead > 2000) || decide (nest > 100) then -1 else itemsN (fun e n => largeO k e (nest + 1) n) l1 (keysN ks1 (headN s1 ks1 l1 ahead)))
  change (bif decide (headN s1 ks1 l1 ahead > 2000) || decide (nest > 100) then nR (-1) else largeL1 _ _ _ _ _ _ _ _ _ _ (headN s1 ks1 l1 ahead) 0) = _
  cases hc : decide (headN s1 ks1 l1 ahead > 2000) || decide (nest > 100)
  · rw [Bool.or_eq_false_iff] at hc
    have c1 := of_decide_eq_false hc.1
    have c2 := of_decide_eq_false hc.2
    rw [headN_eq] at c1
    have e := large_loop1 (ext := ext) (k := k) (m := m) (k1 := k1) (n1 := n1) (b1 := b1) (s1 := s1) (ks1 := ks1) (l1 := l1) (nest := nest) (by push_cast at h1; omega) h2 (by omega) (by omega) (by omega) z5 z4 hm ks1.length 0 m (headN s1 ks1 l1 ahead) (by omega) (by omega) (by rw [headN_eq]; omega) (by rw [headN_eq]; omega)
    rw [List.drop_zero, show ((0 : Nat) : Int) = 0 from rfl] at e
    rw [cond_false, cond_false, e]
  · rfl
theorem large_sound {ext : CallF} (hext : SoundCall PR ext) : ∀ k, SoundCall PR (largeC k ext) := by
  refine sound_rec (takes := TK) hmixP hext _ (fn := (PR.funcs[43]?).getD default) (by kernel_rfl) (by kernel_rfl) largeE (fun xs bs out h => ?_) (fun k xs bs out h => ?_)
  · unfold largeE at h
    split at h
    · injection h with h
      injection h with h _
      obtain ⟨h1, h2, h3, _⟩ := decP_of h
      simp at h1
      omega
    · cases h
  · unfold largeE at h
    split at h
    · injection h with h
      injection h with h1 h2
      subst h2
      exact ⟨2001, large_run (decP_of h1) (by omega)⟩
    · cases h
end Go.Proofs.YtckdgcpomkefpaaGreatDoor.En
end
section
set_option linter.unusedVariables false
set_option linter.unusedSimpArgs false
namespace Go.Proofs.YtckdgcpomkefpaaGreatDoor.En
open Go
section
variable (P : Program) (takes : FuncId → Option Nat) (call : CallF)
end
section
variable {P : Program} {F : Fx} {g g' : Gh} {s s' : St} {a a' : Act} {w w' : World} {takes : FuncId → Option Nat} {call : CallF}
theorem Inv.still (h : Inv P F g s a w) (hw : Fr (fun _ _ => False) w w') : Inv P F g s a w' := by
  have hle : g.Le g w w' := ⟨fun β j hj => ⟨hj, hw.cell (h.mem.gsz β j hj) fun t => t⟩, fun n v hv => hv, fun d β hd => hd⟩
  have same : ∀ β, β < w.heap.size → w'.heap[β]? = w.heap[β]? := fun β hβ => hw.same hβ fun _ t => t
  refine ⟨⟨fun β j hj => Nat.lt_of_lt_of_le (h.mem.gsz β j hj) hw.size, fun d cs hd => ?_, h.mem.apart, fun n v E hn => ?_, h.mem.tkap, h.mem.tkbx⟩, h.blen, h.len, fun i x hi => ?_, h.dfr, h.fr.trans hw (fun _ _ _ t => t) (fun _ _ _ t => t.elim), h.g0, h.gfr, h.tb, h.bb, h.pbx⟩
  · obtain ⟨β, us, T, e1, e2, e3, e4, e5⟩ := h.mem.box d cs hd
    have hlt := (Array.getElem?_eq_some_iff.1 e2).1
    exact ⟨β, us, T, e1, (same β hlt).trans e2, e3, e4, fun j c hc => let ⟨u, hu, hr⟩ := e5 j c hc; ⟨u, hu, hr.mono hle⟩⟩
  · exact (h.mem.own n v E hn).keep fun β hβ => ⟨same β ((h.mem.own n v E hn).lt hβ), fun j hj => hj⟩
  · obtain ⟨v, h1, h2⟩ := h.tm i x hi
    exact ⟨v, h1, h2.mono hle⟩
end
end Go.Proofs.YtckdgcpomkefpaaGreatDoor.En
end
section
namespace Go.Proofs
open Go.Shelf
def Tryz.laysB_ren : Go.Shelf.Ren := ⟨fun | 167 => 71 | 105 => 99 | 212 => 124 | 99 => 103 | 165 => 125 | 166 => 66 | 170 => 46 | 169 => 47 | 263 => 140 | 264 => 141 | 206 => 126 | 240 => 96 | 241 => 142 | 276 => 119 | 277 => 164 | n => n, fun | 9 => 9 | 3 => 3 | 4 => 4 | 20 => 20 | 0 => 0 | 46 => 118 | 109 => 138 | 5 => 5 | 72 => 79 | 76 => 102 | 51 => 156 | 146 => 157 | 53 => 148 | 148 => 159 | 70 => 77 | 37 => 57 | 75 => 101 | 127 => 108 | 164 => 129 | 80 => 82 | n => n, fun | n => n⟩
theorem Tryz.laysB : Go.Proofs.Lays.n167 Tryz.prog Tryz.laysB_ren := {
  mixed := by kernel_rfl
  f167 := Tryz.func71.trans (congrArg some (by kernel_rfl))
  f240 := Tryz.func96.trans (congrArg some (by kernel_rfl))
  f276 := Tryz.func119.trans (congrArg some (by kernel_rfl))
  t0 := Tryz.underlying0
  a0 := Tryz.isAgg0
  z0 := Tryz.sizeOf0
  v0 := Tryz.zeroValue0
  t4 := Tryz.underlying4
  a4 := Tryz.isAgg4
  z4 := Tryz.sizeOf4
  v4 := Tryz.zeroValue4
  t5 := Tryz.underlying5
  a5 := Tryz.isAgg5
  z5 := Tryz.sizeOf5
  v5 := Tryz.zeroValue5
  t9 := Tryz.underlying9
  a9 := Tryz.isAgg9
  z9 := Tryz.sizeOf9
  v9 := Tryz.zeroValue9
  t20 := Tryz.underlying20
  a20 := Tryz.isAgg20
  z20 := Tryz.sizeOf20
  v20 := Tryz.zeroValue20
  t37 := Tryz.underlying57
  a37 := Tryz.isAgg57
  z37 := Tryz.sizeOf57
  v37 := Tryz.zeroValue57
  t70 := Tryz.underlying77
  a70 := Tryz.isAgg77
  z70 := Tryz.sizeOf77
  v70 := Tryz.zeroValue77
  t72 := Tryz.underlying79
  a72 := Tryz.isAgg79
  z72 := Tryz.sizeOf79
  v72 := Tryz.zeroValue79
  t75 := Tryz.underlying101
  a75 := Tryz.isAgg101
  z75 := Tryz.sizeOf101
  v75 := Tryz.zeroValue101
  t164 := Tryz.underlying129
  a164 := Tryz.isAgg129
  z164 := Tryz.sizeOf129
  v164 := Tryz.zeroValue129 }
theorem Tryz.Builder_Extra_B : Builder.Extra Tryz.prog Tryz.laysB_ren := {
  sizeBuilder := by kernel_rfl
  liesBuilder := by kernel_rfl
  t5 := Tryz.underlying5
  a5 := Tryz.isAgg5
  z5 := Tryz.sizeOf5
  v5 := Tryz.zeroValue5
  infoByte := by kernel_rfl
  cellsByte := by kernel_rfl
  sizeByte := by kernel_rfl
  neB5 := by decide }
end Go.Proofs
end
section
set_option linter.unusedVariables false
set_option linter.unusedSimpArgs false
namespace Go.Proofs.YtckdgcpomkefpaaGreatDoor.En
open Go Go.Shelf Go.RowKit
section
variable {P : Program} {ext call : CallF} {g g' : Gh} {w w' : World} {b bs : Bx}
theorem sound_ext (hext : SoundCall P ext) (f : FuncId) {fn : Func} (hf : P.funcs[f]? = some fn) (hok : (fn.body.isSome && !(fn.name == "runtime.NumGoroutine")) = true) (ent : List AV → Bx → Option (Bool × Out))
    (h : ∀ xs bs out, ent xs bs = some (true, out) → ∀ (g : Gh) (w : World) (vs : Array Value), Mem P g w bs → Laid g w → bs.length = xs.length → vs.size = xs.length →
      (∀ (i : Nat) x, xs[i]? = some x → ∃ v, vs[i]? = some v ∧ RepS P g w x v) → Calls P f vs w (PostOf P g w bs out)) : SoundCall P (addF f ent ext) := fun k xs bs out ho => by
  unfold addF at ho
  cases hg : Nat.beq k f <;> rw [hg] at ho <;> simp only [cond_true, cond_false] at ho
  · exact hext k xs bs out ho
  · have e : k = f := Nat.eq_of_beq_eq_true hg
    subst e
    rw [Bool.and_eq_true, Bool.not_eq_true'] at hok
    refine ⟨⟨fn, hf, hok.1, hok.2⟩, fun gh w vs a1 aL a2 a3 a4 => ?_⟩
    have := h xs bs out ho gh w vs a1 aL a2 a3 a4
    cases out <;> exact this
theorem args_v (l : List Value) {vs : Array Value} (hv : vs.size = (l.map AV.v).length) (hr : ∀ (i : Nat) x, (l.map AV.v)[i]? = some x → ∃ v, vs[i]? = some v ∧ RepS P g w x v) : vs = l.toArray := by
  apply Array.ext_getElem?
  intro i
  cases hi : l[i]? with
  | none =>
    have : l.length ≤ i := List.getElem?_eq_none_iff.1 hi
    rw [Array.getElem?_eq_none (by simp at hv; omega), Array.getElem?_eq_none (by simpa using this)]
  | some x =>
    obtain ⟨v, h1, h2⟩ := hr i (.v x) (by rw [List.getElem?_map, hi]; rfl)
    obtain ⟨rfl, _⟩ := (show v = x ∧ _ from h2)
    rw [h1]; simp [hi]
theorem Mem.still (h : Mem P g w b) (hw : Fr (fun _ _ => False) w w') : Mem P g w' b := by
  have hle : g.Le g w w' := ⟨fun β j hj => ⟨hj, hw.cell (h.gsz β j hj) fun t => t⟩, fun n v hv => hv, fun d β hd => hd⟩
  have same : ∀ β, β < w.heap.size → w'.heap[β]? = w.heap[β]? := fun β hβ => hw.same hβ fun _ t => t
  refine ⟨fun β j hj => Nat.lt_of_lt_of_le (h.gsz β j hj) hw.size, fun d cs hd => ?_, h.apart, fun n v E hn => ?_, h.tkap, h.tkbx⟩
  · obtain ⟨β, us, T, e1, e2, e3, e4, e5⟩ := h.box d cs hd
    have hlt := (Array.getElem?_eq_some_iff.1 e2).1
    exact ⟨β, us, T, e1, (same β hlt).trans e2, e3, e4, fun j c hc => let ⟨u, hu, hr⟩ := e5 j c hc; ⟨u, hu, hr.mono hle⟩⟩
  · exact (h.own n v E hn).keep fun β hβ => ⟨same β ((h.own n v E hn).lt hβ), fun j hj => hj⟩
theorem post_v (hm : Mem P g w bs) (hb : ∀ x ∈ bs, x = none) {x : Value} (hx : x.oneCell' = true) (hw : Fr (fun _ _ => False) w w') : PostOf P g w bs (.ret (.v x) bs) (.returned x) w' := by
  have hn : ∀ (d : Nat) cs, bs[d]? = some (some cs) → False := fun d cs h => by have := hb _ (List.mem_of_getElem? h); cases this
  exact ⟨x, g, rfl, hm.still hw, rfl, fun i cs h => ⟨cs, h⟩, ⟨rfl, hx⟩, hw.mono fun _ _ _ t => t.elim, fun _ _ h => h, fun β j h _ => .inl h, fun n y E β h1 h2 => .inr ⟨n, y, E, h1, h2⟩, fun i cs h => rfl, fun i j m cs E l h => (hn i cs h).elim, trivial, trivial⟩
end
def ixE : List AV → Bx → Option (Bool × Out)
  | [.v (.string s), .v (.int .u8 c)], [none, none] => some (true, .ret (I (Lib.indexByte s.data.toList c.toNat.toUInt8)) [none, none])
  | _, _ => none
theorem ix_sound {ext : CallF} (hext : SoundCall PR ext) : SoundCall PR (addF 95 ixE ext) := by
  refine sound_ext hext _ (fn := (PR.funcs[95]?).getD default) (by kernel_rfl) (by kernel_rfl) ixE fun xs bs out h g w vs hm hL hl hv hr => ?_
  unfold ixE at h
  split at h
  · rename_i s c
    cases h
    obtain rfl := args_v (P := PR) [.string s, .int .u8 c] hv hr
    refine (Tryz.strings_IndexByte s c w).mono fun e w' he => ?_
    obtain ⟨rfl, rfl⟩ := he
    exact post_v hm (by simp) rfl (Fr.refl _ _)
  · cases h
def digF : Nat → Nat → List UInt8
  | 0, _ => []
  | k + 1, u => bif Nat.blt u 10 then [UInt8.ofNat (48 + u)] else digF k (u / 10) ++ [UInt8.ofNat (48 + u % 10)]
theorem digF_eq : ∀ (k u : Nat), u < 10 ^ (k + 1) → digF (k + 1) u = Lib.decDigits u
  | k, u, h => by
    rw [Lib.decDigits]
    unfold digF
    cases hb : Nat.blt u 10
    · have : ¬ u < 10 := fun e => by have : Nat.blt u 10 = true := Nat.ble_eq_true_of_le e; rw [hb] at this; cases this
      rw [dif_neg this]
      cases k with
      | zero => omega
      | succ k => rw [← digF_eq k (u / 10) (by rw [Nat.pow_succ] at h; omega)]; rfl
    · have : u < 10 := Nat.le_of_ble_eq_true hb
      rw [dif_pos this]; rfl
def itoaF (n : Int) : List UInt8 := bif decide (n < 0) then 45 :: digF 20 n.natAbs else digF 20 n.toNat
def itoaE : List AV → Bx → Option (Bool × Out)
  | [.v (.int .i64 n)], [none] => some (decide (-9223372036854775808 ≤ n) && decide (n ≤ 9223372036854775807), .ret (S ⟨(itoaF n).toArray⟩) [none])
  | _, _ => none
theorem itoaF_eq {n : Int} (h0 : -9223372036854775808 ≤ n) (h1 : n ≤ 9223372036854775807) : itoaF n = Lib.itoa n := by
  unfold itoaF Lib.itoa
  by_cases h : n < 0
  · rw [if_pos h, decide_eq_true h, digF_eq 19 n.natAbs (by omega)]; rfl
  · rw [if_neg h, decide_eq_false h, digF_eq 19 n.toNat (by omega)]; rfl
theorem itoa_sound {ext : CallF} (hext : SoundCall PR ext) : SoundCall PR (addF 58 itoaE ext) := by
  refine sound_ext hext _ (fn := (PR.funcs[58]?).getD default) (by kernel_rfl) (by kernel_rfl) itoaE fun xs bs out h g w vs hm hL hl hv hr => ?_
  unfold itoaE at h
  split at h
  · rename_i n
    injection h with h
    injection h with hc h
    subst h
    rw [Bool.and_eq_true, decide_eq_true_eq, decide_eq_true_eq] at hc
    obtain rfl := args_v (P := PR) [.int .i64 n] hv hr
    rw [itoaF_eq hc.1 hc.2]
    refine (Tryz.strconv_Itoa n hc.1 hc.2 w hL.P.pow).mono fun e w' he => ?_
    obtain ⟨rfl, k, os, rfl⟩ := he
    refine post_v hm (by simp) rfl (Fr.of_below (B := w.heap.size) ⟨rfl, rfl, rfl, by show w.heap.size ≤ (w.heap ++ os).size; simp, fun i hi => ?_⟩ (Nat.le_refl _))
    show (w.heap ++ os)[i]? = w.heap[i]?
    rw [Array.getElem?_append_left hi]
  · cases h
def tokOk : Option Nat → Bool | none => true | some m => Nat.beq m (sub 0 1)
theorem tokOk_eq {t : Option Nat} (h : tokOk t = true) {m : Nat} (e : t = some m) : m = sub 0 1 := by
  subst e
  exact Nat.eq_of_beq_eq_true h
def ccE : List AV → Bx → Option (Bool × Out)
  | [.box 0 0], [some [.self T, .row t E l]] => bif Nat.beq T 79 && tokOk t then some (true, .ret (.tup []) [some [.self T, .row t E l]]) else none
  | _, _ => none
theorem one_box {P : Program} {g : Gh} {w : World} {cs : List AV} (hm : Mem P g w [some cs]) {vs : Array Value} (hv : vs.size = 1) (hr : ∀ (i : Nat) x, [AV.box 0 0][i]? = some x → ∃ v, vs[i]? = some v ∧ RepS P g w x v) :
    ∃ (β : Nat) (us : Array Value) (T : TypeId), g.bx 0 = some β ∧ vs = #[.pointer (some ⟨β, 0, none⟩)] ∧ w.heap[β]? = some (.cells us T (0, 0)) ∧ us.size = cs.length ∧ (∀ j, ¬ g.G β j) ∧ ∀ (j : Nat) c, cs[j]? = some c → ∃ u, us[j]? = some u ∧ RepB P g w T β j c u := by
  obtain ⟨β, us, T, e1, e2, e3, e4, e5⟩ := hm.box 0 cs rfl
  refine ⟨β, us, T, e1, ?_, e2, e3, e4, e5⟩
  obtain ⟨v, h1, h2⟩ := hr 0 _ rfl
  obtain ⟨β', h3, rfl⟩ := (show ∃ β, g.bx 0 = some β ∧ v = .pointer (some ⟨β, 0, none⟩) from h2)
  rw [e1] at h3
  cases h3
  apply Array.ext_getElem?
  intro i
  match i with
  | 0 => exact h1
  | i + 1 => rw [Array.getElem?_eq_none (by omega), Array.getElem?_eq_none (by simp)]
theorem cc_sound {ext : CallF} (hext : SoundCall PR ext) : SoundCall PR (addF 96 ccE ext) := by
  refine sound_ext hext _ (fn := (PR.funcs[96]?).getD default) (by kernel_rfl) (by kernel_rfl) ccE fun xs bs out h g w vs hm hL hl hv hr => ?_
  unfold ccE at h
  split at h
  · rename_i T t E l
    obtain ⟨hc, h⟩ := bif_some h
    cases h
    rw [Bool.and_eq_true] at hc
    obtain ⟨β, us, T', e1, rfl, e2, e3, e4, e5⟩ := one_box hm hv hr
    obtain ⟨u0, hu0, hT, hs⟩ := e5 0 _ rfl
    obtain ⟨u1, hu1, hrow⟩ := e5 1 _ rfl
    have hT' : T' = 79 := by rw [← hT]; exact Nat.eq_of_beq_eq_true hc.1
    subst hT'
    have hcell : w.cell? ⟨β, 0, none⟩ = some u0 := by simp [World.cell?, e2, hu0]
    have canon : ∀ (i j m : Nat) cs E' l', [some [AV.self T, .row t E l]][i]? = some (some cs) → cs[j]? = some (.row (some m) E' l') → m = sub i j := fun i j m cs E' l' hi hj => by
      match i, hi with
      | 0, hi =>
        cases hi
        match j, hj with
        | 0, hj => cases hj
        | 1, hj => cases hj; exact tokOk_eq hc.2 rfl
    rcases hs with rfl | rfl
    · refine (Any.Builder_copyCheck_fresh (ρ := Tryz.laysB_ren) { Tryz.laysB with } Tryz.Builder_Extra_B.toX72 β w hcell (by show w.shape? β = some (79, 2); simp [World.shape?, e2, e3]) (by simp [World.frozen?, e2])).mono fun e w' he => ?_
      obtain ⟨rfl, rfl⟩ := he
      have hβ := (Array.getElem?_eq_some_iff.1 e2).1
      have hnew : (w.setCell ⟨β, 0, none⟩ (.pointer (some ⟨β, 0, none⟩))).heap[β]? = some (.cells (us.setIfInBounds 0 (.pointer (some ⟨β, 0, none⟩))) 79 (0, 0)) := by
        simp [World.setCell, Array.getElem?_modify, e2]
      have hold : ∀ k, k ≠ β → (w.setCell ⟨β, 0, none⟩ (.pointer (some ⟨β, 0, none⟩))).heap[k]? = w.heap[k]? := fun k hk => by
        simp only [World.setCell, Array.getElem?_modify]
        rw [if_neg (fun e => hk e.symm)]
      have hle : g.Le g w (w.setCell ⟨β, 0, none⟩ (.pointer (some ⟨β, 0, none⟩))) := ⟨fun k j hj => ⟨hj, World.cell?_of_block (a := ⟨k, j, none⟩) (hold k fun e => e4 j (e ▸ hj))⟩, fun n v hv => hv, fun d k hd => hd⟩
      refine ⟨_, g, rfl, ⟨fun k j hj => ?_, fun d cs hd => ?_, hm.apart, fun n v E' hn => ?_, hm.tkap, hm.tkbx⟩, rfl, fun i cs h => ⟨cs, h⟩, ?_, ⟨rfl, rfl, rfl, ?_, fun k o ho => ?_⟩, fun _ _ h => h, fun k j h _ => .inl h, fun n y E' k h1 h2 => .inr ⟨n, y, E', h1, h2⟩, fun i cs h => rfl, canon, ?_, fun j m E l h => by simp at h⟩
      · have := hm.gsz k j hj; simpa [World.setCell] using this
      · match d, hd with
        | 0, hd =>
          cases hd
          refine ⟨β, _, _, e1, hnew, by simpa using e3, e4, fun j c hj => ?_⟩
          match j, hj with
          | 0, hj => cases hj; exact ⟨.pointer (some ⟨β, 0, none⟩), by simp [Array.getElem?_setIfInBounds, e3], hT, .inr rfl⟩
          | 1, hj => cases hj; exact ⟨u1, by simpa [Array.getElem?_setIfInBounds] using hu1, hrow.mono hle⟩
      · exact (hm.own n v E' hn).keep fun k hk => ⟨hold k fun e => hm.tkbx n v E' k 0 _ hn hk rfl (e ▸ e1), fun j hj => hj⟩
      · exact ⟨#[], rfl, rfl, fun j x hj => by simp at hj⟩
      · simp [World.setCell]
      · by_cases hk : k = β
        · subst hk
          rw [e2] at ho
          cases ho
          exact .inr ⟨us, _, (0, 0), _, (0, 0), rfl, hnew, by simp, fun j hj => absurd (.inl ⟨0, _, rfl, e1⟩) hj, fun _ => rfl⟩
        · exact .inl ((hold k hk).trans ho)
      · exact ⟨fun j d o => by simp, fun j f a b => by simp, fun j cs h => by simp at h, fun j j' m E l E' l' h => by simp at h⟩
    · refine (Any.Builder_copyCheck_used (ρ := Tryz.laysB_ren) { Tryz.laysB with } Tryz.Builder_Extra_B.toX72 β w hcell).mono fun e w' he => ?_
      obtain ⟨rfl, rfl⟩ := he
      refine ⟨_, g, rfl, hm, rfl, fun i cs h => ⟨cs, h⟩, ⟨#[], rfl, rfl, fun j x hj => by simp at hj⟩, (Fr.refl _ _), fun _ _ h => h, fun k j h _ => .inl h, fun n y E' k h1 h2 => .inr ⟨n, y, E', h1, h2⟩, fun i cs h => rfl, canon, ?_, fun j m E l h => by simp at h⟩
      exact ⟨fun j d o => by simp, fun j f a b => by simp, fun j cs h => by simp at h, fun j j' m E l E' l' h => by simp at h⟩
  · cases h
set_option maxHeartbeats 1000000 in
theorem str_walk {P : Program} {ρ : Ren} (L : Lays.n169 P ρ) (X : Builder.Extra P ρ) (b g cap : Nat) (cur : Array Value) (l : List UInt8) (h0 : l ≠ []) (w : World) (hb : w.cell? ⟨b, 1, none⟩ = some (.slice (some ⟨g, 0, none⟩) l.length cap)) (hcap : l.length ≤ cap) {fz : Nat × Nat} (hg : w.heap[g]? = some (.cells cur (ρ.t 5) fz))
    (hsz : l.length ≤ cur.size) (h63 : l.length ≤ 9223372036854775807) (hcell : ∀ (j : Nat) x, l[j]? = some x → w.cell? ⟨g, j, none⟩ = some (.int .u8 x.toNat)) :
    Calls P (ρ.f 169) #[.pointer (some ⟨b, 0, none⟩)] w fun e w' => e = .returned (.string ⟨l.toArray⟩) ∧ w' = w.drew.freeze ⟨g, 0, none⟩ l.length := by
  have hl0 : l.length ≠ 0 := by simpa using h0
  have c1 : w.drew.cell? ⟨b, 1, none⟩ = some (.slice (some ⟨g, 0, none⟩) l.length cap) := hb
  have hSD : (Builtin.unsafeSliceData_ #[(ρ.t 37)] (ρ.t 127) #[.slice (some ⟨g, 0, none⟩) l.length cap]).run P w.drew = .ok (.pointer (some ⟨g, 0, none⟩)) w.drew :=
    Lib.run_unsafeSliceData_row _ _ _ _ _ _ (by omega)
  have hUS : (Builtin.unsafeString_ #[(ρ.t 127), (ρ.t 3)] (ρ.t 9) #[.pointer (some ⟨g, 0, none⟩), .int .i64 l.length]).run P w.drew = .ok (.string ⟨l.toArray⟩) (w.drew.freeze ⟨g, 0, none⟩ l.length) := by
    refine Lib.run_unsafeString_row w.drew (ρ.t 127) (ρ.t 3) (ρ.t 9) (ρ.t 5) L.t127 X.cellsByte g cur.size (by have hg' : w.drew.heap[g]? = some (.cells cur (ρ.t 5) fz) := hg; simp [World.shape?, hg']) l h0 hsz h63 ?_
    intro j x hx
    have e : (⟨g, 0, none⟩ : Addr).add j = ⟨g, j, none⟩ := by
      by_cases hj : j = 0
      · subst hj; simp [Addr.add]
      · simp [Addr.add, hj]
    rw [e]
    exact hcell j x hx
  clear hcap hb hcell h63 hsz
  have mixed := L.mixed
  have t72 := L.t72; have a72 := L.a72; have z72 := L.z72; have v72 := L.v72; have u72 := run_underlying L.t72
  have t70 := L.t70; have a70 := L.a70; have z70 := L.z70; have v70 := L.v70; have u70 := run_underlying L.t70
  have t37 := L.t37; have a37 := L.a37; have z37 := L.z37; have v37 := L.v37; have u37 := run_underlying L.t37
  have t127 := L.t127; have a127 := L.a127; have z127 := L.z127; have v127 := L.v127; have u127 := run_underlying L.t127
  have t3 := L.t3; have a3 := L.a3; have z3 := L.z3; have v3 := L.v3; have u3 := run_underlying L.t3
  have t9 := L.t9; have a9 := L.a9; have z9 := L.z9; have v9 := L.v9; have u9 := run_underlying L.t9
  have t5 := X.t5; have a5 := X.a5; have z5 := X.z5; have v5 := X.v5; have u5 := run_underlying X.t5
  go_enter L.f169, Body.n169_ntmps ρ
  go_wp2
  go_region_o
  all_goals (go_wp2; go_ret; exact ⟨rfl, rfl⟩)
def bytesOk (l : List Dat) : Bool := l.all fun d => decide (0 ≤ (d.at 0).toI) && decide ((d.at 0).toI < 256)
def strE : List AV → Bx → Option (Bool × Out)
  | [.box 0 0], [some [.self T, .row (some m) E l]] => bif Nat.beq m (sub 0 1) && Nat.beq E 5 then some (bytesOk l && (Nat.blt 0 l.length && Nat.ble l.length 9223372036854775807), .ret (S (bytesOf l)) [some [.self T, .row none E l]]) else none
  | _, _ => none
theorem kinds_u8 : kinds PR 5 = some [.int .u8] := by kernel_rfl
theorem str_sound {ext : CallF} (hext : SoundCall PR ext) : SoundCall PR (addF 47 strE ext) := by
  refine sound_ext hext _ (fn := (PR.funcs[47]?).getD default) (by kernel_rfl) (by kernel_rfl) strE fun xs bs out h g w vs hm hL hl hv hr => ?_
  unfold strE at h
  split at h
  · rename_i T m E l
    obtain ⟨hc, h⟩ := bif_some h
    injection h with h
    injection h with hd h
    subst h
    rw [Bool.and_eq_true] at hc
    have hm1 := Nat.eq_of_beq_eq_true hc.1
    have hE := Nat.eq_of_beq_eq_true hc.2
    subst hm1 hE
    simp only [Bool.and_eq_true] at hd
    obtain ⟨hby, hpos, h63⟩ := hd
    have hpos : 0 < l.length := Nat.le_of_ble_eq_true hpos
    have h63 : l.length ≤ 9223372036854775807 := Nat.le_of_ble_eq_true h63
    obtain ⟨β, us, T', e1, rfl, e2, e3, e4, e5⟩ := one_box hm hv hr
    obtain ⟨u0, hu0, hself⟩ := e5 0 _ rfl
    obtain ⟨u1, hu1, hrow, htk⟩ := e5 1 _ rfl
    have htok := htk _ rfl
    have hcell : w.cell? ⟨β, 1, none⟩ = some u1 := by simp [World.cell?, e2, hu1]
    obtain ⟨A, cap0, hsl⟩ := hrow.slice
    rcases hm.own _ _ _ htok with hn | ⟨β2, n, cap, cur, ks, fz, hv2, hblk, hks, hncap, hcm, hcur, hfree, _⟩
    · rw [hn] at hsl
      injection hsl with _ hz _
      omega
    rw [kinds_u8] at hks
    cases hks
    have hne : β2 ≠ β := fun e => hm.tkbx _ _ _ β 0 _ htok (by rw [hv2, e]; rfl) rfl e1
    have hnl : n = l.length := by rw [hv2] at hsl; injection hsl with _ hz _
    subst hnl
    let bl : List UInt8 := l.map fun d => UInt8.ofNat (d.at 0).toI.toNat
    have hbl : bl.length = l.length := by simp [bl]
    have hcells : ∀ (j : Nat) x, bl[j]? = some x → w.cell? ⟨β2, j, none⟩ = some (.int .u8 x.toNat) := fun j x hx => by
      obtain ⟨d, hd, rfl⟩ := Option.map_eq_some_iff.1 ((List.getElem?_map ..).symm.trans hx)
      have hjl := (List.getElem?_eq_some_iff.1 hd).1
      rw [hv2] at hrow
      cases hrow with
      | nil => simp at hjl
      | mk _ _ _ off cap' ks vals hk hlen hcc hss hrr =>
        rw [kinds_u8] at hk
        cases hk
        obtain ⟨c1, c2, c3⟩ := hcc j 0 hjl (by simp)
        have hsc := hss j 0 d (.int .u8) hd rfl
        have : vals j 0 = .int .u8 (d.at 0).toI := hsc
        rw [this] at c2
        have hb := List.all_eq_true.1 hby d (List.mem_of_getElem? hd)
        rw [Bool.and_eq_true, decide_eq_true_eq, decide_eq_true_eq] at hb
        have e : ((UInt8.ofNat (d.at 0).toI.toNat).toNat : Int) = (d.at 0).toI := by
          rw [UInt8.toNat_ofNat_of_lt' (by show (d.at 0).toI.toNat < 256; omega)]
          omega
        rw [e]
        simpa using c2
    have hw := str_walk Tryz.lays169 Tryz.Builder_Extra_169 β β2 cap cur bl (by intro e; rw [e] at hbl; simp at hbl; omega) w (by rw [hcell, hv2, hbl]) (by omega) hblk (by rw [hbl]; simp at hcur; omega) (by omega) hcells
    refine hw.mono fun e w' he => ?_
    obtain ⟨rfl, rfl⟩ := he
    have hheap : ∀ k, (w.drew.freeze ⟨β2, 0, none⟩ bl.length).heap[k]? = if k = β2 then some (.cells cur 5 (if fz.1 == fz.2 then (0, 0 + bl.length) else (min fz.1 0, max fz.2 (0 + bl.length)))) else w.heap[k]? := fun k => by
      have hz : bl.length ≠ 0 := by omega
      unfold World.freeze
      rw [if_neg hz]
      show (w.heap.modify β2 _)[k]? = _
      rw [Array.getElem?_modify]
      by_cases hk : k = β2
      · subst hk
        rw [if_pos rfl, if_pos rfl, hblk]; rfl
      · rw [if_neg (fun e => hk e.symm), if_neg hk]
    have hcl : ∀ k j, (w.drew.freeze ⟨β2, 0, none⟩ bl.length).cell? ⟨k, j, none⟩ = w.cell? ⟨k, j, none⟩ := fun k j => by
      unfold World.cell?
      rw [hheap]
      by_cases hk : k = β2
      · subst hk; rw [if_pos rfl, hblk]
      · rw [if_neg hk]
    have hle : (⟨g.G, fun _ => none, g.bx⟩ : Gh).G = g.G := rfl
    have hsize : (w.drew.freeze ⟨β2, 0, none⟩ bl.length).heap.size = w.heap.size := by
      unfold World.freeze
      split
      · rfl
      · show (w.heap.modify β2 _).size = w.heap.size
        simp
    have hhe : ∀ k, k ≠ β2 → (w.drew.freeze ⟨β2, 0, none⟩ bl.length).heap[k]? = w.heap[k]? := fun k hk => by rw [hheap, if_neg hk]
    refine ⟨_, ⟨g.G, fun _ => none, g.bx⟩, rfl, ⟨fun k j hj => ?_, fun d cs hd => ?_, fun d d' k cs cs' h h' => ?_, fun n v E' hn => (by cases hn), fun n m v v' E E' k h => (by cases h), fun n v E k d cs h => (by cases h)⟩, rfl, fun i cs h => ?_, ⟨?_, rfl⟩, ⟨?_, ?_, ?_, ?_, fun k o ho => ?_⟩, fun _ _ h => h, fun k j h _ => .inl h, fun n y E' k h1 h2 => (by cases h1), fun i cs h => rfl, fun i j m cs E' l' hi hj => ?_, trivial, trivial⟩
    · rw [hsize]; exact hm.gsz k j hj
    · match d, hd with
      | 0, hd =>
        cases hd
        refine ⟨β, us, T', e1, (hhe β (Ne.symm hne)).trans e2, e3, e4, fun j c hj => ?_⟩
        match j, hj with
        | 0, hj => cases hj; exact ⟨u0, hu0, hself⟩
        | 1, hj => cases hj; exact ⟨u1, hu1, hrow.mono fun k j hj => ⟨hj, hcl k j⟩, fun n hn => by cases hn⟩
    · match d, d', h, h' with
      | 0, 0, h, h' => intro _ _; rfl
    · match i, h with
      | 0, h => exact ⟨_, rfl⟩
    · show Value.string ⟨bl.toArray⟩ = Value.string (bytesOf l)
      rfl
    · unfold World.freeze; split <;> rfl
    · unfold World.freeze; split <;> rfl
    · unfold World.freeze; split <;> rfl
    · rw [hsize]; exact Nat.le_refl _
    · by_cases hk : k = β2
      · subst hk
        rw [hblk] at ho
        cases ho
        refine .inr ⟨cur, _, fz, cur, _, rfl, (hheap k).trans (if_pos rfl), rfl, fun _ _ => rfl, fun hn => ?_⟩
        exact absurd (.inr ⟨⟨_, _, _, htok, by rw [hv2]; rfl⟩, hfree l.length (by simp)⟩) (hn l.length)
      · exact .inl ((hhe k hk).trans ho)
    · match i, hi with
      | 0, hi =>
        cases hi
        match j, hj with
        | 0, hj => cases hj
        | 1, hj => cases hj
  · cases h
end Go.Proofs.YtckdgcpomkefpaaGreatDoor.En
end
section
set_option linter.unusedVariables false
set_option linter.unusedSimpArgs false
set_option maxRecDepth 100000
namespace Go.Proofs.YtckdgcpomkefpaaGreatDoor.En
open Go
theorem itemsN_all {f : Dat → Int → Int} : ∀ (l : List Dat) (n : Int), 0 ≤ itemsN f l n → ∀ d ∈ l, ∃ n', 0 ≤ n' ∧ 0 ≤ f d n'
  | [], n, _, d, hd => by cases hd
  | e :: l, n, h, d, hd => by
    have h' : 0 ≤ (bif decide (n ≥ 0) then itemsN f l (f e n) else n) := h
    by_cases hn : n ≥ 0
    · rw [decide_eq_true hn] at h'
      rcases List.mem_cons.1 hd with rfl | hd
      · refine ⟨n, hn, ?_⟩
        rcases Int.lt_or_le (f d n) 0 with hneg | hpos
        · have : itemsN f l (f d n) = f d n ∨ l = [] := by
            cases l with
            | nil => exact .inr rfl
            | cons a l =>
              left
              show (bif decide (f d n ≥ 0) then _ else _) = _
              rw [decide_eq_false (by omega)]; rfl
          rcases this with e | e
          · rw [cond_true, e] at h'; exact h'
          · subst e; exact h'
        · exact hpos
      · exact itemsN_all l _ h' d hd
    · rw [decide_eq_false hn, cond_false] at h'
      exact absurd h' hn
theorem large_fit : ∀ (j k : Nat) (d : Dat) (nest ahead : Int), nest + j = 101 → 0 ≤ nest → 0 ≤ ahead → 0 ≤ largeO k d nest ahead → 0 < j ∧ fitO j (d.at 4).toL (d.at 5).toL
  | j, 0, d, nest, ahead, _, _, _, h => by simp [largeO] at h
  | 0, k + 1, d, nest, ahead, hj, _, ha, h => by
    unfold largeO at h
    rw [show decide (nest > 100) = true from decide_eq_true (by simp at hj; omega), Bool.or_true] at h
    simp at h
  | j + 1, k + 1, d, nest, ahead, hj, hn, ha, h => by
    unfold largeO at h
    cases hc : decide (headN (d.at 3).toS (d.at 4).toL (d.at 5).toL ahead > 2000) || decide (nest > 100)
    · rw [hc, cond_false] at h
      rw [Bool.or_eq_false_iff] at hc
      have c1 := of_decide_eq_false hc.1
      rw [headN_eq] at c1
      refine ⟨by omega, by omega, by omega, fun e he => ?_⟩
      obtain ⟨n', h1, h2⟩ := itemsN_all _ _ h e he
      exact (large_fit j k e (nest + 1) n' (by push_cast at hj; omega) (by omega) h1 h2).2
    · rw [hc] at h
      simp at h
theorem keysEq_refl : ∀ l : List Dat, keysEq l l = true
  | [] => rfl
  | d :: l => by rw [keysEq, keysEq_refl l]; simp
theorem sameO_copy : ∀ (k : Nat) (d : Dat), fitO k (d.at 4).toL (d.at 5).toL → sameO k (copyO k d) d = true
  | 0, d, h => h.elim
  | k + 1, d, h => by
    obtain ⟨h1, h2, h3⟩ := h
    have hl : ∀ l : List Dat, (∀ e ∈ l, fitO k (e.at 4).toL (e.at 5).toL) → allEq (sameO k) (l.map (copyO k)) l = true := fun l => by
      induction l with
      | nil => intro _; rfl
      | cons e l ih =>
        intro hl
        rw [List.map_cons, allEq, sameO_copy k e (hl e (by simp)), ih fun x hx => hl x (by simp [hx])]
        rfl
    show (((d.at 0).toI == (d.at 0).toI) && (((d.at 1).toB == (d.at 1).toB) && (((d.at 2).toI == (d.at 2).toI) && (((d.at 3).toS.toList == (d.at 3).toS.toList) && (keysEq (d.at 4).toL (d.at 4).toL && allEq (sameO k) ((d.at 5).toL.map (copyO k)) (d.at 5).toL))))) = true
    rw [hl _ h3, keysEq_refl]
    simp
theorem fitO_copy : ∀ (k : Nat) (d : Dat), fitO k (d.at 4).toL (d.at 5).toL → fitO k ((copyO k d).at 4).toL ((copyO k d).at 5).toL
  | 0, d, h => h
  | k + 1, d, h => by
    obtain ⟨h1, h2, h3⟩ := h
    refine ⟨h1, by show ((d.at 5).toL.map (copyO k)).length ≤ _; rw [List.length_map]; exact h2, fun e he => ?_⟩
    have he' : e ∈ (d.at 5).toL.map (copyO k) := he
    obtain ⟨x, hx, rfl⟩ := List.mem_map.1 he'
    exact fitO_copy k x (h3 x hx)
noncomputable def LargeE : List AV → Bx → Option (Bool × Out)
  | [.agg [.v (.int .i64 k1), .v (.bool b1), .v (.int .i64 n1), .v (.string s1), .row none 9 ks1, .row none 43 l1]], [none] =>
    some (zB 102 s1 ks1 l1 0 0, .ret (B (decide (largeO 102 (mkO k1 n1 b1 s1 ks1 l1) 0 0 < 0))) [none])
  | _, _ => none
theorem Large_0 (ext : CallF) (m : Nat) (k1 n1 : Int) (b1 : Bool) (s1 : ByteArray) (ks1 l1 : List Dat) : evFn PR TK (largeC 102 ext) m 22 [.agg (obA k1 n1 b1 s1 ks1 l1)] [none] =
  bif zB 102 s1 ks1 l1 0 0 then some (.ret (B (decide (largeO 102 (mkO k1 n1 b1 s1 ks1 l1) 0 0 < 0))) [none]) else none := by kernel_rfl
theorem Large_sound : SoundCall PR (addF 22 LargeE (largeC 102 fun _ _ _ => none)) := by
  refine sound_add (takes := TK) hmixP (large_sound sound_none 102) _ (fn := (PR.funcs[22]?).getD default) (by kernel_rfl) (by kernel_rfl) LargeE fun xs bs out h => ?_
  unfold LargeE at h
  split at h
  · injection h with h
    injection h with h1 h2
    subst h2
    refine ⟨1, (Large_0 _ _ _ _ _ _ _ _).trans ?_⟩
    rw [h1]; rfl
  · cases h
theorem sound_both {f : FuncId} {ent : List AV → Bx → Option (Bool × Out)} {a b : CallF} (ha : SoundCall PR (addF f ent a)) (hb : SoundCall PR b) : SoundCall PR (addF f ent b) := fun g xs bs out ho => by
  unfold addF at ho
  cases hg : Nat.beq g f <;> rw [hg] at ho <;> simp only [cond_true, cond_false] at ho
  · exact hb g xs bs out ho
  · refine ha g xs bs out ?_
    unfold addF
    rw [hg]; exact ho
section
variable (m : Nat) (k1 n1 : Int) (b1 : Bool) (s1 key : ByteArray) (ks1 l1 : List Dat)
end
end Go.Proofs.YtckdgcpomkefpaaGreatDoor.En
end
