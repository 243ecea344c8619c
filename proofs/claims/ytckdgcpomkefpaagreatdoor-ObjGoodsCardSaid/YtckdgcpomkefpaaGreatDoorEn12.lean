/- Steps and plain runs; what they say of a region. -/
import Derived.Test.YtckdgcpomkefpaaGreatDoorEn11
set_option linter.unusedVariables false
set_option linter.unusedSimpArgs false
namespace Go.Proofs.YtckdgcpomkefpaaGreatDoor.En
open Go
theorem pureK_eq {β : Type} (op : BinOp) (x y : Value) (k : Value → Option β) : pureK op x y k = (pureOp op x y).bind k := by
  cases x <;> cases y <;> first | rfl | skip
  case int.int i a j b =>
    cases op <;> first | rfl | skip
    · unfold pureK pureOp; dsimp only; split <;> first | rfl | (cases decide (b = 0) <;> rfl)
    · unfold pureK pureOp; dsimp only; split <;> first | rfl | (cases decide (b = 0) <;> rfl)
    · unfold pureK pureOp; dsimp only; cases decide (b < 0) <;> rfl
    · unfold pureK pureOp; dsimp only; cases decide (b < 0) <;> rfl
  case string.string a b =>
    cases op <;> first | rfl | skip
    unfold pureK pureOp; dsimp only
    cases decide (a.size + b.size ≤ 4611686018427387904) <;> rfl
theorem bif_bind {α β : Type} (c : Bool) (x : Option α) (k : α → Option β) : (bif c then x else none).bind k = bif c then x.bind k else none := by cases c <;> rfl
theorem rhsK_eq {β : Type} (P : Program) (o : Oper) (s : St) (k : AV → Option β) : rhsK P o s k = (rhs P o s).bind k := by
  obtain ⟨dst, op, ty, pos, after, guard⟩ := o
  cases op <;> first | rfl | skip
  case binOp op T x y z =>
    unfold rhsK rhs
    dsimp only
    split
    · rename_i a b _ _
      rw [bif_bind, pureK_eq]
      cases pureOp op a b <;> rfl
    · rfl
  case slice T x lo hi mx =>
    cases mx with
    | some _ => rfl
    | none =>
      unfold rhsK rhs
      dsimp only
      split
      · simp only [Option.bind_assoc, bif_bind, Option.bind_some]
      · simp only [Option.bind_assoc, bif_bind, Option.bind_some]
      · rfl
  case indexAddr T x i =>
    unfold rhsK rhs
    dsimp only
    split
    · simp only [Option.bind_assoc, bif_bind, Option.bind_some]
    · rfl
  case index T x i =>
    unfold rhsK rhs
    dsimp only
    split
    · simp only [Option.bind_assoc, bif_bind, Option.bind_some]
    · rfl
theorem evOp_def {P : Program} {np : Nat} {dr : Bool} {takes : FuncId → Option Nat} {call : CallF} {β : Type} (thr : Value → Option β) (o : Oper) (s : St) (k : St → Option β) : evOp P np dr takes call thr o s k =
    bif reads P o.op then (rhs P o s).bind fun x => k (s.put o.dst x) else bif dr && bsOp o then (rhsB P o s).bind fun x => k (s.put o.dst x) else evX P np takes call thr o s k := by
  unfold evOp
  rw [rhsK_eq]
section
variable (P : Program) (np : Nat) (dr : Bool) (takes : FuncId → Option Nat) (call : CallF)
def stE (o : Oper) (s : St) : Option (St ⊕ Value) := evOp P np dr takes call (fun v => some (.inr v)) o s (fun s => some (.inl s))
def stO (ops : List Oper) (o : Oper) (s : St) : Option (St ⊕ Value) := (wantB s ops o.guard).bind fun wn => bif wn then stE P np dr takes call o s else some (.inl (s.put o.dst (.tup [])))
def thenR (r : Option (St ⊕ Value)) (k : St → Option (St ⊕ Value)) : Option (St ⊕ Value) := match r with
  | some (.inl s) => k s
  | some (.inr v) => some (.inr v)
  | none => none
def runO (ops : List Oper) : List Oper → St → Option (St ⊕ Value)
  | [], s => some (.inl s)
  | o :: l, s => thenR (stO P np dr takes call ops o s) (runO ops l)
end
def fin {β : Type} (thr : Value → Option β) (k : St → Option β) : Option (St ⊕ Value) → Option β
  | none => none
  | some (.inl s) => k s
  | some (.inr v) => thr v
section
variable {P : Program} {F : Fx} {g : Gh} {s : St} {a : Act} {w : World} {np : Nat} {dr : Bool} {takes : FuncId → Option Nat} {call : CallF}

theorem fin_bind {β α : Type} {thr : Value → Option β} {k : St → Option β} (x : Option α) (f : α → Option (St ⊕ Value)) : fin thr k (x.bind f) = x.bind (fun a => fin thr k (f a)) := by
  cases x <;> rfl
theorem fin_bif {β : Type} {thr : Value → Option β} {k : St → Option β} (c : Bool) (x y : Option (St ⊕ Value)) : fin thr k (bif c then x else y) = bif c then fin thr k x else fin thr k y := by
  cases c <;> rfl
theorem fin_inl {β : Type} {thr : Value → Option β} {k : St → Option β} (s : St) : fin thr k (some (.inl s)) = k s := rfl
theorem fin_inr {β : Type} {thr : Value → Option β} {k : St → Option β} (v : Value) : fin thr k (some (.inr v)) = thr v := rfl
theorem fin_none {β : Type} {thr : Value → Option β} {k : St → Option β} : fin thr k none = none := rfl
theorem evX_st {β : Type} (thr : Value → Option β) (o : Oper) (s : St) (k : St → Option β) : evX P np takes call thr o s k = fin thr k (evX P np takes call (fun v => some (.inr v)) o s (fun s => some (.inl s))) := by
  obtain ⟨dst, op, ty, pos, after, guard⟩ := o
  unfold evX
  simp only [appendK_eq]
  (try dsimp only)
  split
  case h_9 =>
    simp only [fin_bif, fin_bind, fin_none]
    congr 1
    congr 1
    funext p
    congr 1
    congr 1
    funext q
    obtain ⟨qb, r⟩ := q
    cases qb
    · rfl
    · cases r <;> simp only [fin_bind, cond_true] <;> rfl
  all_goals (try simp only [fin_bif, fin_bind, fin_inl, fin_none, fin_inr])
  all_goals (repeat' split)
  all_goals (try simp only [fin_bif, fin_bind, fin_inl, fin_none, fin_inr])
  all_goals (try rfl)
theorem evOp_st {β : Type} (thr : Value → Option β) (o : Oper) (s : St) (k : St → Option β) : evOp P np dr takes call thr o s k = fin thr k (stE P np dr takes call o s) := by
  unfold stE
  simp only [evOp_def]
  cases reads P o.op
  · simp only [cond_false]
    cases dr && bsOp o
    · exact evX_st thr o s k
    · simp only [cond_true, fin_bind, fin_inl]
  · simp only [cond_true, fin_bind, fin_inl]
theorem no_call : SoundCall P (fun _ _ _ => none) := fun f xs bs out h => by cases h
theorem rhsB_sound {o : Oper} (h : Inv P F g s a w) (hok : okOp o = true) {x : AV} (hx : rhsB P o s = some x) {K : Act → World → Prop} {Q : Exit → Act → World → Prop} (hk : ∀ g' a' w', Inv P F g' (s.put o.dst x) a' w' → K a' w') : o.wp P a w K Q := by
  have hev := fun (y : Operand) (hy : y ∈ o.op.operands.toList) => h.ev y (okOp_mem hok hy)
  have hx0 := hx
  obtain ⟨dst, op, ty, pos, after, guard⟩ := o
  unfold rhsB at hx
  dsimp only at hx
  split at hx
  · rename_i T n ps d
    obtain ⟨E, hE, hx⟩ := Option.bind_eq_some_iff.1 hx
    obtain ⟨ks, hks, hx⟩ := Option.bind_eq_some_iff.1 hx
    obtain ⟨l, hl, hx⟩ := Option.bind_eq_some_iff.1 hx
    obtain ⟨hc, hx⟩ := bif_some hx
    cases hx
    simp only [Bool.and_eq_true] at hc
    obtain ⟨⟨⟨⟨⟨⟨c1, c2⟩, c3⟩, c4⟩, c5⟩, c6⟩, c7⟩ := hc
    obtain ⟨v, w', q1, _, ⟨g', q2⟩⟩ := bslice_sound h (T := T) hE hks hl (Nat.eq_of_beq_eq_true c1) (by simpa using c2) c3 (Nat.le_of_ble_eq_true c4) (Nat.le_of_ble_eq_true c5) c7 (Nat.le_of_ble_eq_true c6) (fun i x hx => hev x (by simp [Op.operands]; exact ⟨_, by simpa using hx⟩))
    refine wp_value (v := v) (w' := w') ?_ (hk _ _ _ q2)
    simp [execOp, q1]
  · rename_i src dst' y d
    have key : evX P F.np (fun _ => none) (fun _ _ _ => none) (fun _ => none) ⟨some d, .convert src dst' y, ty, pos, after, guard⟩ s some = some (s.put (some d) x) := by
      unfold evX
      dsimp only
      split at hx
      · split at hx
        · split at hx
          · obtain ⟨hc, hx⟩ := bif_some hx
            cases hx
            rw [hc]; rfl
          · cases hx
        · cases hx
      · cases hx
    exact evX_sound no_call h hok key (fun g' s' a' w' e hI => by cases e; exact hk g' a' w' hI) (fun v a' w' e _ _ => by cases e)
  · cases hx

theorem stE_sound {o : Oper} {r : St ⊕ Value} (hcall : SoundCall P call) (h : Inv P F g s a w) (hok : okOp o = true) (hr : stE P F.np dr takes call o s = some r) {K : Act → World → Prop} {Q : Exit → Act → World → Prop}
    (hk : ∀ g' s' a' w', r = .inl s' → Inv P F g' s' a' w' → K a' w') (ht : ∀ v a' w', r = .inr v → a'.defers = F.ds → Fr F.T F.w0 w' → Q (.panic [{ v := v, recovered := false }]) a' w') : o.wp P a w K Q := by
  unfold stE at hr
  simp only [evOp_def] at hr
  cases hrd : reads P o.op <;> rw [hrd] at hr <;> simp only [cond_true, cond_false] at hr
  · cases hb : dr && bsOp o <;> rw [hb] at hr <;> simp only [cond_true, cond_false] at hr
    case true =>
      obtain ⟨x, hx, e⟩ := Option.bind_eq_some_iff.1 hr
      cases e
      exact rhsB_sound h hok hx (fun g' a' w' hI => hk g' _ a' w' rfl hI)
    exact evX_sound hcall h hok hr (fun g' s' a' w' e hI => hk g' s' a' w' (by cases e; rfl) hI) (fun v a' w' e hd hf => ht v a' w' (by cases e; rfl) hd hf)
  · obtain ⟨x, hx, e⟩ := Option.bind_eq_some_iff.1 hr
    cases e
    obtain ⟨v, hv, hR⟩ := rhs_sound h hrd hok hx
    exact wp_value hv (hk g _ _ _ rfl (h.put o.dst hR))
theorem St.get_lt {t : Nat} {x : AV} (h : s.get t = x) (hx : x ≠ .dead) : s.t[t]? = some x := by
  unfold St.get at h
  rw [List.getD_eq_getElem?_getD] at h
  cases e : s.t[t]? with
  | none => rw [e] at h; exact absurd h.symm hx
  | some y => rw [e] at h; rw [← h]; rfl
theorem wanted_eq (h : Inv P F g s a w) {ops : Array Oper} {o : Oper} {wn : Bool} (hw : wantB s ops.toList o.guard = some wn) : Region.wanted o (yielded ops a.tmps) = wn := by
  unfold Region.wanted
  unfold wantB at hw
  cases hg : o.guard with
  | none => rw [hg] at hw; cases hw; rfl
  | some jw =>
    obtain ⟨j, want⟩ := jw
    rw [hg] at hw
    dsimp only at hw ⊢
    unfold yieldB at hw
    unfold yielded
    rw [Array.getElem?_toList] at hw
    cases hd : (ops[j]?).bind (·.dst) with
    | none => rw [hd] at hw; cases hw
    | some d =>
      rw [hd] at hw
      dsimp only at hw
      simp only [Option.bind_some]
      split at hw
      · rename_i h0
        split at h0
        · cases h0
        · rename_i ht
          obtain ⟨v, h1, h2⟩ := h.tm d _ (St.get_lt ht (by intro e; cases e))
          obtain ⟨vs, rfl, _⟩ := h2
          rw [h1]
          cases hw
          simp
        · cases h0
      · rename_i b h0
        split at h0
        · rename_i ht
          cases h0
          obtain ⟨v, h1, h2⟩ := h.tm d _ (St.get_lt ht (by intro e; cases e))
          obtain ⟨rfl, _⟩ := (show v = .bool b ∧ _ from h2)
          rw [h1]
          cases hw
          cases b <;> cases want <;> rfl
        · cases h0
        · cases h0
      · cases hw
theorem stO_sound {ops : Array Oper} {o : Oper} {r : St ⊕ Value} (hcall : SoundCall P call) (h : Inv P F g s a w) (hok : okOp o = true) (hr : stO P F.np dr takes call ops.toList o s = some r) {K : Act → World → Prop} {Q : Exit → Act → World → Prop}
    (hk : ∀ g' s' a' w', r = .inl s' → Inv P F g' s' a' w' → K a' w') (ht : ∀ v a' w', r = .inr v → a'.defers = F.ds → Fr F.T F.w0 w' → Q (.panic [{ v := v, recovered := false }]) a' w') :
    if Region.wanted o (yielded ops a.tmps) then o.wp P a w K Q ∨ (o.asks P a w ∧ LetsOut Q) else K (a.put o.dst undef) w := by
  unfold stO at hr
  obtain ⟨wn, hw, hr⟩ := Option.bind_eq_some_iff.1 hr
  rw [wanted_eq h hw]
  cases wn
  · cases hr
    simp only [Bool.false_eq_true, if_false]
    exact hk g _ _ _ rfl (h.put o.dst (show RepS P g w (.tup []) undef from ⟨#[], rfl, rfl, fun j x hj => by simp at hj⟩))
  · simp only [if_true]
    exact .inl (stE_sound hcall h hok hr hk ht)
theorem runO_sound {ops : Array Oper} (hcall : SoundCall P call) {Q : Exit → Act → World → Prop} : ∀ (l : List Oper) (g : Gh) (s : St) (a : Act) (w : World) (r : St ⊕ Value), Inv P F g s a w → (∀ o ∈ l, okOp o = true) → runO P F.np dr takes call ops.toList l s = some r →
    (∀ g' s' a' w', r = .inl s' → Inv P F g' s' a' w' → Q .normal a' w') → (∀ v a' w', r = .inr v → a'.defers = F.ds → Fr F.T F.w0 w' → Q (.panic [{ v := v, recovered := false }]) a' w') → wpList P ops Q l a w
  | [], g, s, a, w, r, h, _, hr, hk, _ => by cases hr; exact hk g s a w rfl h
  | o :: l, g, s, a, w, r, h, hok, hr, hk, ht => by
    unfold runO at hr
    cases hs : stO P F.np dr takes call ops.toList o s with
    | none => rw [hs] at hr; cases hr
    | some r1 =>
      rw [hs] at hr
      unfold wpList
      refine stO_sound hcall h (hok o (by simp)) hs (fun g' s' a' w' e hI => ?_) (fun v a' w' e hd hf => ?_)
      · subst e
        exact runO_sound hcall l g' s' a' w' r hI (fun o ho => hok o (by simp [ho])) hr hk ht
      · subst e
        cases hr
        exact ht v a' w' rfl hd hf
end
end Go.Proofs.YtckdgcpomkefpaaGreatDoor.En
