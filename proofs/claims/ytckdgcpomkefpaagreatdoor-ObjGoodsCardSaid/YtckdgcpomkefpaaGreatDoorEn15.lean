/- A region's evaluation, groups joined, is a plain run. -/
import Derived.Test.YtckdgcpomkefpaaGreatDoorEn14
set_option linter.unusedVariables false
set_option linter.unusedSimpArgs false
namespace Go.Proofs.YtckdgcpomkefpaaGreatDoor.En
open Go
/-! ### side conditions -/
def avoidsB (ops : List Oper) (D : List Nat) (o : Oper) : Bool := (looks ops o).all (fun t => !D.contains t) && (match o.dst with | some d => !D.contains d | none => true)
def grpOk (ops : List Oper) (g : List Oper) (p : Oper) (r : List Oper) : Bool := r.all (avoidsB ops (dstsOf g)) && (match p.dst with | some d => !(dstsOf g).contains d | none => true)
def okGroups (ops : List Oper) : List Oper → Bool
  | [] => true
  | o :: r => okGroups ops r && (match o.guard with
    | none => true
    | some (j, _) => (match tmpOf ops j with
      | none => true
      | some tj => (match groupOf tj (o :: r) with
        | none => true
        | some (g, p, r') => grpOk ops g p r')))
section
variable {P : Program} {s : St} {np : Nat} {dr : Bool} {takes : FuncId → Option Nat} {call : CallF} {D : List Nat} {ops : List Oper}

theorem avoids_of {o : Oper} (h : avoidsB ops D o = true) : Avoids ops D o := by
  unfold avoidsB looks at h
  simp only [Bool.and_eq_true, List.all_eq_true, List.mem_append] at h
  obtain ⟨h1, h2⟩ := h
  refine ⟨fun y hy t ht hD => ?_, fun j w hg t ht hD => ?_, fun d hd hD => ?_⟩
  · have := h1 t (.inl (List.mem_filterMap.2 ⟨y, hy, by subst ht; rfl⟩))
    simp [hD] at this
  · have := h1 t (.inr (by rw [hg]; simp [ht]))
    simp [hD] at this
  · rw [hd] at h2
    simp [hD] at h2
theorem Avoids.app {D' : List Nat} {o : Oper} (h : Avoids ops D o) (h' : Avoids ops D' o) : Avoids ops (D ++ D') o :=
  ⟨fun y hy t ht hm => (List.mem_append.1 hm).elim (h.opd y hy t ht) (h'.opd y hy t ht), fun j w hg t ht hm => (List.mem_append.1 hm).elim (h.grd j w hg t ht) (h'.grd j w hg t ht), fun d hd hm => (List.mem_append.1 hm).elim (h.dst d hd) (h'.dst d hd)⟩
theorem groupOf_spec {tj : Nat} : ∀ {l g r : List Oper} {p : Oper}, groupOf tj l = some (g, p, r) → l = g ++ p :: r ∧ ∃ x y, p.op = .pick (.tmp tj) x y
  | [], g, r, p, h => by cases h
  | o :: l, g, r, p, h => by
    have step : ∀ {h : (groupOf tj l).map (fun (g, p, r) => (o :: g, p, r)) = some (g, p, r)}, o :: l = g ++ p :: r ∧ ∃ x y, p.op = .pick (.tmp tj) x y := fun {h} => by
      obtain ⟨⟨g', p', r'⟩, h1, h2⟩ := Option.map_eq_some_iff.1 h
      cases h2
      obtain ⟨e1, e2⟩ := groupOf_spec h1
      exact ⟨by rw [e1]; rfl, e2⟩
    unfold groupOf at h
    split at h
    · rename_i c x y hop
      cases hc : (c == tj) <;> rw [hc] at h
      · exact step (h := h)
      · cases h
        exact ⟨rfl, x, y, by rw [hop, show c = tj by simpa using hc]⟩
    · exact step (h := h)
theorem groupOf_append {tj : Nat} (l2 : List Oper) : ∀ {l g r : List Oper} {p : Oper}, groupOf tj l = some (g, p, r) → groupOf tj (l ++ l2) = some (g, p, r ++ l2)
  | [], g, r, p, h => by cases h
  | o :: l, g, r, p, h => by
    have step : ∀ {h : (groupOf tj l).map (fun (g, p, r) => (o :: g, p, r)) = some (g, p, r)}, (groupOf tj (l ++ l2)).map (fun (g, p, r) => (o :: g, p, r)) = some (g, p, r ++ l2) := fun {h} => by
      obtain ⟨⟨g', p', r'⟩, h1, h2⟩ := Option.map_eq_some_iff.1 h
      cases h2
      rw [groupOf_append l2 h1]; rfl
    rw [List.cons_append]
    unfold groupOf at h ⊢
    split at h
    · rename_i c x y hop
      cases hc : (c == tj) <;> rw [hc] at h
      · exact step (h := h)
      · cases h; rfl
    · exact step (h := h)
theorem okGroups_pre : ∀ {l l2 : List Oper}, okGroups ops (l ++ l2) = true → okGroups ops l = true
  | [], l2, h => rfl
  | o :: l, l2, h => by
    rw [List.cons_append] at h
    unfold okGroups at h ⊢
    simp only [Bool.and_eq_true] at h ⊢
    refine ⟨okGroups_pre h.1, ?_⟩
    have h2 := h.2
    cases hg : o.guard with
    | none => rfl
    | some jw =>
      obtain ⟨j, w⟩ := jw
      rw [hg] at h2
      dsimp only at h2 ⊢
      cases ht : tmpOf ops j with
      | none => rfl
      | some tj =>
        rw [ht] at h2
        dsimp only at h2 ⊢
        cases hgr : groupOf tj (o :: l) with
        | none => rfl
        | some gpr =>
          obtain ⟨g, p, r⟩ := gpr
          have := groupOf_append l2 hgr
          rw [List.cons_append] at this
          rw [this] at h2
          dsimp only at h2 ⊢
          unfold grpOk at h2 ⊢
          simp only [Bool.and_eq_true, List.all_append] at h2 ⊢
          exact ⟨h2.1.1, h2.2⟩
theorem okGroups_suf : ∀ {l l2 : List Oper}, okGroups ops (l ++ l2) = true → okGroups ops l2 = true
  | [], l2, h => h
  | o :: l, l2, h => by
    rw [List.cons_append] at h
    unfold okGroups at h
    simp only [Bool.and_eq_true] at h
    exact okGroups_suf h.1
theorem runO_append : ∀ (l l2 : List Oper) (s : St), runO P np dr takes call ops (l ++ l2) s = thenR (runO P np dr takes call ops l s) (runO P np dr takes call ops l2)
  | [], l2, s => rfl
  | o :: l, l2, s => by
    simp only [List.cons_append, runO]
    cases stO P np dr takes call ops o s with
    | none => rfl
    | some r => cases r with
      | inl s => exact runO_append l l2 s
      | inr v => rfl

/-! ### quiet steps -/
theorem tok_id {f : Option Nat → Option Nat} (h : ∀ t, f t = t) (s : St) : s.tok f = s := by
  have hf : f = id := funext h
  subst hf
  have e1 : ∀ x : AV, x.tok1 id = x := fun x => by cases x <;> rfl
  have e1' : AV.tok1 id = id := funext e1
  have e2 : ∀ x : AV, x.tok2 id = x := fun x => by cases x <;> first | rfl | (simp [AV.tok2, e1', AV.tok1])
  have e2' : AV.tok2 id = id := funext e2
  have e3 : ∀ x : AV, x.tok id = x := fun x => by cases x <;> first | rfl | (simp [AV.tok, e2', AV.tok2, AV.tok1, e1'])
  have e3' : AV.tok id = id := funext e3
  obtain ⟨t, b⟩ := s
  simp [St.tok, e3', e1']
theorem argsFor_quiet {s : St} : ∀ (Ts : List TypeId) (xs : List AV) (i : Nat) (p : Pass), argsFor P none s Ts xs i = some p → p.tk = none ∧ (p.bs.all Option.isNone = true → ∀ l ∈ p.ls, l = none)
  | [], [], i, p, h => by cases h; exact ⟨rfl, fun _ l hl => by cases hl⟩
  | T :: Ts, x :: xs, i, p, h => by
    simp only [argsFor] at h
    have h' := Option.bind_eq_some_iff.1 h
    clear h
    obtain ⟨q, hq, h⟩ := h'
    obtain ⟨ih1, ih2⟩ := argsFor_quiet Ts xs (i + 1) q hq
    have mk : ∀ (x' : AV), p = ⟨x' :: q.xs, none :: q.bs, none :: q.ls, q.tk⟩ → p.tk = none ∧ (p.bs.all Option.isNone = true → ∀ l ∈ p.ls, l = none) := fun x' e => by
      subst e
      refine ⟨ih1, fun hb l hl => ?_⟩
      rcases List.mem_cons.1 hl with rfl | hl
      · rfl
      · exact ih2 (by simpa using hb) l hl
    split at h
    · split at h
      · obtain ⟨cs, hcs, h⟩ := Option.bind_eq_some_iff.1 h
        obtain ⟨_, h⟩ := bif_some h
        cases h
        exact ⟨ih1, fun hb => by simp at hb⟩
      · cases h
    · rename_i t E l
      cases t with
      | some n =>
        have e : ((none : Option Nat) == some i && Nat.blt n 1024) = false := rfl
        simp only [e, cond_false] at h
        cases h
        exact mk _ rfl
      | none => cases h; exact mk _ rfl
    · split at h
      · cases h; exact mk _ rfl
      · cases h
    · cases h; exact mk _ rfl
    · cases h; exact mk _ rfl
    · cases h
  | [], _ :: _, i, p, h => by simp [argsFor] at h
  | _ :: _, [], i, p, h => by simp [argsFor] at h
theorem backS_none : ∀ (ls : List (Option Nat)) (i : Nat) (bs : Bx) (s s' : St), (∀ l ∈ ls, l = none) → backS i ls bs s = some s' → s' = s
  | [], i, bs, s, s', _, h => by cases h; rfl
  | none :: ls, i, _ :: bs, s, s', hl, h => backS_none ls (i + 1) bs s s' (fun l hm => hl l (by simp [hm])) h
  | none :: ls, i, [], s, s', _, h => by cases h
  | some d :: ls, i, bs, s, s', hl, h => by have := hl (some d) (by simp); cases this
theorem quiet_step {o : Oper} {s1 : St} (hq : quietOp P takes o = true) (h : stE P np dr (fun _ => none) (quietC call) o s = some (.inl s1)) : stE P np dr takes call o s = some (.inl s1) ∧ ∃ x, s1 = s.put o.dst x := by
  unfold quietOp at hq
  unfold stE at h ⊢
  rw [evOp_def] at h ⊢
  cases hr : reads P o.op <;> rw [hr] at h hq <;> simp only [cond_true, cond_false, Bool.false_or] at h hq ⊢
  · split at hq
    · rename_i f args Ts hop
      obtain ⟨dst, op, ty, pos, after, guard⟩ := o
      dsimp only at hop
      subst hop
      have hbs : (dr && bsOp ⟨dst, .call { callee := .value (.func f), args := args, argTypes := Ts }, ty, pos, after, guard⟩) = false := by cases dr <;> rfl
      rw [hbs] at h ⊢
      simp only [cond_false] at h ⊢
      unfold evX at h ⊢
      dsimp only at h ⊢
      have ht : takes f = none := by rw [Bool.and_eq_true, Bool.and_eq_true] at hq; simpa using hq.1.1
      cases hsz : Nat.ble args.size 1024 <;> rw [hsz] at h <;> simp only [cond_true, cond_false] at h ⊢
      · cases h
      rw [ht]
      obtain ⟨p, hp, h⟩ := Option.bind_eq_some_iff.1 h
      rw [hp]
      simp only [Option.bind_some]
      cases hd : dstOk p dst <;> rw [hd] at h <;> simp only [cond_true, cond_false] at h ⊢
      · cases h
      obtain ⟨⟨qb, r⟩, hr, h⟩ := Option.bind_eq_some_iff.1 h
      obtain ⟨hqb, h⟩ := bif_some h
      dsimp only at hqb h
      subst hqb
      unfold quietC at hr
      obtain ⟨hb, hr⟩ := bif_some hr
      split at hr
      · rename_i x bs' hc
        cases hr
        rw [hc]
        simp only [Option.bind_some, cond_true]
        refine ⟨h, ?_⟩
        obtain ⟨s2, hs2, h⟩ := Option.bind_eq_some_iff.1 h
        obtain ⟨y, hy, h⟩ := Option.bind_eq_some_iff.1 h
        cases h
        obtain ⟨a1, a2⟩ := argsFor_quiet _ _ _ _ hp
        have := backS_none _ _ _ _ _ (a2 hb) hs2
        refine ⟨y, ?_⟩
        rw [this]
        congr 1
        refine tok_id (fun t => ?_) s
        cases t with
        | none => rfl
        | some m =>
          show (bif lostB p none m then none else some m) = some m
          have : lostB p none m = false := by
            unfold lostB
            rw [a1]
            have : p.ls.any (lossOf m) = false := by
              rw [List.any_eq_false]
              intro l hl
              rw [a2 hb l hl]
              simp [lossOf]
            rw [this]
            rfl
          rw [this]; rfl
      · cases hr
    · cases hq
  · refine ⟨h, ?_⟩
    obtain ⟨x, hx, h⟩ := Option.bind_eq_some_iff.1 h
    cases h
    exact ⟨x, rfl⟩
/-- Alike but at D. -/
structure Agree (D : List Nat) (s s' : St) : Prop where
  b : s'.b = s.b
  t : ∀ i, i ∉ D → s'.t[i]? = s.t[i]?
  len : s'.t.length = s.t.length
theorem Agree.put (s : St) {d : Option Nat} (hd : ∀ e, d = some e → e ∈ D) (x : AV) : Agree D s (s.put d x) := by
  cases d with
  | none => exact ⟨rfl, fun _ _ => rfl, rfl⟩
  | some d =>
    refine ⟨rfl, fun i hi => ?_, by simp [St.put]⟩
    show (s.t.set d x)[i]? = _
    rw [List.getElem?_set, if_neg (by rintro rfl; exact hi (hd _ rfl))]
theorem Agree.trans {s s' s'' : St} (h : Agree D s s') (k : Agree D s' s'') : Agree D s s'' := ⟨k.b.trans h.b, fun i hi => (k.t i hi).trans (h.t i hi), k.len.trans h.len⟩
theorem quiet_run : ∀ (g : List Oper) (s s1 : St), (∀ o ∈ g, quietOp P takes o = true) → (∀ o ∈ g, ∀ e, o.dst = some e → e ∈ D) → runO P np dr (fun _ => none) (quietC call) ops g s = some (.inl s1) → runO P np dr takes call ops g s = some (.inl s1) ∧ Agree D s s1
  | [], s, s1, _, _, h => by cases h; exact ⟨rfl, rfl, fun _ _ => rfl, rfl⟩
  | o :: g, s, s1, hq, hD, h => by
    unfold runO at h ⊢
    cases hs : stO P np dr (fun _ => none) (quietC call) ops o s with
    | none => rw [hs] at h; cases h
    | some r =>
      rw [hs] at h
      cases r with
      | inr v => cases h
      | inl s2 =>
        have h2 : stO P np dr takes call ops o s = some (.inl s2) ∧ Agree D s s2 := by
          unfold stO at hs ⊢
          obtain ⟨wn, hw, hs⟩ := Option.bind_eq_some_iff.1 hs
          rw [hw]
          simp only [Option.bind_some]
          cases wn <;> simp only [cond_true, cond_false] at hs ⊢
          · cases hs
            exact ⟨rfl, Agree.put s (hD o (by simp)) _⟩
          · obtain ⟨e1, x, rfl⟩ := quiet_step (hq o (by simp)) hs
            exact ⟨e1, Agree.put s (hD o (by simp)) _⟩
        rw [h2.1]
        obtain ⟨e1, e2⟩ := quiet_run g s2 s1 (fun o ho => hq o (by simp [ho])) (fun o ho => hD o (by simp [ho])) h
        exact ⟨e1, h2.2.trans e2⟩
end
end Go.Proofs.YtckdgcpomkefpaaGreatDoor.En
