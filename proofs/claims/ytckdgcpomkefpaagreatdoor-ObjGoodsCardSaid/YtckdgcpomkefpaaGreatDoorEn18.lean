/- Two operations of a region that draws its order: either may come first. -/
import Derived.Test.YtckdgcpomkefpaaGreatDoorEn17
set_option linter.unusedVariables false
set_option linter.unusedSimpArgs false
namespace Go.Proofs.YtckdgcpomkefpaaGreatDoor.En
open Go
section
variable {P : Program} {s s1 s2 : St} {np : Nat} {takes : FuncId → Option Nat} {call : CallF} {ops : List Oper}

structure Same (ops : List Oper) (o : Oper) (s s2 : St) : Prop where
  b : s2.b = s.b
  len : s2.t.length = s.t.length
  t : ∀ t ∈ looks ops o, s2.get t = s.get t
theorem Same.ev {o : Oper} (h : Same ops o s s2) (y : Operand) (hy : y ∈ o.op.operands.toList) : s2.ev y = s.ev y := by
  cases y with
  | tmp t => exact h.t t (by unfold looks; exact List.mem_append.2 (.inl (List.mem_filterMap.2 ⟨_, hy, rfl⟩)))
  | _ => rfl
theorem Same.wantB {o : Oper} (h : Same ops o s s2) : wantB s2 ops o.guard = wantB s ops o.guard := by
  unfold En.wantB
  cases hg : o.guard with
  | none => rfl
  | some jw =>
    obtain ⟨j, want⟩ := jw
    dsimp only
    have : yieldB s2 ops j = yieldB s ops j := by
      unfold yieldB
      cases hd : (ops[j]?).bind (·.dst) with
      | none => rfl
      | some d =>
        dsimp only
        rw [h.t d (by unfold looks; exact List.mem_append.2 (.inr (by rw [hg]; simp [tmpOf, hd])))]
    rw [this]
theorem Same.symm {o : Oper} (h : Same ops o s s2) : Same ops o s2 s := ⟨h.b.symm, h.len.symm, fun t ht => (h.t t ht).symm⟩
theorem get_put {d : Option Nat} {t : Nat} (h : d ≠ some t) (x : AV) : (s.put d x).get t = s.get t := by
  cases d with
  | none => rfl
  | some d =>
    unfold St.get St.put
    rw [List.getD_eq_getElem?_getD, List.getD_eq_getElem?_getD, List.getElem?_set, if_neg (by rintro rfl; exact h rfl)]
theorem Same.put {o : Oper} {d : Option Nat} (h : ∀ e, d = some e → e ∉ looks ops o) (x : AV) : Same ops o s (s.put d x) := by
  refine ⟨?_, ?_, fun t ht => get_put (fun e => h t e ht) x⟩
  · cases d <;> rfl
  · cases d <;> simp [St.put]
theorem wantB_tok {f : Option Nat → Option Nat} (gd : Option (Nat × Bool)) : wantB (s.tok f) ops gd = wantB s ops gd := by
  unfold wantB
  cases gd with
  | none => rfl
  | some jw =>
    obtain ⟨j, want⟩ := jw
    dsimp only
    have : yieldB (s.tok f) ops j = yieldB s ops j := by
      unfold yieldB
      cases hd : (ops[j]?).bind (·.dst) with
      | none => rfl
      | some d =>
        dsimp only
        rw [tok_get]
        cases s.get d <;> first | rfl | skip
        rename_i vs
        cases vs <;> rfl
    rw [this]
theorem put_comm {d e : Option Nat} (h : ∀ c, d = some c → e ≠ some c) (x y : AV) : (s.put d x).put e y = (s.put e y).put d x := by
  cases d with
  | none => rfl
  | some d =>
    cases e with
    | none => rfl
    | some e =>
      show (⟨(s.t.set d x).set e y, s.b⟩ : St) = ⟨(s.t.set e y).set d x, s.b⟩
      rw [List.set_comm _ _ (by rintro rfl; exact h _ rfl rfl)]
theorem tok_put {f : Option Nat → Option Nat} (d : Option Nat) (x : AV) : (s.put d x).tok f = (s.tok f).put d (x.tok f) := by
  cases d with
  | none => rfl
  | some d =>
    show (⟨(s.t.set d x).map (AV.tok f), _⟩ : St) = ⟨(s.t.map (AV.tok f)).set d (x.tok f), _⟩
    rw [List.map_set]; rfl

/-! ### those that write nothing -/
def wval (P : Program) (ops : List Oper) (o : Oper) (s : St) : Option AV := (wantB s ops o.guard).bind fun wn => bif wn then (bif reads P o.op then rhs P o s else rhsB P o s) else some (.tup [])
theorem stO_w {o : Oper} (h : wOp P o = true) : stO P np true takes call ops o s = (wval P ops o s).map fun x => .inl (s.put o.dst x) := by
  unfold stO wval
  cases wantB s ops o.guard with
  | none => rfl
  | some wn =>
    simp only [Option.bind_some]
    cases wn
    · rfl
    · simp only [cond_true]
      unfold stE
      simp only [evOp_def]
      unfold wOp at h
      cases hr : reads P o.op <;> rw [hr] at h
      · have : bsOp o = true := h
        rw [this]
        simp only [cond_false, Bool.and_self, cond_true]
        cases rhsB P o s <;> rfl
      · simp only [cond_true]
        cases rhs P o s <;> rfl
theorem wval_same {o : Oper} (h : Same ops o s s2) : wval P ops o s2 = wval P ops o s := by
  unfold wval
  rw [h.wantB, rhs_congr h.b h.ev, rhsB_congr h.len h.ev]
theorem wval_tok {o : Oper} {f : Option Nat → Option Nat} (hf : f none = none) : wval P ops o (s.tok f) = (wval P ops o s).map (AV.tok f) := by
  unfold wval
  rw [wantB_tok, rhs_tok hf, rhsB_tok hf]
  cases wantB s ops o.guard with
  | none => rfl
  | some wn =>
    cases wn
    · rfl
    · simp only [Option.bind_some, cond_true]
      cases reads P o.op <;> rfl

/-! ### those that take tokens -/
/-- What such an operation does, here and wherever it is given the same. -/
def XForm (P : Program) (np : Nat) (takes : FuncId → Option Nat) (call : CallF) (ops : List Oper) (o : Oper) (s : St) (r : St ⊕ Value) : Prop :=
  (∃ (f : Option Nat → Option Nat) (y : AV), f none = none ∧ r = .inl ((s.tok f).put o.dst y) ∧ ∀ s2, Same ops o s s2 → stO P np true takes call ops o s2 = some (.inl ((s2.tok f).put o.dst y))) ∨
  (∃ v, r = .inr v ∧ ∀ s2, Same ops o s s2 → stO P np true takes call ops o s2 = some (.inr v))
theorem argsFor_noPtr {take : Option Nat} {s : St} : ∀ (Ts : List TypeId) (xs : List AV) (i : Nat) (p : Pass), (Ts.all fun T => (ptrOf P T).isNone) = true → argsFor P take s Ts xs i = some p → ∀ l ∈ p.ls, l = none
  | [], [], i, p, _, h => by cases h; exact fun l hl => by cases hl
  | T :: Ts, x :: xs, i, p, hn, h => by
    simp only [argsFor] at h
    have h' := Option.bind_eq_some_iff.1 h
    clear h
    obtain ⟨q, hq, h⟩ := h'
    simp only [List.all_cons, Bool.and_eq_true] at hn
    have ih := argsFor_noPtr Ts xs (i + 1) q hn.2 hq
    have mk : p.ls = none :: q.ls → ∀ l ∈ p.ls, l = none := fun e l hl => by
      rw [e] at hl
      rcases List.mem_cons.1 hl with rfl | hl
      · rfl
      · exact ih l hl
    split at h
    · split at h
      · rename_i E hu
        have := hn.1
        rw [hu] at this
        cases this
      · cases h
    · rename_i t E l
      cases t with
      | some n =>
        dsimp only at h
        cases hc : (take == some i && Nat.blt n 1024) <;> rw [hc] at h <;> cases h <;> exact mk rfl
      | none => cases h; exact mk rfl
    · split at h
      · cases h; exact mk rfl
      · cases h
    · cases h; exact mk rfl
    · cases h; exact mk rfl
    · cases h
  | [], _ :: _, i, p, _, h => by simp [argsFor] at h
  | _ :: _, [], i, p, _, h => by simp [argsFor] at h
theorem backS_any : ∀ (ls : List (Option Nat)) (i : Nat) (bs : Bx) (s s' : St), (∀ l ∈ ls, l = none) → backS i ls bs s = some s' → ∀ s2, backS i ls bs s2 = some s2
  | [], i, bs, s, s', _, h => fun s2 => rfl
  | none :: ls, i, _ :: bs, s, s', hl, h => fun s2 => backS_any ls (i + 1) bs s s' (fun l hm => hl l (by simp [hm])) h s2
  | none :: ls, i, [], s, s', _, h => by cases h
  | some d :: ls, i, bs, s, s', hl, h => by have := hl (some d) (by simp); cases this
theorem lostF_none' (p : Pass) (d : Option Nat) : lostF p d none = none := rfl
theorem tok_tok (f h : Option Nat → Option Nat) : (s.tok f).tok h = s.tok (fun t => h (f t)) := by
  have e1 : ∀ x : AV, (x.tok1 f).tok1 h = x.tok1 (fun t => h (f t)) := fun x => by cases x <;> rfl
  have e2 : ∀ x : AV, (x.tok2 f).tok2 h = x.tok2 (fun t => h (f t)) := fun x => by
    cases x <;> first | rfl | (show AV.agg (List.map _ (List.map _ _)) = AV.agg _; rw [List.map_map]; congr 1; exact List.map_congr_left fun c _ => e1 c)
  have h0 : ∀ x : AV, (x.tok f).tok h = x.tok (fun t => h (f t)) := fun x => by
    cases x <;> first | rfl | exact e2 (.agg _) | (show AV.tup (List.map _ (List.map _ _)) = AV.tup _; rw [List.map_map]; congr 1; exact List.map_congr_left fun c _ => e2 c)
  show (⟨(s.t.map _).map _, (s.b.map _).map _⟩ : St) = ⟨s.t.map _, s.b.map _⟩
  rw [List.map_map, List.map_map]
  congr 1
  · exact List.map_congr_left fun c _ => h0 c
  · refine List.map_congr_left fun o _ => ?_
    cases o with
    | none => rfl
    | some cs =>
      show some (List.map _ (List.map _ cs)) = some _
      rw [List.map_map]
      congr 1
      exact List.map_congr_left fun c _ => e1 c
theorem kill2 (n d : Nat) : (s.kill n).kill d = s.tok (fun t => killF d (killF n t)) := tok_tok _ _
theorem assign_form (P : Program) (T : TypeId) (d : Nat) (x : AV) : ∃ (f : Option Nat → Option Nat) (y : AV), f none = none ∧ ∀ s : St, s.assign P T d x = (s.tok f).put (some d) y := by
  have plain : ∀ y : AV, ∃ (f : Option Nat → Option Nat) (z : AV), f none = none ∧ ∀ s : St, s.put (some d) y = (s.tok f).put (some d) z := fun y => ⟨id, y, rfl, fun s => by rw [tok_id (f := id) (fun t => rfl)]⟩
  unfold St.assign
  split
  · rename_i n E l
    cases n == d
    · exact ⟨fun t => renF n d (killF d t), .row (some d) E l, rfl, fun s => by
        simp only [cond_false, St.kill, tok_tok]⟩
    · exact plain _
  · split
    · rename_i E _
      exact ⟨killF d, .row (some d) E [], rfl, fun s => rfl⟩
    · exact plain _
  · exact plain _
theorem appendAV_form {Ts : Array TypeId} {xs : List AV} {d : Nat} {s' : St} (h : appendAV P Ts xs s d = some s') : ∃ (f : Option Nat → Option Nat) (y : AV), f none = none ∧ s' = (s.tok f).put (some d) y ∧ ∀ s2 : St, appendAV P Ts xs s2 d = some ((s2.tok f).put (some d) y) := by
  unfold appendAV at h ⊢
  split at h
  · rename_i n E l y
    cases hok : appOk P Ts E <;> rw [hok] at h
    · cases h
    simp only [cond_true] at h ⊢
    split at h
    · rename_i t E' m
      obtain ⟨hc, h⟩ := bif_some h
      cases h
      refine ⟨fun t => killF d (killF n t), _, rfl, by rw [kill2], fun s2 => ?_⟩
      rw [hc, kill2]; rfl
    · obtain ⟨hc, h⟩ := bif_some h
      cases h
      refine ⟨fun t => killF d (killF n t), _, rfl, by rw [kill2], fun s2 => ?_⟩
      rw [hc, kill2]; rfl
    · rename_i str
      split at h
      · obtain ⟨hc, h⟩ := bif_some h
        cases h
        refine ⟨fun t => killF d (killF n t), _, rfl, by rw [kill2], fun s2 => ?_⟩
        rw [hc, kill2]; rfl
      · cases h
    · cases h
  · cases h
theorem xForm {o : Oper} (hx : xOp P o = true) {r : St ⊕ Value} (h : stO P np true takes call ops o s = some r) : XForm P np takes call ops o s r := by
  unfold stO at h
  have h' := Option.bind_eq_some_iff.1 h
  clear h
  obtain ⟨wn, hw, h⟩ := h'
  cases wn
  · simp only [cond_false] at h
    cases h
    refine .inl ⟨id, .tup [], rfl, by rw [tok_id (f := id) (fun t => rfl)], fun s2 h2 => ?_⟩
    unfold stO
    rw [h2.wantB, hw, tok_id (f := id) (fun t => rfl)]
    rfl
  · simp only [cond_true] at h
    have go : ∀ s2, Same ops o s s2 → stO P np true takes call ops o s2 = stE P np true takes call o s2 := fun s2 h2 => by
      unfold stO
      rw [h2.wantB, hw]
      rfl
    obtain ⟨dst, op, ty, pos, after, guard⟩ := o
    unfold xOp at hx
    dsimp only at hx
    split at hx
    · rename_i xs Ts
      have nr : ∀ s2, stE P np true takes call ⟨dst, .call { callee := .builtin .append, args := xs, argTypes := Ts }, ty, pos, after, guard⟩ s2 =
          evX P np takes call (fun v => some (.inr v)) ⟨dst, .call { callee := .builtin .append, args := xs, argTypes := Ts }, ty, pos, after, guard⟩ s2 (fun s => some (.inl s)) := fun s2 => rfl
      rw [nr] at h
      unfold evX at h
      simp only [appendK_eq] at h
      cases dst with
      | none => cases h
      | some d =>
        dsimp only at h
        obtain ⟨hd, h⟩ := bif_some h
        obtain ⟨s', hs', h⟩ := Option.bind_eq_some_iff.1 h
        cases h
        obtain ⟨f, y, hf, rfl, hall⟩ := appendAV_form hs'
        refine .inl ⟨f, y, hf, rfl, fun s2 h2 => ?_⟩
        rw [go s2 h2, nr]
        unfold evX
        simp only [appendK_eq]
        (try dsimp only)
        rw [ev_map (s := s) (s' := s2) (fun z hz => h2.ev z (by simp [Op.operands, Call.operands]; simpa using hz)), h2.len, hd, hall s2]
        rfl
    · rename_i f xs Ts
      have nr : ∀ s2, stE P np true takes call ⟨dst, .call { callee := .value (.func f), args := xs, argTypes := Ts }, ty, pos, after, guard⟩ s2 =
          evX P np takes call (fun v => some (.inr v)) ⟨dst, .call { callee := .value (.func f), args := xs, argTypes := Ts }, ty, pos, after, guard⟩ s2 (fun s => some (.inl s)) := fun s2 => rfl
      rw [nr] at h
      unfold evX at h
      dsimp only at h
      obtain ⟨hsz, h⟩ := bif_some h
      obtain ⟨p, hp, h⟩ := Option.bind_eq_some_iff.1 h
      obtain ⟨hd, h⟩ := bif_some h
      obtain ⟨⟨qb, q⟩, hq, h⟩ := Option.bind_eq_some_iff.1 h
      obtain ⟨hqb, h⟩ := bif_some h
      dsimp only at hqb h
      subst hqb
      have hls := argsFor_noPtr _ _ _ _ hx hp
      have run : ∀ s2, Same ops ⟨dst, .call { callee := .value (.func f), args := xs, argTypes := Ts }, ty, pos, after, guard⟩ s s2 → stE P np true takes call ⟨dst, .call { callee := .value (.func f), args := xs, argTypes := Ts }, ty, pos, after, guard⟩ s2 =
          (match q with
          | .thr v => some (.inr v)
          | .ret v bs => (backS 0 p.ls bs (s2.tok (lostF p (dstN v dst)))).bind fun s => (newTok dst v).bind fun x => some (.inl (s.put dst x))) := fun s2 h2 => by
        rw [nr]
        unfold evX
        dsimp only
        rw [ev_map (s := s) (s' := s2) (fun z hz => h2.ev z (by simp [Op.operands, Call.operands]; exact .inr (by simpa using hz))), argsFor_congr (s := s) (s' := s2) h2.b, hsz, hp]
        simp only [cond_true, Option.bind_some, hd, hq]
        cases q <;> rfl
      cases q with
      | thr v =>
        cases h
        refine .inr ⟨v, rfl, fun s2 h2 => ?_⟩
        rw [go s2 h2, run s2 h2]
      | ret v bs =>
        dsimp only at h
        obtain ⟨s3, hb, h⟩ := Option.bind_eq_some_iff.1 h
        obtain ⟨y, hy, h⟩ := Option.bind_eq_some_iff.1 h
        cases h
        have e3 := backS_none _ _ _ _ _ hls hb
        subst e3
        refine .inl ⟨lostF p (dstN v dst), y, rfl, rfl, fun s2 h2 => ?_⟩
        rw [go s2 h2, run s2 h2]
        dsimp only
        rw [backS_any _ _ _ _ _ hls hb, hy]
        rfl
    · rename_i x
      have nr : ∀ s2, stE P np true takes call ⟨dst, .assign x, ty, pos, after, guard⟩ s2 = evX P np takes call (fun v => some (.inr v)) ⟨dst, .assign x, ty, pos, after, guard⟩ s2 (fun s => some (.inl s)) := fun s2 => rfl
      rw [nr] at h
      unfold evX at h
      cases dst with
      | none => cases h
      | some d =>
        dsimp only at h
        cases h
        obtain ⟨f, y, hf, hall⟩ := assign_form P ty d (s.ev x)
        refine .inl ⟨f, y, hf, by rw [hall], fun s2 h2 => ?_⟩
        rw [go s2 h2, nr]
        unfold evX
        dsimp only
        rw [h2.ev x (by simp [Op.operands]), hall]
    · cases hx

/-! ### either first -/
theorem diamond {x y : Oper} (hp : pairOk P ops x y = true) (hx : stO P np true takes call ops x s = some (.inl s1)) {r : St ⊕ Value} (hy : stO P np true takes call ops y s1 = some r) :
    (∀ s2, r = .inl s2 → ∃ s3, stO P np true takes call ops y s = some (.inl s3) ∧ stO P np true takes call ops x s3 = some (.inl s2)) ∧ (∀ v, r = .inr v → stO P np true takes call ops y s = some (.inr v)) := by
  unfold pairOk at hp
  simp only [Bool.and_eq_true, Bool.or_eq_true] at hp
  obtain ⟨ha, hk⟩ := hp
  unfold apartB at ha
  simp only [Bool.and_eq_true] at ha
  have a1 : ∀ d, x.dst = some d → d ∉ looks ops y ∧ y.dst ≠ some d := fun d hd => by
    have := ha.1
    rw [hd] at this
    simpa using this
  have a2 : ∀ d, y.dst = some d → d ∉ looks ops x := fun d hd => by
    have := ha.2
    rw [hd] at this
    simpa using this
  rcases hk with (⟨wx, wy⟩ | ⟨wx, xy⟩) | ⟨xx, wy⟩
  · rw [stO_w wx] at hx
    obtain ⟨vx, hvx, e⟩ := Option.map_eq_some_iff.1 hx
    cases e
    rw [stO_w wy, wval_same (Same.put (s := s) (fun d hd => (a1 d hd).1) vx)] at hy
    obtain ⟨vy, hvy, e⟩ := Option.map_eq_some_iff.1 hy
    subst e
    refine ⟨fun s2 e => ?_, fun v e => (by cases e)⟩
    cases e
    refine ⟨s.put y.dst vy, by rw [stO_w wy, hvy]; rfl, ?_⟩
    rw [stO_w wx, wval_same (Same.put (s := s) (fun d hd => a2 d hd) vy), hvx]
    show some (Sum.inl _) = _
    rw [put_comm (fun c hc e => (a1 c e).2 hc)]
  · rw [stO_w wx] at hx
    obtain ⟨vx, hvx, e⟩ := Option.map_eq_some_iff.1 hx
    cases e
    have hS := Same.put (s := s) (o := y) (ops := ops) (fun d hd => (a1 d hd).1) vx
    rcases xForm xy hy with ⟨f, vy, hf, rfl, hall⟩ | ⟨v, rfl, hall⟩
    · refine ⟨fun s2 e => ?_, fun v e => (by cases e)⟩
      cases e
      refine ⟨_, hall s hS.symm, ?_⟩
      rw [stO_w wx, wval_same (Same.put (s := s.tok f) (fun d hd => a2 d hd) vy), wval_tok hf, hvx]
      show some (Sum.inl _) = _
      rw [tok_put, put_comm (fun c hc e => (a1 c e).2 hc)]
    · exact ⟨fun s2 e => (by cases e), fun v' e => (by cases e; exact hall s hS.symm)⟩
  · rcases xForm xx hx with ⟨f, vx, hf, e, hall⟩ | ⟨v, e, hall⟩
    · cases e
      rw [stO_w wy, wval_same (Same.put (s := s.tok f) (fun d hd => (a1 d hd).1) vx), wval_tok hf] at hy
      obtain ⟨vy', hvy', e⟩ := Option.map_eq_some_iff.1 hy
      obtain ⟨vy, hvy, rfl⟩ := Option.map_eq_some_iff.1 hvy'
      subst e
      refine ⟨fun s2 e => ?_, fun v e => (by cases e)⟩
      cases e
      refine ⟨s.put y.dst vy, by rw [stO_w wy, hvy]; rfl, ?_⟩
      rw [hall _ (Same.put (fun d hd => a2 d hd) vy), tok_put, put_comm (fun c hc e => (a1 c e).2 hc)]
    · cases e
/-! ### a load, and a call that is handed a pointer -/
def boxOf : AV → Option Nat | .box d _ => some d | _ => none
theorem boxOf_tok {f : Option Nat → Option Nat} (x : AV) : boxOf (x.tok f) = boxOf x := by cases x <;> rfl
theorem backS_b : ∀ (ls : List (Option Nat)) (i : Nat) (bs : Bx) (t : List AV) (b : Bx) (s' : St), backS i ls bs ⟨t, b⟩ = some s' → ∃ b', s' = ⟨t, b'⟩ ∧ (∀ t2, backS i ls bs ⟨t2, b⟩ = some ⟨t2, b'⟩) ∧ ∀ d, some d ∉ ls → b'[d]? = b[d]?
  | [], i, bs, t, b, s', h => by cases h; exact ⟨b, rfl, fun t2 => rfl, fun d _ => rfl⟩
  | none :: ls, i, _ :: bs, t, b, s', h => by
    obtain ⟨b', e, h1, h2⟩ := backS_b ls (i + 1) bs t b s' h
    exact ⟨b', e, h1, fun d hd => h2 d fun hm => hd (by simp [hm])⟩
  | none :: ls, i, [], t, b, s', h => by cases h
  | some d :: ls, i, none :: bs, t, b, s', h => by cases h
  | some d :: ls, i, [], t, b, s', h => by cases h
  | some d :: ls, i, some cs :: bs, t, b, s', h => by
    have h' : ((b.getD d none).bind fun old => bif Nat.beq cs.length old.length then backS (i + 1) ls bs ⟨t, b.set d (some (giveL i d 0 cs))⟩ else none) = some s' := h
    obtain ⟨old, ho, h2⟩ := Option.bind_eq_some_iff.1 h'
    obtain ⟨hc, h3⟩ := bif_some h2
    obtain ⟨b', e, h4, h5⟩ := backS_b ls (i + 1) bs t _ s' h3
    refine ⟨b', e, fun t2 => ?_, fun e' he => ?_⟩
    · show ((b.getD d none).bind fun old => bif Nat.beq cs.length old.length then backS (i + 1) ls bs ⟨t2, b.set d (some (giveL i d 0 cs))⟩ else none) = _
      rw [ho, Option.bind_some, hc]
      exact h4 t2
    · rw [h5 e' fun hm => he (by simp [hm]), List.getElem?_set, if_neg (by rintro rfl; exact he (by simp))]
theorem argsFor_ls {take : Option Nat} {s : St} : ∀ (Ts : List TypeId) (xs : List AV) (i : Nat) (p : Pass), argsFor P take s Ts xs i = some p → ∀ d, some d ∈ p.ls → ∃ x ∈ xs, boxOf x = some d
  | [], [], i, p, h => by cases h; exact fun d hd => by cases hd
  | T :: Ts, x :: xs, i, p, h => by
    simp only [argsFor] at h
    have h' := Option.bind_eq_some_iff.1 h
    clear h
    obtain ⟨q, hq, h⟩ := h'
    have ih := argsFor_ls Ts xs (i + 1) q hq
    have mk : p.ls = none :: q.ls → ∀ d, some d ∈ p.ls → ∃ y ∈ x :: xs, boxOf y = some d := fun e d hd => by
      rw [e] at hd
      rcases List.mem_cons.1 hd with h0 | hd
      · cases h0
      · obtain ⟨y, hy, hb⟩ := ih d hd
        exact ⟨y, by simp [hy], hb⟩
    split at h
    · rename_i d' off
      split at h
      · obtain ⟨cs, hcs, h⟩ := Option.bind_eq_some_iff.1 h
        obtain ⟨_, h⟩ := bif_some h
        cases h
        intro d hd
        rcases List.mem_cons.1 hd with h0 | hd
        · cases h0; exact ⟨.box d' off, by simp, rfl⟩
        · obtain ⟨y, hy, hb⟩ := ih d hd
          exact ⟨y, by simp [hy], hb⟩
      · cases h
    · rename_i t E l
      cases t with
      | some n =>
        dsimp only at h
        cases hc : (take == some i && Nat.blt n 1024) <;> rw [hc] at h <;> cases h <;> exact mk rfl
      | none => cases h; exact mk rfl
    · split at h
      · cases h; exact mk rfl
      · cases h
    · cases h; exact mk rfl
    · cases h; exact mk rfl
    · cases h
  | [], _ :: _, i, p, h => by simp [argsFor] at h
  | _ :: _, [], i, p, h => by simp [argsFor] at h
theorem ptrCall_eq {o : Oper} {xs : List Operand} (h : ptrCall P o = some xs) : (∃ (f : FuncId) (ys : Array Operand) (Ts : Array TypeId), o.op = .call { callee := .value (.func f), args := ys, argTypes := Ts } ∧ xs = ys.toList) ∨ ∃ (T : TypeId) (a x : Operand), o.op = .store T a x ∧ xs = [a] := by
  obtain ⟨dst, op, ty, pos, after, guard⟩ := o
  unfold ptrCall at h
  dsimp only at h
  split at h
  · rename_i f ys Ts
    cases hn : noPtr P f Ts <;> rw [hn] at h <;> cases h
    exact .inl ⟨f, ys, Ts, rfl, rfl⟩
  · cases h
    exact .inr ⟨_, _, _, rfl, rfl⟩
  · cases h
theorem ptr_looks {o : Oper} {xs : List Operand} (h : ptrCall P o = some xs) {z : Operand} (hz : z ∈ xs) {t : Nat} (e : z = .tmp t) : t ∈ looks ops o := by
  unfold looks
  refine List.mem_append.2 (.inl (List.mem_filterMap.2 ⟨z, ?_, by rw [e]⟩))
  rcases ptrCall_eq h with ⟨f, ys, Ts, h1, rfl⟩ | ⟨T, a, x, h1, rfl⟩
  · rw [h1]
    simp [Op.operands, Call.operands]
    exact .inr (by simpa using hz)
  · rw [h1]
    simp at hz
    subst hz
    simp [Op.operands]
theorem ptr_load {o : Oper} {xs : List Operand} (h : ptrCall P o = some xs) : loadOf o = none := by
  unfold loadOf
  rcases ptrCall_eq h with ⟨f, ys, Ts, h1, rfl⟩ | ⟨T, a, x, h1, rfl⟩ <;> rw [h1]
theorem tokl_id (t : List AV) : t.map (AV.tok id) = t := congrArg St.t (tok_id (s := ⟨t, []⟩) (f := id) (fun t => rfl))
theorem tok_comp (t : List AV) (f h : Option Nat → Option Nat) : (t.map (AV.tok f)).map (AV.tok h) = t.map (AV.tok fun x => h (f x)) := congrArg St.t (tok_tok (s := ⟨t, []⟩) f h)
theorem storeAV_form {T : TypeId} {d off : Nat} {x : AV} {s' : St} (h : storeAV P s T (.box d off) x = some s') : ∃ (f : Option Nat → Option Nat) (b' : Bx), f none = none ∧ s' = ⟨s.t.map (AV.tok f), b'⟩ ∧ (∀ t2, storeAV P ⟨t2, s.b⟩ T (.box d off) x = some ⟨t2.map (AV.tok f), b'⟩) ∧ ∀ e, e ≠ d → b'[e]? = (s.tok f).b[e]? := by
  unfold storeAV at h ⊢
  dsimp only at h ⊢
  obtain ⟨cs, h1, h2⟩ := Option.bind_eq_some_iff.1 h
  obtain ⟨ks, h3, h4⟩ := Option.bind_eq_some_iff.1 h2
  obtain ⟨n, h5, h6⟩ := Option.bind_eq_some_iff.1 h4
  obtain ⟨h7, h8⟩ := bif_some h6
  clear h h2 h4 h6
  have hbx : ∀ t2, (⟨t2, s.b⟩ : St).boxAt d = some cs := fun t2 => h1
  simp only [hbx, h3, h5, h7, Option.bind_some, cond_true]
  have setb : ∀ (b : Bx) (c : List AV) e, e ≠ d → (b.set d (some c))[e]? = b[e]? := fun b c e he => by
    rw [List.getElem?_set, if_neg (fun h => he h.symm)]
  split at h8
  · rename_i m E l
    cases hm : (m == sub d off)
    · rw [hm] at h8
      simp only [cond_false] at h8 ⊢
      obtain ⟨c2, e1, e2⟩ := Option.map_eq_some_iff.1 h8
      have et : ∀ t2, (((⟨t2, s.b⟩ : St).kill (sub d off)).tok (renF m (sub d off))) = ⟨t2.map (AV.tok fun z => renF m (sub d off) (killF (sub d off) z)), (s.tok fun z => renF m (sub d off) (killF (sub d off) z)).b⟩ := fun t2 => tok_tok _ _
      refine ⟨fun z => renF m (sub d off) (killF (sub d off) z), ((s.tok fun z => renF m (sub d off) (killF (sub d off) z)).b).set d (some (c2.set off (.row (some (sub d off)) E l))), rfl, ?_, fun t2 => ?_, fun e he => setb _ _ e he⟩
      · rw [← e2]
        have := et s.t
        have es : (⟨s.t, s.b⟩ : St) = s := rfl
        rw [es] at this
        rw [this]; rfl
      · have hb2 : (((⟨t2, s.b⟩ : St).kill (sub d off)).tok (renF m (sub d off))).boxAt d = some c2 := by
          rw [et t2]
          have := et s.t
          have es : (⟨s.t, s.b⟩ : St) = s := rfl
          rw [es] at this
          rw [this] at e1
          exact e1
        rw [hb2, Option.map_some, et t2]; rfl
    · rw [hm] at h8
      simp only [cond_true] at h8 ⊢
      cases h8
      refine ⟨id, s.b.set d (some (cs.set off (.row (some m) E l))), rfl, by rw [tokl_id]; rfl, fun t2 => by rw [tokl_id]; rfl, fun e he => ?_⟩
      rw [setb _ _ e he, tok_id (f := id) (fun t => rfl)]
  · rename_i hne
    obtain ⟨c2, e1, e2⟩ := Option.map_eq_some_iff.1 h8
    refine ⟨killsF d off (off + n), ((s.tok (killsF d off (off + n))).b).set d (some (c2.take off ++ (cellsAt none d off ks x.cells ++ c2.drop (off + n)))), rfl, e2.symm, fun t2 => ?_, fun e he => setb _ _ e he⟩
    have hb2 : ((⟨t2, s.b⟩ : St).tok (killsF d off (off + n))).boxAt d = some c2 := e1
    rw [hb2]; rfl
/-- What such a call does, here and wherever it is given the same. -/
def PForm (P : Program) (np : Nat) (takes : FuncId → Option Nat) (call : CallF) (ops : List Oper) (o : Oper) (xs : List Operand) (s : St) (r : St ⊕ Value) : Prop :=
  (∃ (f : Option Nat → Option Nat) (y : AV) (b' : Bx), f none = none ∧ r = .inl ((⟨s.t.map (AV.tok f), b'⟩ : St).put o.dst y) ∧ (∀ s2, Same ops o s s2 → stO P np true takes call ops o s2 = some (.inl ((⟨s2.t.map (AV.tok f), b'⟩ : St).put o.dst y))) ∧
    ∀ d, (∀ x ∈ xs, boxOf (s.ev x) ≠ some d) → b'[d]? = (s.tok f).b[d]?) ∨
  (∃ v, r = .inr v ∧ ∀ s2, Same ops o s s2 → stO P np true takes call ops o s2 = some (.inr v))
theorem pForm {o : Oper} {xs : List Operand} (hx : ptrCall P o = some xs) {r : St ⊕ Value} (h : stO P np true takes call ops o s = some r) : PForm P np takes call ops o xs s r := by
  rcases ptrCall_eq hx with ⟨fid, ys, Ts, hop, rfl⟩ | ⟨T, a, x, hop, rfl⟩
  case inr =>
    obtain ⟨dst, op, ty, pos, after, guard⟩ := o
    dsimp only at hop
    subst hop
    unfold stO at h
    obtain ⟨wn, hw, h⟩ := Option.bind_eq_some_iff.1 h
    have idb : ∀ s2 : St, Same ops ⟨dst, .store T a x, ty, pos, after, guard⟩ s s2 → (⟨s2.t.map (AV.tok id), (s.tok id).b⟩ : St) = s2 := fun s2 h2 => by
      have : (s.tok id).b = (s2.tok id).b := by unfold St.tok; rw [h2.b]
      rw [this]
      exact tok_id (s := s2) (f := id) (fun t => rfl)
    cases wn
    · simp only [cond_false] at h
      cases h
      refine .inl ⟨id, .tup [], (s.tok id).b, rfl, ?_, fun s2 h2 => ?_, fun d _ => rfl⟩
      · show Sum.inl (s.put dst (.tup [])) = Sum.inl ((s.tok id).put dst (.tup []))
        rw [tok_id (f := id) (fun t => rfl)]
      · unfold stO
        rw [h2.wantB, hw, idb s2 h2]
        rfl
    · simp only [cond_true] at h
      have go : ∀ s2, Same ops ⟨dst, .store T a x, ty, pos, after, guard⟩ s s2 → stO P np true takes call ops ⟨dst, .store T a x, ty, pos, after, guard⟩ s2 = stE P np true takes call ⟨dst, .store T a x, ty, pos, after, guard⟩ s2 := fun s2 h2 => by
        unfold stO
        rw [h2.wantB, hw]
        rfl
      have nr : ∀ s2, stE P np true takes call ⟨dst, .store T a x, ty, pos, after, guard⟩ s2 = evX P np takes call (fun v => some (.inr v)) ⟨dst, .store T a x, ty, pos, after, guard⟩ s2 (fun s => some (.inl s)) := fun s2 => rfl
      rw [nr] at h
      unfold evX at h
      dsimp only at h
      cases dst with
      | some d => cases h
      | none =>
        dsimp only at h
        obtain ⟨s', hs, h⟩ := Option.bind_eq_some_iff.1 h
        cases h
        cases ha : s.ev a <;> first | (rw [ha] at hs; unfold storeAV at hs; cases hs; done) | skip
        rename_i d off
        rw [ha] at hs
        obtain ⟨f, b', hf, rfl, hall, hoth⟩ := storeAV_form hs
        refine .inl ⟨f, .dead, b', hf, rfl, fun s2 h2 => ?_, fun e he => hoth e fun hde => he a (by simp) (by rw [ha, hde]; rfl)⟩
        rw [go s2 h2, nr]
        unfold evX
        dsimp only
        have ea : s2.ev a = .box d off := by rw [h2.ev a (by simp [Op.operands]), ha]
        have ex : s2.ev x = s.ev x := h2.ev x (by simp [Op.operands])
        have es : s2 = ⟨s2.t, s.b⟩ := by rw [← h2.b]
        rw [ea, ex]
        have h3 := hall s2.t
        rw [← es] at h3
        rw [h3]
        rfl
  case inl =>
  obtain ⟨dst, op, ty, pos, after, guard⟩ := o
  dsimp only at hop
  subst hop
  unfold stO at h
  have h' := Option.bind_eq_some_iff.1 h
  clear h
  obtain ⟨wn, hw, h⟩ := h'
  cases wn
  · simp only [cond_false] at h
    cases h
    refine .inl ⟨id, .tup [], (s.tok id).b, rfl, ?_, fun s2 h2 => ?_, fun d _ => rfl⟩
    · show Sum.inl (s.put dst (.tup [])) = Sum.inl ((s.tok id).put dst (.tup []))
      rw [tok_id (f := id) (fun t => rfl)]
    · unfold stO
      rw [h2.wantB, hw]
      have e : (⟨s2.t.map (AV.tok id), (s.tok id).b⟩ : St) = s2 := by
        have : (s.tok id).b = (s2.tok id).b := by unfold St.tok; rw [h2.b]
        rw [this]
        exact tok_id (s := s2) (f := id) (fun t => rfl)
      rw [e]
      rfl
  · simp only [cond_true] at h
    have go : ∀ s2, Same ops ⟨dst, .call { callee := .value (.func fid), args := ys, argTypes := Ts }, ty, pos, after, guard⟩ s s2 → stO P np true takes call ops ⟨dst, .call { callee := .value (.func fid), args := ys, argTypes := Ts }, ty, pos, after, guard⟩ s2 = stE P np true takes call ⟨dst, .call { callee := .value (.func fid), args := ys, argTypes := Ts }, ty, pos, after, guard⟩ s2 := fun s2 h2 => by
      unfold stO
      rw [h2.wantB, hw]
      rfl
    have nr : ∀ s2, stE P np true takes call ⟨dst, .call { callee := .value (.func fid), args := ys, argTypes := Ts }, ty, pos, after, guard⟩ s2 =
        evX P np takes call (fun v => some (.inr v)) ⟨dst, .call { callee := .value (.func fid), args := ys, argTypes := Ts }, ty, pos, after, guard⟩ s2 (fun s => some (.inl s)) := fun s2 => rfl
    rw [nr] at h
    unfold evX at h
    dsimp only at h
    obtain ⟨hsz, h⟩ := bif_some h
    obtain ⟨p, hp, h⟩ := Option.bind_eq_some_iff.1 h
    obtain ⟨hd, h⟩ := bif_some h
    obtain ⟨⟨qb, q⟩, hq, h⟩ := Option.bind_eq_some_iff.1 h
    obtain ⟨hqb, h⟩ := bif_some h
    dsimp only at hqb h
    subst hqb
    have hls := argsFor_ls _ _ _ _ hp
    have run : ∀ s2, Same ops ⟨dst, .call { callee := .value (.func fid), args := ys, argTypes := Ts }, ty, pos, after, guard⟩ s s2 → stE P np true takes call ⟨dst, .call { callee := .value (.func fid), args := ys, argTypes := Ts }, ty, pos, after, guard⟩ s2 =
        (match q with
        | .thr v => some (.inr v)
        | .ret v bs => (backS 0 p.ls bs (s2.tok (lostF p (dstN v dst)))).bind fun s => (newTok dst v).bind fun x => some (.inl (s.put dst x))) := fun s2 h2 => by
      rw [nr]
      unfold evX
      dsimp only
      rw [ev_map (s := s) (s' := s2) (fun z hz => h2.ev z (by simp [Op.operands, Call.operands]; exact .inr (by simpa using hz))), argsFor_congr (s := s) (s' := s2) h2.b, hsz, hp]
      simp only [cond_true, Option.bind_some, hd, hq]
      cases q <;> rfl
    cases q with
    | thr v =>
      cases h
      refine .inr ⟨v, rfl, fun s2 h2 => ?_⟩
      rw [go s2 h2, run s2 h2]
    | ret v bs =>
      dsimp only at h
      obtain ⟨s3, hb, h⟩ := Option.bind_eq_some_iff.1 h
      obtain ⟨y, hy, h⟩ := Option.bind_eq_some_iff.1 h
      cases h
      obtain ⟨b', rfl, hall, hoth⟩ := backS_b _ _ _ _ _ _ hb
      refine .inl ⟨lostF p (dstN v dst), y, b', rfl, rfl, fun s2 h2 => ?_, fun d hd => hoth d fun hm => ?_⟩
      · rw [go s2 h2, run s2 h2]
        dsimp only
        have : s2.tok (lostF p (dstN v dst)) = ⟨s2.t.map (AV.tok (lostF p (dstN v dst))), (s.tok (lostF p (dstN v dst))).b⟩ := by
          unfold St.tok; rw [h2.b]
        rw [this]
        have h3 := hall (s2.t.map (AV.tok (lostF p (dstN v dst))))
        have h4 : backS 0 p.ls bs ⟨s2.t.map (AV.tok (lostF p (dstN v dst))), (s.tok (lostF p (dstN v dst))).b⟩ = some ⟨s2.t.map (AV.tok (lostF p (dstN v dst))), b'⟩ := h3
        rw [h4, Option.bind_some, hy]
        rfl
      · obtain ⟨x, hx, hxb⟩ := hls d hm
        obtain ⟨z, hz, rfl⟩ := List.mem_map.1 hx
        exact hd z hz hxb
theorem ev_put {d : Option Nat} {y : Operand} (h : ∀ t, y = .tmp t → d ≠ some t) (x : AV) : (s.put d x).ev y = s.ev y := by
  cases y with
  | tmp t => exact get_put (h t rfl) x
  | _ => rfl
theorem looks_of {o : Oper} {t : Nat} (h : Operand.tmp t ∈ o.op.operands.toList) : t ∈ looks ops o := by
  unfold looks
  exact List.mem_append.2 (.inl (List.mem_filterMap.2 ⟨_, h, rfl⟩))
theorem wval_back {x : Oper} (hw : wOp P x = true) {f : Option Nat → Option Nat} (hf : f none = none) {d : Option Nat} (hd : ∀ e, d = some e → e ∉ looks ops x) (y : AV) {b' : Bx} (hb : ∀ a, loadOf x = some a → ∀ e, boxOf (s.ev a) = some e → b'[e]? = (s.tok f).b[e]?) :
    wval P ops x ((⟨s.t.map (AV.tok f), b'⟩ : St).put d y) = (wval P ops x s).map (AV.tok f) := by
  have h4 : wval P ops x ((s.tok f).put d y) = (wval P ops x s).map (AV.tok f) := by
    rw [wval_same (Same.put (s := s.tok f) hd y), wval_tok hf]
  rw [← h4]
  have et : ((⟨s.t.map (AV.tok f), b'⟩ : St).put d y).t = ((s.tok f).put d y).t := by cases d <;> rfl
  have eg : ∀ t, ((⟨s.t.map (AV.tok f), b'⟩ : St).put d y).get t = ((s.tok f).put d y).get t := fun t => by unfold St.get; rw [et]
  have ee : ∀ z, ((⟨s.t.map (AV.tok f), b'⟩ : St).put d y).ev z = ((s.tok f).put d y).ev z := fun z => by cases z <;> first | exact eg _ | rfl
  have ew : wantB ((⟨s.t.map (AV.tok f), b'⟩ : St).put d y) ops x.guard = wantB ((s.tok f).put d y) ops x.guard := by
    unfold wantB
    cases x.guard with
    | none => rfl
    | some jw =>
      obtain ⟨j, want⟩ := jw
      dsimp only
      have : yieldB ((⟨s.t.map (AV.tok f), b'⟩ : St).put d y) ops j = yieldB ((s.tok f).put d y) ops j := by
        unfold yieldB
        cases hd : (ops[j]?).bind (·.dst) with
        | none => rfl
        | some e => dsimp only; rw [eg]
      rw [this]
  have er : rhs P x ((⟨s.t.map (AV.tok f), b'⟩ : St).put d y) = rhs P x ((s.tok f).put d y) := by
    refine rhs_congr' (fun T a e => ?_) fun z _ => ee z
    have hl : loadOf x = some a := by unfold loadOf; rw [e]
    rw [ee]
    have hva : ((s.tok f).put d y).ev a = (s.ev a).tok f := by
      rw [ev_put (fun t et hdt => hd t hdt (looks_of (by subst et; rw [e]; simp [Op.operands]))), tok_ev]
    cases hq : ((s.tok f).put d y).ev a <;> first | rfl | skip
    rename_i e' off
    have hbx : boxOf (s.ev a) = some e' := by
      rw [← boxOf_tok (f := f), ← hva, hq]; rfl
    show ((St.put _ d y).boxAt e').map _ = (((s.tok f).put d y).boxAt e').map _
    congr 1
    have e1 : (St.put (⟨s.t.map (AV.tok f), b'⟩ : St) d y).b = b' := by cases d <;> rfl
    have e2 : ((s.tok f).put d y).b = (s.tok f).b := by cases d <;> rfl
    unfold St.boxAt
    rw [e1, e2, List.getD_eq_getElem?_getD, List.getD_eq_getElem?_getD, hb a hl e' hbx]
  have eB : rhsB P x ((⟨s.t.map (AV.tok f), b'⟩ : St).put d y) = rhsB P x ((s.tok f).put d y) := rhsB_congr (by rw [et]) fun z _ => ee z
  unfold wval
  rw [ew, er, eB]
theorem put_tb (t : List AV) (b : Bx) (d : Option Nat) (x : AV) : (⟨t, b⟩ : St).put d x = ⟨((⟨t, b⟩ : St).put d x).t, b⟩ := by cases d <;> rfl
def Far (s : St) (p : Operand × List Operand) : Prop := ∀ d, boxOf (s.ev p.1) = some d → ∀ x ∈ p.2, boxOf (s.ev x) ≠ some d
theorem far_of {s : St} {p : Operand × List Operand} (h : aparts s p = true) : Far s p := by
  intro d hd
  unfold aparts at h
  have key : ∀ xs, farFrom s d xs = true → ∀ x ∈ xs, boxOf (s.ev x) ≠ some d := fun xs => by
    induction xs with
    | nil => intro _ x hx; cases hx
    | cons x xs ih =>
      intro h y hy
      unfold farFrom at h
      rw [Bool.and_eq_true] at h
      rcases List.mem_cons.1 hy with rfl | hy
      · intro e
        have h1 := h.1
        cases hq : s.ev y <;> rw [hq] at e h1 <;> cases e
        simp at h1
      · exact ih h.2 y hy
  cases hq : s.ev p.1 <;> rw [hq] at hd h <;> cases hd
  exact key _ h
theorem wOp_load {x : Oper} {a : Operand} (hx : loadOf x = some a) : wOp P x = true := by
  obtain ⟨dst, op, ty, pos, after, guard⟩ := x
  unfold loadOf at hx
  dsimp only at hx
  split at hx
  · rfl
  · cases hx
/-- The load first, then the call: or the other way round. -/
theorem diamond_wp {x y : Oper} {xs : List Operand} (hx1 : wOp P x = true) (hy1 : ptrCall P y = some xs) (ha : apartB ops x y = true) {r : St ⊕ Value} (hfar : ∀ s2, r = .inl s2 → ∀ a, loadOf x = some a → Far s (a, xs)) (hx : stO P np true takes call ops x s = some (.inl s1)) (hy : stO P np true takes call ops y s1 = some r) :
    (∀ s2, r = .inl s2 → ∃ s3, stO P np true takes call ops y s = some (.inl s3) ∧ stO P np true takes call ops x s3 = some (.inl s2)) ∧ (∀ v, r = .inr v → stO P np true takes call ops y s = some (.inr v)) := by
  unfold apartB at ha
  simp only [Bool.and_eq_true] at ha
  have a1 : ∀ d, x.dst = some d → d ∉ looks ops y ∧ y.dst ≠ some d := fun d hd => by
    have := ha.1
    rw [hd] at this
    simpa using this
  have a2 : ∀ d, y.dst = some d → d ∉ looks ops x := fun d hd => by
    have := ha.2
    rw [hd] at this
    simpa using this
  rw [stO_w hx1] at hx
  obtain ⟨vx, hvx, e⟩ := Option.map_eq_some_iff.1 hx
  cases e
  have hS := Same.put (s := s) (o := y) (ops := ops) (fun d hd => (a1 d hd).1) vx
  have hev : ∀ z ∈ xs, (s.put x.dst vx).ev z = s.ev z := fun z hz => ev_put (fun t e hdt => (a1 t hdt).1 (ptr_looks hy1 hz e)) vx
  rcases pForm hy1 hy with ⟨f, vy, b', hf, rfl, hall, hoth⟩ | ⟨v, rfl, hall⟩
  · refine ⟨fun s2 e => ?_, fun v e => (by cases e)⟩
    cases e
    refine ⟨_, hall s hS.symm, ?_⟩
    rw [stO_w hx1, wval_back hx1 hf (fun d hd => a2 d hd) vy (fun a hl e he => ?_), hvx]
    · show some (Sum.inl _) = _
      have e1 : (⟨(s.put x.dst vx).t.map (AV.tok f), b'⟩ : St) = (⟨s.t.map (AV.tok f), b'⟩ : St).put x.dst (vx.tok f) := by
        cases x.dst with
        | none => rfl
        | some d =>
          show (⟨(s.t.set d vx).map (AV.tok f), b'⟩ : St) = ⟨(s.t.map (AV.tok f)).set d (vx.tok f), b'⟩
          rw [List.map_set]
      rw [e1, put_comm (fun c hc e => (a1 c e).2 hc)]
    · have h1 := hoth e (fun z hz => by rw [hev z hz]; exact hfar _ rfl a hl e he z hz)
      rw [h1]
      have : ((s.put x.dst vx).tok f).b = (s.tok f).b := by
        unfold St.tok St.put
        cases x.dst <;> rfl
      rw [this]
  · exact ⟨fun s2 e => (by cases e), fun v' e => (by cases e; exact hall s hS.symm)⟩
/-- The call first, then the load. -/
theorem diamond_pw {x y : Oper} {xs : List Operand} (hx1 : ptrCall P x = some xs) (hy1 : wOp P y = true) (ha : apartB ops x y = true) {r : St ⊕ Value} (hfar : ∀ s2, r = .inl s2 → ∀ a, loadOf y = some a → Far s (a, xs)) (hx : stO P np true takes call ops x s = some (.inl s1)) (hy : stO P np true takes call ops y s1 = some r) :
    (∀ s2, r = .inl s2 → ∃ s3, stO P np true takes call ops y s = some (.inl s3) ∧ stO P np true takes call ops x s3 = some (.inl s2)) ∧ (∀ v, r = .inr v → stO P np true takes call ops y s = some (.inr v)) := by
  unfold apartB at ha
  simp only [Bool.and_eq_true] at ha
  have a1 : ∀ d, x.dst = some d → d ∉ looks ops y ∧ y.dst ≠ some d := fun d hd => by
    have := ha.1
    rw [hd] at this
    simpa using this
  have a2 : ∀ d, y.dst = some d → d ∉ looks ops x := fun d hd => by
    have := ha.2
    rw [hd] at this
    simpa using this
  rcases pForm hx1 hx with ⟨f, vx, b', hf, e, hall, hoth⟩ | ⟨v, e, hall⟩
  · cases e
    rw [stO_w hy1] at hy
    obtain ⟨vy', hvy', e⟩ := Option.map_eq_some_iff.1 hy
    subst e
    rw [wval_back hy1 hf (fun d hd => (a1 d hd).1) vx (fun a hl e he => hoth e fun z hz => hfar _ rfl a hl e he z hz)] at hvy'
    obtain ⟨vy, hvy, rfl⟩ := Option.map_eq_some_iff.1 hvy'
    refine ⟨fun s2 e => ?_, fun v e => (by cases e)⟩
    cases e
    refine ⟨s.put y.dst vy, by rw [stO_w hy1, hvy]; rfl, ?_⟩
    rw [hall _ (Same.put (fun d hd => a2 d hd) vy)]
    have e1 : (⟨(s.put y.dst vy).t.map (AV.tok f), b'⟩ : St) = (⟨s.t.map (AV.tok f), b'⟩ : St).put y.dst (vy.tok f) := by
      cases y.dst with
      | none => rfl
      | some d =>
        show (⟨(s.t.set d vy).map (AV.tok f), b'⟩ : St) = ⟨(s.t.map (AV.tok f)).set d (vy.tok f), b'⟩
        rw [List.map_set]
    rw [e1, put_comm (fun c hc e => (a1 c e).2 hc)]
  · cases e
/-- Where a variable is, stays told, as long as nobody writes over it. -/
theorem storeAV_t {T : TypeId} {a x : AV} {s' : St} (h : storeAV P s T a x = some s') : ∃ f, s'.t = s.t.map (AV.tok f) := by
  unfold storeAV at h
  split at h
  · rename_i d off
    have h1 := Option.bind_eq_some_iff.1 h
    clear h
    obtain ⟨cs, _, h⟩ := h1
    have h1 := Option.bind_eq_some_iff.1 h
    clear h
    obtain ⟨ks, _, h⟩ := h1
    have h1 := Option.bind_eq_some_iff.1 h
    clear h
    obtain ⟨n, _, h⟩ := h1
    have h1 := bif_some h
    clear h
    obtain ⟨hcc, h⟩ := h1
    have ident : s.t = s.t.map (AV.tok id) := (congrArg St.t (tok_id (s := s) (f := id) (fun t => rfl))).symm
    split at h
    · rename_i m E l
      cases hm : m == sub d off <;> rw [hm] at h <;> simp only [cond_true, cond_false] at h
      · obtain ⟨c2, _, e⟩ := Option.map_eq_some_iff.1 h
        cases e
        refine ⟨_, congrArg St.t (tok_tok (s := s) (killF (sub d off)) (renF m (sub d off)))⟩
      · cases h
        exact ⟨id, ident⟩
    · obtain ⟨c2, _, e⟩ := Option.map_eq_some_iff.1 h
      cases e
      exact ⟨_, rfl⟩
  · cases h
theorem boxOf_keep {o : Oper} (ho : (wOp P o || xOp P o || (ptrCall P o).isSome || isStore o) = true) (h : stO P np true takes call ops o s = some (.inl s1)) {z : Operand} (hz : ∀ t, z = .tmp t → o.dst ≠ some t) : boxOf (s1.ev z) = boxOf (s.ev z) := by
  rw [Bool.or_eq_true, Bool.or_eq_true, Bool.or_eq_true] at ho
  rcases ho with ((hw | hx) | hp) | hst
  · rw [stO_w hw] at h
    obtain ⟨v, _, e⟩ := Option.map_eq_some_iff.1 h
    cases e
    rw [ev_put hz]
  · rcases xForm hx h with ⟨f, y, hf, e, _⟩ | ⟨v, e, _⟩
    · cases e
      rw [ev_put hz, tok_ev, boxOf_tok]
    · cases e
  · obtain ⟨xs, hxs⟩ := Option.isSome_iff_exists.1 hp
    rcases pForm hxs h with ⟨f, y, b', hf, e, _⟩ | ⟨v, e, _⟩
    · cases e
      rw [ev_put hz]
      have : (⟨s.t.map (AV.tok f), b'⟩ : St).ev z = (s.tok f).ev z := by cases z <;> rfl
      rw [this, tok_ev, boxOf_tok]
    · cases e
  · obtain ⟨dst, op, ty, pos, after, guard⟩ := o
    obtain ⟨T, a, x, rfl⟩ : ∃ T a x, op = .store T a x := by
      unfold isStore at hst
      dsimp only at hst
      split at hst
      · exact ⟨_, _, _, rfl⟩
      · cases hst
    unfold stO at h
    obtain ⟨wn, hw, h⟩ := Option.bind_eq_some_iff.1 h
    cases wn
    · simp only [cond_false] at h
      cases h
      exact congrArg boxOf (ev_put hz _)
    · simp only [cond_true] at h
      have nr : stE P np true takes call ⟨dst, .store T a x, ty, pos, after, guard⟩ s = evX P np takes call (fun v => some (.inr v)) ⟨dst, .store T a x, ty, pos, after, guard⟩ s (fun s => some (.inl s)) := rfl
      rw [nr] at h
      unfold evX at h
      dsimp only at h
      cases dst with
      | some d => cases h
      | none =>
        dsimp only at h
        obtain ⟨s', hs, h⟩ := Option.bind_eq_some_iff.1 h
        cases h
        obtain ⟨f, ht⟩ := storeAV_t hs
        have : s1.ev z = (s.tok f).ev z := by
          cases z with
          | tmp t => show s1.t.getD t .dead = (s.t.map (AV.tok f)).getD t .dead; rw [ht]
          | _ => rfl
        rw [this, tok_ev, boxOf_tok]
end
end Go.Proofs.YtckdgcpomkefpaaGreatDoor.En
