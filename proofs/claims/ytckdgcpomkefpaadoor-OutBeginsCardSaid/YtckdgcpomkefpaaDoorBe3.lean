/- Part 3 of a proof: what it needs of the program's functions as plain Lean functions, with the proof that the machine's calls come to them, and of plain laws; put together out of smaller texts. No conditions besides those that each statement names. -/
import Derived.IntWalk
import Derived.KernelRfl
import Derived.LoopN
import Derived.Orders
import Derived.Test.YtckdgcpomkefpaaDoorBe2
section
section
set_option linter.unusedVariables false
set_option linter.unusedSimpArgs false
namespace Go.Proofs.YtckdgcpomkefpaaDoor.En
open Go
section
variable {P : Program} {s s1 s2 : St} {np : Nat} {takes : FuncId → Option Nat} {call : CallF} {ops : List Oper}
structure Same (ops : List Oper) (o : Oper) (s s2 : St) : Prop where
  b : s2.b = s.b
  len : s2.t.length = s.t.length
  t : ∀ t ∈ looks ops o, s2.get t = s.get t
theorem Same.ev {o : Oper} (h : Same ops o s s2) (y : Operand) (hy : y ∈ o.op.operands.toList) : s2.ev y = s.ev y := by
  cases y with
  | tmp t => exact h.t t (by unfold looks; exact List.mem_append.2 (.inl (List.mem_filterMap.2 ⟨_, hy, rfl⟩)))
  | _ => rfl
theorem Same.wantB {o : Oper} (h : Same ops o s s2) : wantB s2 ops o.guard = wantB s ops o.guard := by
  unfold En.wantB
  cases hg : o.guard with
  | none => rfl
  | some jw =>
    obtain ⟨j, want⟩ := jw
    dsimp only
    have : yieldB s2 ops j = yieldB s ops j := by
      unfold yieldB
      cases hd : (ops[j]?).bind (·.dst) with
      | none => rfl
      | some d =>
        dsimp only
        rw [h.t d (by unfold looks; exact List.mem_append.2 (.inr (by rw [hg]; simp [tmpOf, hd])))]
    rw [this]
theorem Same.symm {o : Oper} (h : Same ops o s s2) : Same ops o s2 s := ⟨h.b.symm, h.len.symm, fun t ht => (h.t t ht).symm⟩
theorem get_put {d : Option Nat} {t : Nat} (h : d ≠ some t) (x : AV) : (s.put d x).get t = s.get t := by
  cases d with
  | none => rfl
  | some d =>
    unfold St.get St.put
    rw [List.getD_eq_getElem?_getD, List.getD_eq_getElem?_getD, List.getElem?_set, if_neg (by rintro rfl; exact h rfl)]
theorem Same.put {o : Oper} {d : Option Nat} (h : ∀ e, d = some e → e ∉ looks ops o) (x : AV) : Same ops o s (s.put d x) := by
  refine ⟨?_, ?_, fun t ht => get_put (fun e => h t e ht) x⟩
  · cases d <;> rfl
  · cases d <;> simp [St.put]
theorem wantB_tok {f : Option Nat → Option Nat} (gd : Option (Nat × Bool)) : wantB (s.tok f) ops gd = wantB s ops gd := by
  unfold wantB
  cases gd with
  | none => rfl
  | some jw =>
    obtain ⟨j, want⟩ := jw
    dsimp only
    have : yieldB (s.tok f) ops j = yieldB s ops j := by
      unfold yieldB
      cases hd : (ops[j]?).bind (·.dst) with
      | none => rfl
      | some d =>
        dsimp only
        rw [tok_get]
        cases s.get d <;> first | rfl | skip
        rename_i vs
        cases vs <;> rfl
    rw [this]
theorem put_comm {d e : Option Nat} (h : ∀ c, d = some c → e ≠ some c) (x y : AV) : (s.put d x).put e y = (s.put e y).put d x := by
  cases d with
  | none => rfl
  | some d =>
    cases e with
    | none => rfl
    | some e =>
      show (⟨(s.t.set d x).set e y, s.b⟩ : St) = ⟨(s.t.set e y).set d x, s.b⟩
      rw [List.set_comm _ _ (by rintro rfl; exact h _ rfl rfl)]
theorem tok_put {f : Option Nat → Option Nat} (d : Option Nat) (x : AV) : (s.put d x).tok f = (s.tok f).put d (x.tok f) := by
  cases d with
  | none => rfl
  | some d =>
    show (⟨(s.t.set d x).map (AV.tok f), _⟩ : St) = ⟨(s.t.map (AV.tok f)).set d (x.tok f), _⟩
    rw [List.map_set]; rfl
def wval (P : Program) (ops : List Oper) (o : Oper) (s : St) : Option AV := (wantB s ops o.guard).bind fun wn => bif wn then (bif reads P o.op then rhs P o s else rhsB P o s) else some (.tup [])
theorem stO_w {o : Oper} (h : wOp P o = true) : stO P np true takes call ops o s = (wval P ops o s).map fun x => .inl (s.put o.dst x) := by
  unfold stO wval
  cases wantB s ops o.guard with
  | none => rfl
  | some wn =>
    simp only [Option.bind_some]
    cases wn
    · rfl
    · simp only [cond_true]
      unfold stE
      simp only [evOp_def]
      unfold wOp at h
      cases hr : reads P o.op <;> rw [hr] at h
      · have : bsOp o = true := h
        rw [this]
        simp only [cond_false, Bool.and_self, cond_true]
        cases rhsB P o s <;> rfl
      · simp only [cond_true]
        cases rhs P o s <;> rfl
theorem wval_same {o : Oper} (h : Same ops o s s2) : wval P ops o s2 = wval P ops o s := by
  unfold wval
  rw [h.wantB, rhs_congr h.b h.ev, rhsB_congr h.len h.ev]
theorem wval_tok {o : Oper} {f : Option Nat → Option Nat} (hf : f none = none) : wval P ops o (s.tok f) = (wval P ops o s).map (AV.tok f) := by
  unfold wval
  rw [wantB_tok, rhs_tok hf, rhsB_tok hf]
  cases wantB s ops o.guard with
  | none => rfl
  | some wn =>
    cases wn
    · rfl
    · simp only [Option.bind_some, cond_true]
      cases reads P o.op <;> rfl
def XForm (P : Program) (np : Nat) (takes : FuncId → Option Nat) (call : CallF) (ops : List Oper) (o : Oper) (s : St) (r : St ⊕ Value) : Prop :=
  (∃ (f : Option Nat → Option Nat) (y : AV), f none = none ∧ r = .inl ((s.tok f).put o.dst y) ∧ ∀ s2, Same ops o s s2 → stO P np true takes call ops o s2 = some (.inl ((s2.tok f).put o.dst y))) ∨
  (∃ v, r = .inr v ∧ ∀ s2, Same ops o s s2 → stO P np true takes call ops o s2 = some (.inr v))
theorem argsFor_noPtr {take : Option Nat} {s : St} : ∀ (Ts : List TypeId) (xs : List AV) (i : Nat) (p : Pass), (Ts.all fun T => (ptrOf P T).isNone) = true → argsFor P take s Ts xs i = some p → ∀ l ∈ p.ls, l = none
  | [], [], i, p, _, h => by cases h; exact fun l hl => by cases hl
  | T :: Ts, x :: xs, i, p, hn, h => by
    simp only [argsFor] at h
    have h' := Option.bind_eq_some_iff.1 h
    clear h
    obtain ⟨q, hq, h⟩ := h'
    simp only [List.all_cons, Bool.and_eq_true] at hn
    have ih := argsFor_noPtr Ts xs (i + 1) q hn.2 hq
    have mk : p.ls = none :: q.ls → ∀ l ∈ p.ls, l = none := fun e l hl => by
      rw [e] at hl
      rcases List.mem_cons.1 hl with rfl | hl
      · rfl
      · exact ih l hl
    split at h
    · split at h
      · rename_i E hu
        have := hn.1
        rw [hu] at this
        cases this
      · cases h
    · rename_i t E l
      cases t with
      | some n =>
        dsimp only at h
        cases hc : (take == some i && Nat.blt n 1024) <;> rw [hc] at h <;> cases h <;> exact mk rfl
      | none => cases h; exact mk rfl
    · split at h
      · cases h; exact mk rfl
      · cases h
    · cases h; exact mk rfl
    · cases h; exact mk rfl
    · cases h
  | [], _ :: _, i, p, _, h => by simp [argsFor] at h
  | _ :: _, [], i, p, _, h => by simp [argsFor] at h
theorem backS_any : ∀ (ls : List (Option Nat)) (i : Nat) (bs : Bx) (s s' : St), (∀ l ∈ ls, l = none) → backS i ls bs s = some s' → ∀ s2, backS i ls bs s2 = some s2
  | [], i, bs, s, s', _, h => fun s2 => rfl
  | none :: ls, i, _ :: bs, s, s', hl, h => fun s2 => backS_any ls (i + 1) bs s s' (fun l hm => hl l (by simp [hm])) h s2
  | none :: ls, i, [], s, s', _, h => by cases h
  | some d :: ls, i, bs, s, s', hl, h => by have := hl (some d) (by simp); cases this
theorem kill2 (n d : Nat) : (s.kill n).kill d = s.tok (fun t => killF d (killF n t)) := tok_tok _ _
theorem assign_form (P : Program) (T : TypeId) (d : Nat) (x : AV) : ∃ (f : Option Nat → Option Nat) (y : AV), f none = none ∧ ∀ s : St, s.assign P T d x = (s.tok f).put (some d) y := by
  have plain : ∀ y : AV, ∃ (f : Option Nat → Option Nat) (z : AV), f none = none ∧ ∀ s : St, s.put (some d) y = (s.tok f).put (some d) z := fun y => ⟨id, y, rfl, fun s => by rw [tok_id (f := id) (fun t => rfl)]⟩
  unfold St.assign
  split
  · rename_i n E l
    cases n == d
    · exact ⟨fun t => renF n d (killF d t), .row (some d) E l, rfl, fun s => by
        simp only [cond_false, St.kill, tok_tok]⟩
    · exact plain _
  · split
    · rename_i E _
      exact ⟨killF d, .row (some d) E [], rfl, fun s => rfl⟩
    · exact plain _
  · exact plain _
theorem appendAV_form {Ts : Array TypeId} {xs : List AV} {d : Nat} {s' : St} (h : appendAV P Ts xs s d = some s') : ∃ (f : Option Nat → Option Nat) (y : AV), f none = none ∧ s' = (s.tok f).put (some d) y ∧ ∀ s2 : St, appendAV P Ts xs s2 d = some ((s2.tok f).put (some d) y) := by
  unfold appendAV at h ⊢
  split at h
  · rename_i n E l y
    cases hok : appOk P Ts E <;> rw [hok] at h
    · cases h
    simp only [cond_true] at h ⊢
    split at h
    · rename_i t E' m
      obtain ⟨hc, h⟩ := bif_some h
      cases h
      refine ⟨fun t => killF d (killF n t), _, rfl, by rw [kill2], fun s2 => ?_⟩
      rw [hc, kill2]; rfl
    · obtain ⟨hc, h⟩ := bif_some h
      cases h
      refine ⟨fun t => killF d (killF n t), _, rfl, by rw [kill2], fun s2 => ?_⟩
      rw [hc, kill2]; rfl
    · rename_i str
      split at h
      · obtain ⟨hc, h⟩ := bif_some h
        cases h
        refine ⟨fun t => killF d (killF n t), _, rfl, by rw [kill2], fun s2 => ?_⟩
        rw [hc, kill2]; rfl
      · cases h
    · cases h
  · split at h
    · rename_i E hE
      obtain ⟨hok, h⟩ := bif_some h
      obtain ⟨hc, h⟩ := bif_some h
      cases h
      refine ⟨killF d, _, rfl, rfl, fun s2 => ?_⟩
      rw [hok, hc]; rfl
    · cases h
  · cases h
theorem xForm {o : Oper} (hx : xOp P o = true) {r : St ⊕ Value} (h : stO P np true takes call ops o s = some r) : XForm P np takes call ops o s r := by
  unfold stO at h
  have h' := Option.bind_eq_some_iff.1 h
  clear h
  obtain ⟨wn, hw, h⟩ := h'
  cases wn
  · simp only [cond_false] at h
    cases h
    refine .inl ⟨id, .tup [], rfl, by rw [tok_id (f := id) (fun t => rfl)], fun s2 h2 => ?_⟩
    unfold stO
    rw [h2.wantB, hw, tok_id (f := id) (fun t => rfl)]
    rfl
  · simp only [cond_true] at h
    have go : ∀ s2, Same ops o s s2 → stO P np true takes call ops o s2 = stE P np true takes call o s2 := fun s2 h2 => by
      unfold stO
      rw [h2.wantB, hw]
      rfl
    obtain ⟨dst, op, ty, pos, after, guard⟩ := o
    unfold xOp at hx
    dsimp only at hx
    split at hx
    · rename_i xs Ts
      have nr : ∀ s2, stE P np true takes call ⟨dst, .call { callee := .builtin .append, args := xs, argTypes := Ts }, ty, pos, after, guard⟩ s2 =
          evX P np takes call (fun v => some (.inr v)) ⟨dst, .call { callee := .builtin .append, args := xs, argTypes := Ts }, ty, pos, after, guard⟩ s2 (fun s => some (.inl s)) := fun s2 => rfl
      rw [nr] at h
      unfold evX at h
      simp only [appendK_eq] at h
      cases dst with
      | none => cases h
      | some d =>
        dsimp only at h
        obtain ⟨hd, h⟩ := bif_some h
        obtain ⟨s', hs', h⟩ := Option.bind_eq_some_iff.1 h
        cases h
        obtain ⟨f, y, hf, rfl, hall⟩ := appendAV_form hs'
        refine .inl ⟨f, y, hf, rfl, fun s2 h2 => ?_⟩
        rw [go s2 h2, nr]
        unfold evX
        simp only [appendK_eq]
        (try dsimp only)
        rw [ev_map (s := s) (s' := s2) (fun z hz => h2.ev z (by simp [Op.operands, Call.operands]; simpa using hz)), h2.len, hd, hall s2]
        rfl
    · rename_i f xs Ts
      have nr : ∀ s2, stE P np true takes call ⟨dst, .call { callee := .value (.func f), args := xs, argTypes := Ts }, ty, pos, after, guard⟩ s2 =
          evX P np takes call (fun v => some (.inr v)) ⟨dst, .call { callee := .value (.func f), args := xs, argTypes := Ts }, ty, pos, after, guard⟩ s2 (fun s => some (.inl s)) := fun s2 => rfl
      rw [nr] at h
      unfold evX at h
      dsimp only at h
      unfold callK at h
      obtain ⟨hsz, h⟩ := bif_some h
      obtain ⟨p, hp, h⟩ := Option.bind_eq_some_iff.1 h
      obtain ⟨hd, h⟩ := bif_some h
      obtain ⟨⟨qb, q⟩, hq, h⟩ := Option.bind_eq_some_iff.1 h
      obtain ⟨hqb, h⟩ := bif_some h
      dsimp only at hqb h
      subst hqb
      have hls := argsFor_noPtr _ _ _ _ hx hp
      have run : ∀ s2, Same ops ⟨dst, .call { callee := .value (.func f), args := xs, argTypes := Ts }, ty, pos, after, guard⟩ s s2 → stE P np true takes call ⟨dst, .call { callee := .value (.func f), args := xs, argTypes := Ts }, ty, pos, after, guard⟩ s2 =
          (match q with
          | .thr v => some (.inr v)
          | .ret v bs => (backS 0 p.ls bs (s2.tok (lostF p (dstN v dst)))).bind fun s => (newTok dst v).bind fun x => some (.inl (s.put dst x))) := fun s2 h2 => by
        rw [nr]
        unfold evX
        dsimp only
        rw [ev_map (s := s) (s' := s2) (fun z hz => h2.ev z (by simp [Op.operands, Call.operands]; exact .inr (by simpa using hz)))]
        unfold callK
        rw [argsFor_congr (s := s) (s' := s2) h2.b, hsz, hp]
        simp only [cond_true, Option.bind_some, hd, hq]
        cases q <;> rfl
      cases q with
      | thr v =>
        cases h
        refine .inr ⟨v, rfl, fun s2 h2 => ?_⟩
        rw [go s2 h2, run s2 h2]
      | ret v bs =>
        dsimp only at h
        obtain ⟨s3, hb, h⟩ := Option.bind_eq_some_iff.1 h
        obtain ⟨y, hy, h⟩ := Option.bind_eq_some_iff.1 h
        cases h
        have e3 := backS_none _ _ _ _ _ hls hb
        subst e3
        refine .inl ⟨lostF p (dstN v dst), y, rfl, rfl, fun s2 h2 => ?_⟩
        rw [go s2 h2, run s2 h2]
        dsimp only
        rw [backS_any _ _ _ _ _ hls hb, hy]
        rfl
    · rename_i x
      have nr : ∀ s2, stE P np true takes call ⟨dst, .assign x, ty, pos, after, guard⟩ s2 = evX P np takes call (fun v => some (.inr v)) ⟨dst, .assign x, ty, pos, after, guard⟩ s2 (fun s => some (.inl s)) := fun s2 => rfl
      rw [nr] at h
      unfold evX at h
      cases dst with
      | none => cases h
      | some d =>
        dsimp only at h
        cases h
        obtain ⟨f, y, hf, hall⟩ := assign_form P ty d (s.ev x)
        refine .inl ⟨f, y, hf, by rw [hall], fun s2 h2 => ?_⟩
        rw [go s2 h2, nr]
        unfold evX
        dsimp only
        rw [h2.ev x (by simp [Op.operands]), hall]
    · cases hx
theorem diamond {x y : Oper} (hp : pairOk P ops x y = true) (hx : stO P np true takes call ops x s = some (.inl s1)) {r : St ⊕ Value} (hy : stO P np true takes call ops y s1 = some r) :
    (∀ s2, r = .inl s2 → ∃ s3, stO P np true takes call ops y s = some (.inl s3) ∧ stO P np true takes call ops x s3 = some (.inl s2)) ∧ (∀ v, r = .inr v → stO P np true takes call ops y s = some (.inr v)) := by
  unfold pairOk at hp
  simp only [Bool.and_eq_true, Bool.or_eq_true] at hp
  obtain ⟨ha, hk⟩ := hp
  unfold apartB at ha
  simp only [Bool.and_eq_true] at ha
  have a1 : ∀ d, x.dst = some d → d ∉ looks ops y ∧ y.dst ≠ some d := fun d hd => by
    have := ha.1
    rw [hd] at this
    simpa using this
  have a2 : ∀ d, y.dst = some d → d ∉ looks ops x := fun d hd => by
    have := ha.2
    rw [hd] at this
    simpa using this
  rcases hk with (⟨wx, wy⟩ | ⟨wx, xy⟩) | ⟨xx, wy⟩
  · rw [stO_w wx] at hx
    obtain ⟨vx, hvx, e⟩ := Option.map_eq_some_iff.1 hx
    cases e
    rw [stO_w wy, wval_same (Same.put (s := s) (fun d hd => (a1 d hd).1) vx)] at hy
    obtain ⟨vy, hvy, e⟩ := Option.map_eq_some_iff.1 hy
    subst e
    refine ⟨fun s2 e => ?_, fun v e => (by cases e)⟩
    cases e
    refine ⟨s.put y.dst vy, by rw [stO_w wy, hvy]; rfl, ?_⟩
    rw [stO_w wx, wval_same (Same.put (s := s) (fun d hd => a2 d hd) vy), hvx]
    show some (Sum.inl _) = _
    rw [put_comm (fun c hc e => (a1 c e).2 hc)]
  · rw [stO_w wx] at hx
    obtain ⟨vx, hvx, e⟩ := Option.map_eq_some_iff.1 hx
    cases e
    have hS := Same.put (s := s) (o := y) (ops := ops) (fun d hd => (a1 d hd).1) vx
    rcases xForm xy hy with ⟨f, vy, hf, rfl, hall⟩ | ⟨v, rfl, hall⟩
    · refine ⟨fun s2 e => ?_, fun v e => (by cases e)⟩
      cases e
      refine ⟨_, hall s hS.symm, ?_⟩
      rw [stO_w wx, wval_same (Same.put (s := s.tok f) (fun d hd => a2 d hd) vy), wval_tok hf, hvx]
      show some (Sum.inl _) = _
      rw [tok_put, put_comm (fun c hc e => (a1 c e).2 hc)]
    · exact ⟨fun s2 e => (by cases e), fun v' e => (by cases e; exact hall s hS.symm)⟩
  · rcases xForm xx hx with ⟨f, vx, hf, e, hall⟩ | ⟨v, e, hall⟩
    · cases e
      rw [stO_w wy, wval_same (Same.put (s := s.tok f) (fun d hd => (a1 d hd).1) vx), wval_tok hf] at hy
      obtain ⟨vy', hvy', e⟩ := Option.map_eq_some_iff.1 hy
      obtain ⟨vy, hvy, rfl⟩ := Option.map_eq_some_iff.1 hvy'
      subst e
      refine ⟨fun s2 e => ?_, fun v e => (by cases e)⟩
      cases e
      refine ⟨s.put y.dst vy, by rw [stO_w wy, hvy]; rfl, ?_⟩
      rw [hall _ (Same.put (fun d hd => a2 d hd) vy), tok_put, put_comm (fun c hc e => (a1 c e).2 hc)]
    · cases e
def boxOf : AV → Option Nat | .box d _ => some d | _ => none
theorem boxOf_tok {f : Option Nat → Option Nat} (x : AV) : boxOf (x.tok f) = boxOf x := by cases x <;> rfl
theorem backS_b : ∀ (ls : List (Option Nat)) (i : Nat) (bs : Bx) (t : List AV) (b : Bx) (s' : St), backS i ls bs ⟨t, b⟩ = some s' → ∃ b', s' = ⟨t, b'⟩ ∧ (∀ t2, backS i ls bs ⟨t2, b⟩ = some ⟨t2, b'⟩) ∧ ∀ d, some d ∉ ls → b'[d]? = b[d]?
  | [], i, bs, t, b, s', h => by cases h; exact ⟨b, rfl, fun t2 => rfl, fun d _ => rfl⟩
  | none :: ls, i, _ :: bs, t, b, s', h => by
    obtain ⟨b', e, h1, h2⟩ := backS_b ls (i + 1) bs t b s' h
    exact ⟨b', e, h1, fun d hd => h2 d fun hm => hd (by simp [hm])⟩
  | none :: ls, i, [], t, b, s', h => by cases h
  | some d :: ls, i, none :: bs, t, b, s', h => by cases h
  | some d :: ls, i, [], t, b, s', h => by cases h
  | some d :: ls, i, some cs :: bs, t, b, s', h => by
    have h' : ((b.getD d none).bind fun old => bif Nat.beq cs.length old.length then backS (i + 1) ls bs ⟨t, b.set d (some (giveL i d 0 cs))⟩ else none) = some s' := h
    obtain ⟨old, ho, h2⟩ := Option.bind_eq_some_iff.1 h'
    obtain ⟨hc, h3⟩ := bif_some h2
    obtain ⟨b', e, h4, h5⟩ := backS_b ls (i + 1) bs t _ s' h3
    refine ⟨b', e, fun t2 => ?_, fun e' he => ?_⟩
    · show ((b.getD d none).bind fun old => bif Nat.beq cs.length old.length then backS (i + 1) ls bs ⟨t2, b.set d (some (giveL i d 0 cs))⟩ else none) = _
      rw [ho, Option.bind_some, hc]
      exact h4 t2
    · rw [h5 e' fun hm => he (by simp [hm]), List.getElem?_set, if_neg (by rintro rfl; exact he (by simp))]
theorem argsFor_ls {take : Option Nat} {s : St} : ∀ (Ts : List TypeId) (xs : List AV) (i : Nat) (p : Pass), argsFor P take s Ts xs i = some p → ∀ d, some d ∈ p.ls → ∃ x ∈ xs, boxOf x = some d
  | [], [], i, p, h => by cases h; exact fun d hd => by cases hd
  | T :: Ts, x :: xs, i, p, h => by
    simp only [argsFor] at h
    have h' := Option.bind_eq_some_iff.1 h
    clear h
    obtain ⟨q, hq, h⟩ := h'
    have ih := argsFor_ls Ts xs (i + 1) q hq
    have mk : p.ls = none :: q.ls → ∀ d, some d ∈ p.ls → ∃ y ∈ x :: xs, boxOf y = some d := fun e d hd => by
      rw [e] at hd
      rcases List.mem_cons.1 hd with h0 | hd
      · cases h0
      · obtain ⟨y, hy, hb⟩ := ih d hd
        exact ⟨y, by simp [hy], hb⟩
    split at h
    · rename_i d' off
      split at h
      · obtain ⟨cs, hcs, h⟩ := Option.bind_eq_some_iff.1 h
        obtain ⟨_, h⟩ := bif_some h
        cases h
        intro d hd
        rcases List.mem_cons.1 hd with h0 | hd
        · cases h0; exact ⟨.box d' off, by simp, rfl⟩
        · obtain ⟨y, hy, hb⟩ := ih d hd
          exact ⟨y, by simp [hy], hb⟩
      · cases h
    · rename_i t E l
      cases t with
      | some n =>
        dsimp only at h
        cases hc : (take == some i && Nat.blt n 1024) <;> rw [hc] at h <;> cases h <;> exact mk rfl
      | none => cases h; exact mk rfl
    · split at h
      · cases h; exact mk rfl
      · cases h
    · cases h; exact mk rfl
    · cases h; exact mk rfl
    · cases h
  | [], _ :: _, i, p, h => by simp [argsFor] at h
  | _ :: _, [], i, p, h => by simp [argsFor] at h
theorem ptrCall_eq {o : Oper} {xs : List Operand} (h : ptrCall P o = some xs) : (∃ (f : FuncId) (ys : Array Operand) (Ts : Array TypeId), o.op = .call { callee := .value (.func f), args := ys, argTypes := Ts } ∧ xs = ys.toList) ∨ ∃ (T : TypeId) (a x : Operand), o.op = .store T a x ∧ xs = [a] := by
  obtain ⟨dst, op, ty, pos, after, guard⟩ := o
  unfold ptrCall at h
  dsimp only at h
  split at h
  · rename_i f ys Ts
    cases hn : noPtr P f Ts <;> rw [hn] at h <;> cases h
    exact .inl ⟨f, ys, Ts, rfl, rfl⟩
  · cases h
    exact .inr ⟨_, _, _, rfl, rfl⟩
  · cases h
theorem ptr_looks {o : Oper} {xs : List Operand} (h : ptrCall P o = some xs) {z : Operand} (hz : z ∈ xs) {t : Nat} (e : z = .tmp t) : t ∈ looks ops o := by
  unfold looks
  refine List.mem_append.2 (.inl (List.mem_filterMap.2 ⟨z, ?_, by rw [e]⟩))
  rcases ptrCall_eq h with ⟨f, ys, Ts, h1, rfl⟩ | ⟨T, a, x, h1, rfl⟩
  · rw [h1]
    simp [Op.operands, Call.operands]
    exact .inr (by simpa using hz)
  · rw [h1]
    simp at hz
    subst hz
    simp [Op.operands]
theorem ptr_load {o : Oper} {xs : List Operand} (h : ptrCall P o = some xs) : loadOf o = none := by
  unfold loadOf
  rcases ptrCall_eq h with ⟨f, ys, Ts, h1, rfl⟩ | ⟨T, a, x, h1, rfl⟩ <;> rw [h1]
theorem tokl_id (t : List AV) : t.map (AV.tok id) = t := congrArg St.t (tok_id (s := ⟨t, []⟩) (f := id) (fun t => rfl))
theorem storeAV_form {T : TypeId} {d off : Nat} {x : AV} {s' : St} (h : storeAV P s T (.box d off) x = some s') : ∃ (f : Option Nat → Option Nat) (b' : Bx), f none = none ∧ s' = ⟨s.t.map (AV.tok f), b'⟩ ∧ (∀ t2, storeAV P ⟨t2, s.b⟩ T (.box d off) x = some ⟨t2.map (AV.tok f), b'⟩) ∧ ∀ e, e ≠ d → b'[e]? = (s.tok f).b[e]? := by
  unfold storeAV at h ⊢
  dsimp only at h ⊢
  obtain ⟨cs, h1, h2⟩ := Option.bind_eq_some_iff.1 h
  obtain ⟨ks, h3, h4⟩ := Option.bind_eq_some_iff.1 h2
  obtain ⟨n, h5, h6⟩ := Option.bind_eq_some_iff.1 h4
  obtain ⟨h7, h8⟩ := bif_some h6
  clear h h2 h4 h6
  have hbx : ∀ t2, (⟨t2, s.b⟩ : St).boxAt d = some cs := fun t2 => h1
  simp only [hbx, h3, h5, h7, Option.bind_some, cond_true]
  have setb : ∀ (b : Bx) (c : List AV) e, e ≠ d → (b.set d (some c))[e]? = b[e]? := fun b c e he => by
    rw [List.getElem?_set, if_neg (fun h => he h.symm)]
  split at h8
  · rename_i m E l
    cases hm : (m == sub d off)
    · rw [hm] at h8
      simp only [cond_false] at h8 ⊢
      obtain ⟨c2, e1, e2⟩ := Option.map_eq_some_iff.1 h8
      have et : ∀ t2, (((⟨t2, s.b⟩ : St).kill (sub d off)).tok (renF m (sub d off))) = ⟨t2.map (AV.tok fun z => renF m (sub d off) (killF (sub d off) z)), (s.tok fun z => renF m (sub d off) (killF (sub d off) z)).b⟩ := fun t2 => tok_tok _ _
      refine ⟨fun z => renF m (sub d off) (killF (sub d off) z), ((s.tok fun z => renF m (sub d off) (killF (sub d off) z)).b).set d (some (c2.set off (.row (some (sub d off)) E l))), rfl, ?_, fun t2 => ?_, fun e he => setb _ _ e he⟩
      · rw [← e2]
        have := et s.t
        have es : (⟨s.t, s.b⟩ : St) = s := rfl
        rw [es] at this
        rw [this]; rfl
      · have hb2 : (((⟨t2, s.b⟩ : St).kill (sub d off)).tok (renF m (sub d off))).boxAt d = some c2 := by
          rw [et t2]
          have := et s.t
          have es : (⟨s.t, s.b⟩ : St) = s := rfl
          rw [es] at this
          rw [this] at e1
          exact e1
        rw [hb2, Option.map_some, et t2]; rfl
    · rw [hm] at h8
      simp only [cond_true] at h8 ⊢
      cases h8
      refine ⟨id, s.b.set d (some (cs.set off (.row (some m) E l))), rfl, by rw [tokl_id]; rfl, fun t2 => by rw [tokl_id]; rfl, fun e he => ?_⟩
      rw [setb _ _ e he, tok_id (f := id) (fun t => rfl)]
  · rename_i hne
    obtain ⟨c2, e1, e2⟩ := Option.map_eq_some_iff.1 h8
    refine ⟨moveF d off (off + n) (uniqT [] x.cells), ((s.tok (moveF d off (off + n) (uniqT [] x.cells))).b).set d (some (c2.take off ++ (intoL d off (uniqT [] x.cells) (cellsAt none d off ks x.cells) ++ c2.drop (off + n)))), rfl, e2.symm, fun t2 => ?_, fun e he => setb _ _ e he⟩
    have hb2 : ((⟨t2, s.b⟩ : St).tok (moveF d off (off + n) (uniqT [] x.cells))).boxAt d = some c2 := e1
    rw [hb2]; rfl
def PForm (P : Program) (np : Nat) (takes : FuncId → Option Nat) (call : CallF) (ops : List Oper) (o : Oper) (xs : List Operand) (s : St) (r : St ⊕ Value) : Prop :=
  (∃ (f : Option Nat → Option Nat) (y : AV) (b' : Bx), f none = none ∧ r = .inl ((⟨s.t.map (AV.tok f), b'⟩ : St).put o.dst y) ∧ (∀ s2, Same ops o s s2 → stO P np true takes call ops o s2 = some (.inl ((⟨s2.t.map (AV.tok f), b'⟩ : St).put o.dst y))) ∧
    ∀ d, (∀ x ∈ xs, boxOf (s.ev x) ≠ some d) → b'[d]? = (s.tok f).b[d]?) ∨
  (∃ v, r = .inr v ∧ ∀ s2, Same ops o s s2 → stO P np true takes call ops o s2 = some (.inr v))
theorem pForm {o : Oper} {xs : List Operand} (hx : ptrCall P o = some xs) {r : St ⊕ Value} (h : stO P np true takes call ops o s = some r) : PForm P np takes call ops o xs s r := by
  rcases ptrCall_eq hx with ⟨fid, ys, Ts, hop, rfl⟩ | ⟨T, a, x, hop, rfl⟩
  case inr =>
    obtain ⟨dst, op, ty, pos, after, guard⟩ := o
    dsimp only at hop
    subst hop
    unfold stO at h
    obtain ⟨wn, hw, h⟩ := Option.bind_eq_some_iff.1 h
    have idb : ∀ s2 : St, Same ops ⟨dst, .store T a x, ty, pos, after, guard⟩ s s2 → (⟨s2.t.map (AV.tok id), (s.tok id).b⟩ : St) = s2 := fun s2 h2 => by
      have : (s.tok id).b = (s2.tok id).b := by unfold St.tok; rw [h2.b]
      rw [this]
      exact tok_id (s := s2) (f := id) (fun t => rfl)
    cases wn
    · simp only [cond_false] at h
      cases h
      refine .inl ⟨id, .tup [], (s.tok id).b, rfl, ?_, fun s2 h2 => ?_, fun d _ => rfl⟩
      · show Sum.inl (s.put dst (.tup [])) = Sum.inl ((s.tok id).put dst (.tup []))
        rw [tok_id (f := id) (fun t => rfl)]
      · unfold stO
        rw [h2.wantB, hw, idb s2 h2]
        rfl
    · simp only [cond_true] at h
      have go : ∀ s2, Same ops ⟨dst, .store T a x, ty, pos, after, guard⟩ s s2 → stO P np true takes call ops ⟨dst, .store T a x, ty, pos, after, guard⟩ s2 = stE P np true takes call ⟨dst, .store T a x, ty, pos, after, guard⟩ s2 := fun s2 h2 => by
        unfold stO
        rw [h2.wantB, hw]
        rfl
      have nr : ∀ s2, stE P np true takes call ⟨dst, .store T a x, ty, pos, after, guard⟩ s2 = evX P np takes call (fun v => some (.inr v)) ⟨dst, .store T a x, ty, pos, after, guard⟩ s2 (fun s => some (.inl s)) := fun s2 => rfl
      rw [nr] at h
      unfold evX at h
      dsimp only at h
      cases dst with
      | some d => cases h
      | none =>
        dsimp only at h
        obtain ⟨s', hs, h⟩ := Option.bind_eq_some_iff.1 h
        cases h
        cases ha : s.ev a <;> first | (rw [ha] at hs; unfold storeAV at hs; cases hs; done) | skip
        rename_i d off
        rw [ha] at hs
        obtain ⟨f, b', hf, rfl, hall, hoth⟩ := storeAV_form hs
        refine .inl ⟨f, .dead, b', hf, rfl, fun s2 h2 => ?_, fun e he => hoth e fun hde => he a (by simp) (by rw [ha, hde]; rfl)⟩
        rw [go s2 h2, nr]
        unfold evX
        dsimp only
        have ea : s2.ev a = .box d off := by rw [h2.ev a (by simp [Op.operands]), ha]
        have ex : s2.ev x = s.ev x := h2.ev x (by simp [Op.operands])
        have es : s2 = ⟨s2.t, s.b⟩ := by rw [← h2.b]
        rw [ea, ex]
        have h3 := hall s2.t
        rw [← es] at h3
        rw [h3]
        rfl
  case inl =>
  obtain ⟨dst, op, ty, pos, after, guard⟩ := o
  dsimp only at hop
  subst hop
  unfold stO at h
  have h' := Option.bind_eq_some_iff.1 h
  clear h
  obtain ⟨wn, hw, h⟩ := h'
  cases wn
  · simp only [cond_false] at h
    cases h
    refine .inl ⟨id, .tup [], (s.tok id).b, rfl, ?_, fun s2 h2 => ?_, fun d _ => rfl⟩
    · show Sum.inl (s.put dst (.tup [])) = Sum.inl ((s.tok id).put dst (.tup []))
      rw [tok_id (f := id) (fun t => rfl)]
    · unfold stO
      rw [h2.wantB, hw]
      have e : (⟨s2.t.map (AV.tok id), (s.tok id).b⟩ : St) = s2 := by
        have : (s.tok id).b = (s2.tok id).b := by unfold St.tok; rw [h2.b]
        rw [this]
        exact tok_id (s := s2) (f := id) (fun t => rfl)
      rw [e]
      rfl
  · simp only [cond_true] at h
    have go : ∀ s2, Same ops ⟨dst, .call { callee := .value (.func fid), args := ys, argTypes := Ts }, ty, pos, after, guard⟩ s s2 → stO P np true takes call ops ⟨dst, .call { callee := .value (.func fid), args := ys, argTypes := Ts }, ty, pos, after, guard⟩ s2 = stE P np true takes call ⟨dst, .call { callee := .value (.func fid), args := ys, argTypes := Ts }, ty, pos, after, guard⟩ s2 := fun s2 h2 => by
      unfold stO
      rw [h2.wantB, hw]
      rfl
    have nr : ∀ s2, stE P np true takes call ⟨dst, .call { callee := .value (.func fid), args := ys, argTypes := Ts }, ty, pos, after, guard⟩ s2 =
        evX P np takes call (fun v => some (.inr v)) ⟨dst, .call { callee := .value (.func fid), args := ys, argTypes := Ts }, ty, pos, after, guard⟩ s2 (fun s => some (.inl s)) := fun s2 => rfl
    rw [nr] at h
    unfold evX at h
    dsimp only at h
    unfold callK at h
    obtain ⟨hsz, h⟩ := bif_some h
    obtain ⟨p, hp, h⟩ := Option.bind_eq_some_iff.1 h
    obtain ⟨hd, h⟩ := bif_some h
    obtain ⟨⟨qb, q⟩, hq, h⟩ := Option.bind_eq_some_iff.1 h
    obtain ⟨hqb, h⟩ := bif_some h
    dsimp only at hqb h
    subst hqb
    have hls := argsFor_ls _ _ _ _ hp
    have run : ∀ s2, Same ops ⟨dst, .call { callee := .value (.func fid), args := ys, argTypes := Ts }, ty, pos, after, guard⟩ s s2 → stE P np true takes call ⟨dst, .call { callee := .value (.func fid), args := ys, argTypes := Ts }, ty, pos, after, guard⟩ s2 =
        (match q with
        | .thr v => some (.inr v)
        | .ret v bs => (backS 0 p.ls bs (s2.tok (lostF p (dstN v dst)))).bind fun s => (newTok dst v).bind fun x => some (.inl (s.put dst x))) := fun s2 h2 => by
      rw [nr]
      unfold evX
      dsimp only
      rw [ev_map (s := s) (s' := s2) (fun z hz => h2.ev z (by simp [Op.operands, Call.operands]; exact .inr (by simpa using hz)))]
      unfold callK
      rw [argsFor_congr (s := s) (s' := s2) h2.b, hsz, hp]
      simp only [cond_true, Option.bind_some, hd, hq]
      cases q <;> rfl
    cases q with
    | thr v =>
      cases h
      refine .inr ⟨v, rfl, fun s2 h2 => ?_⟩
      rw [go s2 h2, run s2 h2]
    | ret v bs =>
      dsimp only at h
      obtain ⟨s3, hb, h⟩ := Option.bind_eq_some_iff.1 h
      obtain ⟨y, hy, h⟩ := Option.bind_eq_some_iff.1 h
      cases h
      obtain ⟨b', rfl, hall, hoth⟩ := backS_b _ _ _ _ _ _ hb
      refine .inl ⟨lostF p (dstN v dst), y, b', rfl, rfl, fun s2 h2 => ?_, fun d hd => hoth d fun hm => ?_⟩
      · rw [go s2 h2, run s2 h2]
        dsimp only
        have : s2.tok (lostF p (dstN v dst)) = ⟨s2.t.map (AV.tok (lostF p (dstN v dst))), (s.tok (lostF p (dstN v dst))).b⟩ := by
          unfold St.tok; rw [h2.b]
        rw [this]
        have h3 := hall (s2.t.map (AV.tok (lostF p (dstN v dst))))
        have h4 : backS 0 p.ls bs ⟨s2.t.map (AV.tok (lostF p (dstN v dst))), (s.tok (lostF p (dstN v dst))).b⟩ = some ⟨s2.t.map (AV.tok (lostF p (dstN v dst))), b'⟩ := h3
        rw [h4, Option.bind_some, hy]
        rfl
      · obtain ⟨x, hx, hxb⟩ := hls d hm
        obtain ⟨z, hz, rfl⟩ := List.mem_map.1 hx
        exact hd z hz hxb
theorem ev_put {d : Option Nat} {y : Operand} (h : ∀ t, y = .tmp t → d ≠ some t) (x : AV) : (s.put d x).ev y = s.ev y := by
  cases y with
  | tmp t => exact get_put (h t rfl) x
  | _ => rfl
theorem looks_of {o : Oper} {t : Nat} (h : Operand.tmp t ∈ o.op.operands.toList) : t ∈ looks ops o := by
  unfold looks
  exact List.mem_append.2 (.inl (List.mem_filterMap.2 ⟨_, h, rfl⟩))
theorem wval_back {x : Oper} (hw : wOp P x = true) {f : Option Nat → Option Nat} (hf : f none = none) {d : Option Nat} (hd : ∀ e, d = some e → e ∉ looks ops x) (y : AV) {b' : Bx} (hb : ∀ a, loadOf x = some a → ∀ e, boxOf (s.ev a) = some e → b'[e]? = (s.tok f).b[e]?) :
    wval P ops x ((⟨s.t.map (AV.tok f), b'⟩ : St).put d y) = (wval P ops x s).map (AV.tok f) := by
  have h4 : wval P ops x ((s.tok f).put d y) = (wval P ops x s).map (AV.tok f) := by
    rw [wval_same (Same.put (s := s.tok f) hd y), wval_tok hf]
  rw [← h4]
  have et : ((⟨s.t.map (AV.tok f), b'⟩ : St).put d y).t = ((s.tok f).put d y).t := by cases d <;> rfl
  have eg : ∀ t, ((⟨s.t.map (AV.tok f), b'⟩ : St).put d y).get t = ((s.tok f).put d y).get t := fun t => by unfold St.get; rw [et]
  have ee : ∀ z, ((⟨s.t.map (AV.tok f), b'⟩ : St).put d y).ev z = ((s.tok f).put d y).ev z := fun z => by cases z <;> first | exact eg _ | rfl
  have ew : wantB ((⟨s.t.map (AV.tok f), b'⟩ : St).put d y) ops x.guard = wantB ((s.tok f).put d y) ops x.guard := by
    unfold wantB
    cases x.guard with
    | none => rfl
    | some jw =>
      obtain ⟨j, want⟩ := jw
      dsimp only
      have : yieldB ((⟨s.t.map (AV.tok f), b'⟩ : St).put d y) ops j = yieldB ((s.tok f).put d y) ops j := by
        unfold yieldB
        cases hd : (ops[j]?).bind (·.dst) with
        | none => rfl
        | some e => dsimp only; rw [eg]
      rw [this]
  have er : rhs P x ((⟨s.t.map (AV.tok f), b'⟩ : St).put d y) = rhs P x ((s.tok f).put d y) := by
    refine rhs_congr' (fun T a e => ?_) fun z _ => ee z
    have hl : loadOf x = some a := by unfold loadOf; rw [e]
    rw [ee]
    have hva : ((s.tok f).put d y).ev a = (s.ev a).tok f := by
      rw [ev_put (fun t et hdt => hd t hdt (looks_of (by subst et; rw [e]; simp [Op.operands]))), tok_ev]
    cases hq : ((s.tok f).put d y).ev a <;> first | rfl | skip
    rename_i e' off
    have hbx : boxOf (s.ev a) = some e' := by
      rw [← boxOf_tok (f := f), ← hva, hq]; rfl
    show ((St.put _ d y).boxAt e').map _ = (((s.tok f).put d y).boxAt e').map _
    congr 1
    have e1 : (St.put (⟨s.t.map (AV.tok f), b'⟩ : St) d y).b = b' := by cases d <;> rfl
    have e2 : ((s.tok f).put d y).b = (s.tok f).b := by cases d <;> rfl
    unfold St.boxAt
    rw [e1, e2, List.getD_eq_getElem?_getD, List.getD_eq_getElem?_getD, hb a hl e' hbx]
  have eB : rhsB P x ((⟨s.t.map (AV.tok f), b'⟩ : St).put d y) = rhsB P x ((s.tok f).put d y) := rhsB_congr (by rw [et]) fun z _ => ee z
  unfold wval
  rw [ew, er, eB]
def Far (s : St) (p : Operand × List Operand) : Prop := ∀ d, boxOf (s.ev p.1) = some d → ∀ x ∈ p.2, boxOf (s.ev x) ≠ some d
theorem far_of {s : St} {p : Operand × List Operand} (h : aparts s p = true) : Far s p := by
  intro d hd
  unfold aparts at h
  have key : ∀ xs, farFrom s d xs = true → ∀ x ∈ xs, boxOf (s.ev x) ≠ some d := fun xs => by
    induction xs with
    | nil => intro _ x hx; cases hx
    | cons x xs ih =>
      intro h y hy
      unfold farFrom at h
      rw [Bool.and_eq_true] at h
      rcases List.mem_cons.1 hy with rfl | hy
      · intro e
        have h1 := h.1
        cases hq : s.ev y <;> rw [hq] at e h1 <;> cases e
        simp at h1
      · exact ih h.2 y hy
  cases hq : s.ev p.1 <;> rw [hq] at hd h <;> cases hd
  exact key _ h
theorem wOp_load {x : Oper} {a : Operand} (hx : loadOf x = some a) : wOp P x = true := by
  obtain ⟨dst, op, ty, pos, after, guard⟩ := x
  unfold loadOf at hx
  dsimp only at hx
  split at hx
  · rfl
  · cases hx
theorem diamond_wp {x y : Oper} {xs : List Operand} (hx1 : wOp P x = true) (hy1 : ptrCall P y = some xs) (ha : apartB ops x y = true) {r : St ⊕ Value} (hfar : ∀ s2, r = .inl s2 → ∀ a, loadOf x = some a → Far s (a, xs)) (hx : stO P np true takes call ops x s = some (.inl s1)) (hy : stO P np true takes call ops y s1 = some r) :
    (∀ s2, r = .inl s2 → ∃ s3, stO P np true takes call ops y s = some (.inl s3) ∧ stO P np true takes call ops x s3 = some (.inl s2)) ∧ (∀ v, r = .inr v → stO P np true takes call ops y s = some (.inr v)) := by
  unfold apartB at ha
  simp only [Bool.and_eq_true] at ha
  have a1 : ∀ d, x.dst = some d → d ∉ looks ops y ∧ y.dst ≠ some d := fun d hd => by
    have := ha.1
    rw [hd] at this
    simpa using this
  have a2 : ∀ d, y.dst = some d → d ∉ looks ops x := fun d hd => by
    have := ha.2
    rw [hd] at this
    simpa using this
  rw [stO_w hx1] at hx
  obtain ⟨vx, hvx, e⟩ := Option.map_eq_some_iff.1 hx
  cases e
  have hS := Same.put (s := s) (o := y) (ops := ops) (fun d hd => (a1 d hd).1) vx
  have hev : ∀ z ∈ xs, (s.put x.dst vx).ev z = s.ev z := fun z hz => ev_put (fun t e hdt => (a1 t hdt).1 (ptr_looks hy1 hz e)) vx
  rcases pForm hy1 hy with ⟨f, vy, b', hf, rfl, hall, hoth⟩ | ⟨v, rfl, hall⟩
  · refine ⟨fun s2 e => ?_, fun v e => (by cases e)⟩
    cases e
    refine ⟨_, hall s hS.symm, ?_⟩
    rw [stO_w hx1, wval_back hx1 hf (fun d hd => a2 d hd) vy (fun a hl e he => ?_), hvx]
    · show some (Sum.inl _) = _
      have e1 : (⟨(s.put x.dst vx).t.map (AV.tok f), b'⟩ : St) = (⟨s.t.map (AV.tok f), b'⟩ : St).put x.dst (vx.tok f) := by
        cases x.dst with
        | none => rfl
        | some d =>
          show (⟨(s.t.set d vx).map (AV.tok f), b'⟩ : St) = ⟨(s.t.map (AV.tok f)).set d (vx.tok f), b'⟩
          rw [List.map_set]
      rw [e1, put_comm (fun c hc e => (a1 c e).2 hc)]
    · have h1 := hoth e (fun z hz => by rw [hev z hz]; exact hfar _ rfl a hl e he z hz)
      rw [h1]
      have : ((s.put x.dst vx).tok f).b = (s.tok f).b := by
        unfold St.tok St.put
        cases x.dst <;> rfl
      rw [this]
  · exact ⟨fun s2 e => (by cases e), fun v' e => (by cases e; exact hall s hS.symm)⟩
theorem diamond_pw {x y : Oper} {xs : List Operand} (hx1 : ptrCall P x = some xs) (hy1 : wOp P y = true) (ha : apartB ops x y = true) {r : St ⊕ Value} (hfar : ∀ s2, r = .inl s2 → ∀ a, loadOf y = some a → Far s (a, xs)) (hx : stO P np true takes call ops x s = some (.inl s1)) (hy : stO P np true takes call ops y s1 = some r) :
    (∀ s2, r = .inl s2 → ∃ s3, stO P np true takes call ops y s = some (.inl s3) ∧ stO P np true takes call ops x s3 = some (.inl s2)) ∧ (∀ v, r = .inr v → stO P np true takes call ops y s = some (.inr v)) := by
  unfold apartB at ha
  simp only [Bool.and_eq_true] at ha
  have a1 : ∀ d, x.dst = some d → d ∉ looks ops y ∧ y.dst ≠ some d := fun d hd => by
    have := ha.1
    rw [hd] at this
    simpa using this
  have a2 : ∀ d, y.dst = some d → d ∉ looks ops x := fun d hd => by
    have := ha.2
    rw [hd] at this
    simpa using this
  rcases pForm hx1 hx with ⟨f, vx, b', hf, e, hall, hoth⟩ | ⟨v, e, hall⟩
  · cases e
    rw [stO_w hy1] at hy
    obtain ⟨vy', hvy', e⟩ := Option.map_eq_some_iff.1 hy
    subst e
    rw [wval_back hy1 hf (fun d hd => (a1 d hd).1) vx (fun a hl e he => hoth e fun z hz => hfar _ rfl a hl e he z hz)] at hvy'
    obtain ⟨vy, hvy, rfl⟩ := Option.map_eq_some_iff.1 hvy'
    refine ⟨fun s2 e => ?_, fun v e => (by cases e)⟩
    cases e
    refine ⟨s.put y.dst vy, by rw [stO_w hy1, hvy]; rfl, ?_⟩
    rw [hall _ (Same.put (fun d hd => a2 d hd) vy)]
    have e1 : (⟨(s.put y.dst vy).t.map (AV.tok f), b'⟩ : St) = (⟨s.t.map (AV.tok f), b'⟩ : St).put y.dst (vy.tok f) := by
      cases y.dst with
      | none => rfl
      | some d =>
        show (⟨(s.t.set d vy).map (AV.tok f), b'⟩ : St) = ⟨(s.t.map (AV.tok f)).set d (vy.tok f), b'⟩
        rw [List.map_set]
    rw [e1, put_comm (fun c hc e => (a1 c e).2 hc)]
  · cases e
theorem storeAV_t {T : TypeId} {a x : AV} {s' : St} (h : storeAV P s T a x = some s') : ∃ f, s'.t = s.t.map (AV.tok f) := by
  unfold storeAV at h
  split at h
  · rename_i d off
    have h1 := Option.bind_eq_some_iff.1 h
    clear h
    obtain ⟨cs, _, h⟩ := h1
    have h1 := Option.bind_eq_some_iff.1 h
    clear h
    obtain ⟨ks, _, h⟩ := h1
    have h1 := Option.bind_eq_some_iff.1 h
    clear h
    obtain ⟨n, _, h⟩ := h1
    have h1 := bif_some h
    clear h
    obtain ⟨hcc, h⟩ := h1
    have ident : s.t = s.t.map (AV.tok id) := (congrArg St.t (tok_id (s := s) (f := id) (fun t => rfl))).symm
    split at h
    · rename_i m E l
      cases hm : m == sub d off <;> rw [hm] at h <;> simp only [cond_true, cond_false] at h
      · obtain ⟨c2, _, e⟩ := Option.map_eq_some_iff.1 h
        cases e
        refine ⟨_, congrArg St.t (tok_tok (s := s) (killF (sub d off)) (renF m (sub d off)))⟩
      · cases h
        exact ⟨id, ident⟩
    · obtain ⟨c2, _, e⟩ := Option.map_eq_some_iff.1 h
      cases e
      exact ⟨_, rfl⟩
  · cases h
theorem boxOf_keep {o : Oper} (ho : (wOp P o || xOp P o || (ptrCall P o).isSome || isStore o) = true) (h : stO P np true takes call ops o s = some (.inl s1)) {z : Operand} (hz : ∀ t, z = .tmp t → o.dst ≠ some t) : boxOf (s1.ev z) = boxOf (s.ev z) := by
  rw [Bool.or_eq_true, Bool.or_eq_true, Bool.or_eq_true] at ho
  rcases ho with ((hw | hx) | hp) | hst
  · rw [stO_w hw] at h
    obtain ⟨v, _, e⟩ := Option.map_eq_some_iff.1 h
    cases e
    rw [ev_put hz]
  · rcases xForm hx h with ⟨f, y, hf, e, _⟩ | ⟨v, e, _⟩
    · cases e
      rw [ev_put hz, tok_ev, boxOf_tok]
    · cases e
  · obtain ⟨xs, hxs⟩ := Option.isSome_iff_exists.1 hp
    rcases pForm hxs h with ⟨f, y, b', hf, e, _⟩ | ⟨v, e, _⟩
    · cases e
      rw [ev_put hz]
      have : (⟨s.t.map (AV.tok f), b'⟩ : St).ev z = (s.tok f).ev z := by cases z <;> rfl
      rw [this, tok_ev, boxOf_tok]
    · cases e
  · obtain ⟨dst, op, ty, pos, after, guard⟩ := o
    obtain ⟨T, a, x, rfl⟩ : ∃ T a x, op = .store T a x := by
      unfold isStore at hst
      dsimp only at hst
      split at hst
      · exact ⟨_, _, _, rfl⟩
      · cases hst
    unfold stO at h
    obtain ⟨wn, hw, h⟩ := Option.bind_eq_some_iff.1 h
    cases wn
    · simp only [cond_false] at h
      cases h
      exact congrArg boxOf (ev_put hz _)
    · simp only [cond_true] at h
      have nr : stE P np true takes call ⟨dst, .store T a x, ty, pos, after, guard⟩ s = evX P np takes call (fun v => some (.inr v)) ⟨dst, .store T a x, ty, pos, after, guard⟩ s (fun s => some (.inl s)) := rfl
      rw [nr] at h
      unfold evX at h
      dsimp only at h
      cases dst with
      | some d => cases h
      | none =>
        dsimp only at h
        obtain ⟨s', hs, h⟩ := Option.bind_eq_some_iff.1 h
        cases h
        obtain ⟨f, ht⟩ := storeAV_t hs
        have : s1.ev z = (s.tok f).ev z := by
          cases z with
          | tmp t => show s1.t.getD t .dead = (s.t.map (AV.tok f)).getD t .dead; rw [ht]
          | _ => rfl
        rw [this, tok_ev, boxOf_tok]
end
end Go.Proofs.YtckdgcpomkefpaaDoor.En
end
section
set_option linter.unusedVariables false
set_option linter.unusedSimpArgs false
namespace Go.Proofs.YtckdgcpomkefpaaDoor.En
open Go
def drawnOk (P : Program) (ops : List Oper) : Bool :=
  let ms := masks ops []
  (List.range ops.length).all fun j => match ops[j]? with
    | some y => y.after.toList.all (fun e => !Region.binds .any e || Nat.blt e.on j) &&
        (List.range j).all fun i => (ms.getD j 0).testBit i || (match ops[i]? with | some x => pairOk P ops x y || pairDyn P ops i j x y | none => true)
    | none => true
section
variable {P : Program} {F : Fx} {np : Nat} {takes : FuncId → Option Nat} {call : CallF} {ops : List Oper}
theorem masks_spec : ∀ (l : List Oper) (ms : List Nat), ∃ ext, masks l ms = ms ++ ext ∧ ext.length = l.length ∧ ∀ (k : Nat) o, l[k]? = some o → (masks l ms)[ms.length + k]? = some (maskOf o ((masks l ms).take (ms.length + k)))
  | [], ms => ⟨[], by simp [masks], rfl, fun k o h => by simp at h⟩
  | o :: l, ms => by
    obtain ⟨ext, h1, h2, h3⟩ := masks_spec l (ms ++ [maskOf o ms])
    have he : masks (o :: l) ms = ms ++ (maskOf o ms :: ext) := by
      show masks l (ms ++ [maskOf o ms]) = _
      rw [h1]; simp
    refine ⟨maskOf o ms :: ext, he, by simp [h2], fun k o' hk => ?_⟩
    cases k with
    | zero =>
      simp at hk
      subst hk
      rw [he]
      simp
    | succ k =>
      have := h3 k o' (by simpa using hk)
      rw [show (ms ++ [maskOf o ms]).length + k = ms.length + (k + 1) by simp; omega] at this
      exact this
theorem mask_bits {o : Oper} {ms : List Nat} {i : Nat} (h : (maskOf o ms).testBit i = true) : ∃ e ∈ o.after.toList, Region.binds .any e = true ∧ (i = e.on ∨ (ms.getD e.on 0).testBit i = true) := by
  unfold maskOf at h
  have gen : ∀ (l : List Edge) (m : Nat), (l.foldl (fun m e => bif Region.binds .any e then m ||| (2 ^ e.on ||| ms.getD e.on 0) else m) m).testBit i = true →
      m.testBit i = true ∨ ∃ e ∈ l, Region.binds .any e = true ∧ (i = e.on ∨ (ms.getD e.on 0).testBit i = true) := by
    intro l
    induction l with
    | nil => intro m h; exact .inl h
    | cons e l ih =>
      intro m h
      rw [List.foldl_cons] at h
      rcases ih _ h with h1 | ⟨e', he', h2⟩
      · cases hb : Region.binds .any e <;> rw [hb] at h1 <;> simp only [cond_true, cond_false] at h1
        · exact .inl h1
        · rw [Nat.testBit_or, Nat.testBit_or, Bool.or_eq_true, Bool.or_eq_true] at h1
          rcases h1 with h1 | h1 | h1
          · exact .inl h1
          · rw [Nat.testBit_two_pow] at h1
            exact .inr ⟨e, by simp, hb, .inl (show e.on = i by simpa using h1).symm⟩
          · exact .inr ⟨e, by simp, hb, .inr h1⟩
      · exact .inr ⟨e', by simp [he'], h2⟩
  rcases gen _ 0 h with h1 | h1
  · simp at h1
  · exact h1
def Closed (ops : List Oper) (listed : Array Bool) : Prop := ∀ (k : Nat) o, ops[k]? = some o → listed.getD k false = true → ∀ e ∈ o.after.toList, Region.binds .any e = true → listed.getD e.on false = true
theorem waits_listed {listed : Array Bool} (hs : ∀ (j : Nat) o, ops[j]? = some o → ∀ e ∈ o.after.toList, Region.binds .any e = true → e.on < j) (hc : Closed ops listed) :
    ∀ (j : Nat) o, ops[j]? = some o → (∀ e ∈ o.after.toList, Region.binds .any e = true → listed.getD e.on false = true) → ∀ i, ((masks ops []).getD j 0).testBit i = true → listed.getD i false = true := by
  intro j
  induction j using Nat.strongRecOn with
  | _ j ih =>
    intro o ho hd i hi
    obtain ⟨ext, h1, h2, h3⟩ := masks_spec ops []
    have hj := h3 j o ho
    rw [List.length_nil, Nat.zero_add] at hj
    rw [List.getD_eq_getElem?_getD, hj, Option.getD_some] at hi
    obtain ⟨e, he, hb, hi⟩ := mask_bits hi
    rcases hi with rfl | hi
    · exact hd e he hb
    · have hlt := hs j o ho e he hb
      have hjl := (List.getElem?_eq_some_iff.1 ho).1
      obtain ⟨o', ho'⟩ : ∃ o', ops[e.on]? = some o' := ⟨_, List.getElem?_eq_getElem (by omega)⟩
      refine ih e.on hlt o' ho' (fun e' he' hb' => hc e.on o' ho' (hd e he hb) e' he' hb') i ?_
      rw [List.getD_eq_getElem?_getD, List.getElem?_take, if_pos hlt] at hi
      rw [List.getD_eq_getElem?_getD]
      exact hi
def stI (P : Program) (np : Nat) (takes : FuncId → Option Nat) (call : CallF) (ops : List Oper) (i : Nat) (s : St) : Option (St ⊕ Value) := match ops[i]? with | some o => stO P np true takes call ops o s | none => some (.inl s)
def runI (P : Program) (np : Nat) (takes : FuncId → Option Nat) (call : CallF) (ops : List Oper) : List Nat → St → Option (St ⊕ Value)
  | [], s => some (.inl s)
  | i :: l, s => thenR (stI P np takes call ops i s) (runI P np takes call ops l)
theorem runI_range : ∀ (l : List Oper) (k : Nat) (s : St), (∀ j, j < l.length → l[j]? = ops[k + j]?) → runI P np takes call ops (List.range' k l.length) s = runO P np true takes call ops l s
  | [], k, s, _ => rfl
  | o :: l, k, s, h => by
    have h0 : ops[k]? = some o := by simpa using (h 0 (by simp)).symm
    simp only [List.length_cons, List.range'_succ, runI, runO, stI, h0]
    congr 1
    funext s'
    exact runI_range l (k + 1) s' (fun j hj => by have := h (j + 1) (by simp; omega); simpa [Nat.add_assoc, Nat.add_comm 1 j] using this)
theorem evX_thr {β : Type} {thr thr' : Value → Option β} {o : Oper} {s : St} {k : St → Option β} (h : isThr o = false) : evX P np takes call thr o s k = evX P np takes call thr' o s k := by
  obtain ⟨dst, op, ty, pos, after, guard⟩ := o
  unfold evX
  simp only [appendK_eq]
  (try dsimp only)
  split <;> first | rfl | (exact Bool.noConfusion h)
theorem stO_thr {o : Oper} {s : St} {v : Value} (h : stO P np true takes call ops o s = some (.inr v)) : isThr o = true := by
  cases hi : isThr o with
  | true => rfl
  | false =>
    unfold stO at h
    have h' := Option.bind_eq_some_iff.1 h
    clear h
    obtain ⟨wn, _, h⟩ := h'
    cases wn
    · cases h
    · simp only [cond_true] at h
      unfold stE at h
      rw [evOp_def] at h
      cases hr : reads P o.op <;> rw [hr] at h <;> simp only [cond_true, cond_false] at h
      · cases hb : true && bsOp o <;> rw [hb] at h <;> simp only [cond_true, cond_false] at h
        · have e1 := evX_st (P := P) (np := np) (takes := takes) (call := call) (β := St ⊕ Value) (fun _ => none) o s (fun s => some (.inl s))
          rw [h] at e1
          rw [evX_thr (thr' := fun _ => none) hi] at h
          rw [h] at e1
          cases e1
        · obtain ⟨x, _, e⟩ := Option.bind_eq_some_iff.1 h
          cases e
      · obtain ⟨x, _, e⟩ := Option.bind_eq_some_iff.1 h
        cases e
theorem runI_thr : ∀ (l : List Nat) (s : St) (v : Value), runI P np takes call ops l s = some (.inr v) → ∃ i ∈ l, thrAt ops i = true
  | [], s, v, h => by cases h
  | i :: l, s, v, h => by
    simp only [runI] at h
    cases hi : stI P np takes call ops i s with
    | none => rw [hi] at h; cases h
    | some r1 =>
      rw [hi] at h
      cases r1 with
      | inr v' =>
        refine ⟨i, by simp, ?_⟩
        unfold stI at hi
        unfold thrAt
        cases ho : ops[i]? with
        | none => rw [ho] at hi; cases hi
        | some o => rw [ho] at hi; exact stO_thr hi
      | inl s1 =>
        obtain ⟨k, hk, ht⟩ := runI_thr l s1 v h
        exact ⟨k, by simp [hk], ht⟩
theorem runI_keep {z : Operand} (ha : ops.all (fun o => wOp P o || xOp P o || (ptrCall P o).isSome || isStore o) = true) : ∀ (l : List Nat) (s s' : St), (∀ k ∈ l, ∀ o, ops[k]? = some o → ∀ t, z = .tmp t → o.dst ≠ some t) → runI P np takes call ops l s = some (.inl s') → boxOf (s'.ev z) = boxOf (s.ev z)
  | [], s, s', _, h => by cases h; rfl
  | i :: l, s, s', hk, h => by
    simp only [runI] at h
    cases hi : stI P np takes call ops i s with
    | none => rw [hi] at h; cases h
    | some r1 =>
      rw [hi] at h
      cases r1 with
      | inr v' => cases h
      | inl s1 =>
        rw [runI_keep ha l s1 s' (fun k hm => hk k (by simp [hm])) h]
        unfold stI at hi
        cases ho : ops[i]? with
        | none => rw [ho] at hi; cases hi; rfl
        | some o =>
          rw [ho] at hi
          exact boxOf_keep (List.all_eq_true.1 ha o (List.mem_of_getElem? ho)) hi (hk i (by simp) o ho)
theorem lc_looks {x y : Oper} {p : Operand × List Operand} (h : lcOf P x y = some p) : (loadOf x = some p.1 ∧ ptrCall P y = some p.2) ∨ (loadOf y = some p.1 ∧ ptrCall P x = some p.2) := by
  unfold lcOf at h
  cases hx : loadOf x with
  | some a =>
    rw [hx] at h
    obtain ⟨xs, h1, rfl⟩ := Option.map_eq_some_iff.1 h
    exact .inl ⟨rfl, h1⟩
  | none =>
    rw [hx] at h
    obtain ⟨a, h1, h2⟩ := Option.bind_eq_some_iff.1 h
    obtain ⟨xs, h3, rfl⟩ := Option.map_eq_some_iff.1 h2
    exact .inr ⟨h1, h3⟩
theorem load_looks {x : Oper} {a : Operand} (h : loadOf x = some a) {t : Nat} (e : a = .tmp t) : t ∈ looks ops x := by
  obtain ⟨dst, op, ty, pos, after, guard⟩ := x
  unfold loadOf at h
  dsimp only at h
  split at h
  · cases h; subst e; exact looks_of (by simp [Op.operands])
  · cases h
theorem call_looks {y : Oper} {xs : List Operand} (h : ptrCall P y = some xs) {z : Operand} (hz : z ∈ xs) {t : Nat} (e : z = .tmp t) : t ∈ looks ops y := ptr_looks h hz e
theorem apart_of {i j : Nat} {x y : Oper} (h : pairOk P ops x y = true ∨ pairDyn P ops i j x y = true) : apartB ops x y = true := by
  rcases h with h | h
  · unfold pairOk at h
    rw [Bool.and_eq_true] at h
    exact h.1
  · unfold pairDyn at h
    simp only [Bool.and_eq_true] at h
    exact h.1.1
theorem bubble {j : Nat} {y : Oper} (hy : ops[j]? = some y) (C : List Nat) (r : St ⊕ Value) (hC : ∀ k ∈ C, j < k) (hend : ∀ s', r = .inl s' → ∀ i x p, i < j → ops[i]? = some x → ((masks ops []).getD j 0).testBit i = false → pairOk P ops x y = false → lcOf P x y = some p → aparts s' p = true) : ∀ (A : List Nat) (s : St), A.Pairwise (· < ·) →
    (∀ i ∈ A, i < j ∧ ((masks ops []).getD j 0).testBit i = false ∧ ∃ x, ops[i]? = some x ∧ (pairOk P ops x y = true ∨ pairDyn P ops i j x y = true)) →
    (∀ v, r = .inr v → ∀ i ∈ A, thrAt ops i = false) → runI P np takes call ops (A ++ j :: C) s = some r → runI P np takes call ops (j :: (A ++ C)) s = some r
  | [], s, _, _, _, h => h
  | i :: A, s, hpw, hp, ht, h => by
    obtain ⟨hij, hmk, x, hx, hxy⟩ := hp i (by simp)
    have h0 := h
    simp only [List.cons_append, runI] at h
    rw [List.pairwise_cons] at hpw
    cases hi : stI P np takes call ops i s with
    | none => rw [hi] at h; cases h
    | some r1 =>
      rw [hi] at h
      cases r1 with
      | inr v =>
        cases h
        have h1 := ht v rfl i (by simp)
        unfold thrAt at h1
        unfold stI at hi
        rw [hx] at h1 hi
        have h2 := stO_thr hi
        dsimp only at h1
        rw [h1] at h2
        cases h2
      | inl s1 =>
        have ih := bubble hy C r hC hend A s1 hpw.2 (fun i hi => hp i (by simp [hi])) (fun v e i hi => ht v e i (by simp [hi])) h
        simp only [runI] at ih
        have hi' : stO P np true takes call ops x s = some (.inl s1) := by unfold stI at hi; rw [hx] at hi; exact hi
        have ej : ∀ s, stI P np takes call ops j s = stO P np true takes call ops y s := fun s => by unfold stI; rw [hy]
        have ei : ∀ s, stI P np takes call ops i s = stO P np true takes call ops x s := fun s => by unfold stI; rw [hx]
        rw [ej] at ih
        cases hj : stO P np true takes call ops y s1 with
        | none => rw [hj] at ih; cases ih
        | some r2 =>
          rw [hj] at ih
          have hD : (∀ s2, r2 = .inl s2 → ∃ s3, stO P np true takes call ops y s = some (.inl s3) ∧ stO P np true takes call ops x s3 = some (.inl s2)) ∧ (∀ v, r2 = .inr v → stO P np true takes call ops y s = some (.inr v)) := by
            cases hpo : pairOk P ops x y with
            | true => exact diamond hpo hi' hj
            | false =>
              have hdy : pairDyn P ops i j x y = true := by
                rcases hxy with h1 | h1
                · rw [hpo] at h1; cases h1
                · exact h1
              have hap := apart_of (P := P) (.inr hdy)
              unfold pairDyn at hdy
              simp only [Bool.and_eq_true, Bool.or_eq_true] at hdy
              obtain ⟨⟨_, hdw⟩, hrest⟩ := hdy
              unfold dynW at hdw
              simp only [Bool.and_eq_true, Bool.or_eq_true] at hdw
              cases hlc : lcOf P x y with
              | none =>
                rcases hdw with ⟨w1, w2⟩ | ⟨w1, w2⟩
                · obtain ⟨xs, hxs⟩ := Option.isSome_iff_exists.1 w2
                  refine diamond_wp w1 hxs hap (fun s2 e a ha => ?_) hi' hj
                  unfold lcOf at hlc
                  rw [ha, hxs] at hlc
                  cases hlc
                · obtain ⟨xs, hxs⟩ := Option.isSome_iff_exists.1 w2
                  refine diamond_pw hxs w1 hap (fun s2 e a ha => ?_) hi' hj
                  unfold lcOf at hlc
                  rw [ptr_load hxs, ha, hxs] at hlc
                  cases hlc
              | some p =>
              rw [hlc] at hrest
              have hrest := hrest.resolve_left (by simp)
              obtain ⟨⟨⟨hfi, hfj⟩, hcalm⟩, hnost⟩ := hrest
              unfold calm at hcalm
              rw [Bool.and_eq_true] at hcalm
              obtain ⟨hall, huniq⟩ := hcalm
              have fixed : ∀ (m : Nat) (o : Oper), fixedAt ops m o = true → ∀ k, m ≤ k → ∀ o', ops[k]? = some o' → ∀ t, t ∈ looks ops o → o'.dst ≠ some t := fun m o hf k hk o' ho' t ht e => by
                unfold fixedAt at hf
                have := List.all_eq_true.1 hf k (List.mem_range.2 (List.getElem?_eq_some_iff.1 ho').1)
                rw [ho'] at this
                have hb : Nat.blt k m = false := by
                  cases hb : Nat.blt k m
                  · rfl
                  · have := Nat.le_of_ble_eq_true hb; omega
                rw [hb] at this
                simp only [Option.bind_some, e, Bool.false_or, Bool.not_eq_true'] at this
                have hc : (looks ops o).contains t = true := by simpa using ht
                rw [hc] at this
                cases this
              have far : ∀ s', r = .inl s' → Far s p := fun s' e => by
                have hf := far_of (hend s' e i x p hij hx hmk hpo hlc)
                subst e
                have hge : ∀ k ∈ i :: (A ++ j :: C), i ≤ k := fun k hk => by
                  rcases List.mem_cons.1 hk with rfl | hk
                  · exact Nat.le_refl _
                  · rcases List.mem_append.1 hk with hk | hk
                    · exact Nat.le_of_lt (hpw.1 k hk)
                    · rcases List.mem_cons.1 hk with rfl | hk
                      · exact Nat.le_of_lt hij
                      · have := hC k hk; omega
                have keepx : ∀ z, (∀ t, z = Operand.tmp t → t ∈ looks ops x) → boxOf (s'.ev z) = boxOf (s.ev z) := fun z hz => runI_keep hall _ s s' (fun k hk o ho t et => fixed i x hfi k (hge k hk) o ho t (hz t et)) h0
                have keepy : ∀ z, (∀ t, z = Operand.tmp t → t ∈ looks ops y) → boxOf (s'.ev z) = boxOf (s.ev z) := fun z hz => runI_keep hall _ s s' (fun k hk o ho t et e => by
                  have low : k ∈ i :: A → False := fun hk => by
                    obtain ⟨_, _, o', ho', hpair⟩ := hp k hk
                    rw [ho] at ho'
                    cases ho'
                    have hapk := apart_of hpair
                    unfold apartB at hapk
                    simp only [Bool.and_eq_true] at hapk
                    have h1 := hapk.1
                    rw [e] at h1
                    have hc : (looks ops y).contains t = true := by simpa using hz t et
                    simp [hz t et] at h1
                  rcases List.mem_cons.1 hk with rfl | hk
                  · exact low (by simp)
                  · rcases List.mem_append.1 hk with hk | hk
                    · exact low (by simp [hk])
                    · refine fixed j y hfj k ?_ o ho t (hz t et) e
                      rcases List.mem_cons.1 hk with rfl | hk
                      · exact Nat.le_refl _
                      · exact Nat.le_of_lt (hC k hk)) h0
                rcases lc_looks hlc with ⟨l1, l2⟩ | ⟨l1, l2⟩
                · intro d hd z hz e
                  refine hf d ?_ z hz ?_
                  · rw [keepx p.1 (fun t et => load_looks l1 et)]; exact hd
                  · rw [keepy z (fun t et => call_looks l2 hz et)]; exact e
                · intro d hd z hz e
                  refine hf d ?_ z hz ?_
                  · rw [keepy p.1 (fun t et => load_looks l1 et)]; exact hd
                  · rw [keepx z (fun t et => call_looks l2 hz et)]; exact e
              have noThr : ∀ k m, k ≠ m → thrAt ops k = true → thrAt ops m = true → False := by
                have key : ∀ k m, m < k → thrAt ops k = true → thrAt ops m = true → False := fun k m hm hk1 hm1 => by
                  have hkl : k < ops.length := by
                    cases hk2 : ops[k]? with
                    | none => unfold thrAt at hk1; rw [hk2] at hk1; cases hk1
                    | some o => exact (List.getElem?_eq_some_iff.1 hk2).1
                  have := List.all_eq_true.1 huniq k (List.mem_range.2 hkl)
                  have := List.all_eq_true.1 this m (List.mem_range.2 hm)
                  rw [hk1, hm1] at this
                  cases this
                intro k m hne hk1 hm1
                rcases Nat.lt_or_gt_of_ne hne with h1 | h1
                · exact key m k h1 hm1 hk1
                · exact key k m h1 hk1 hm1
              have callThr : ∀ {o : Oper} {xs : List Operand}, ptrCall P o = some xs → isThr o = true ∨ isStore o = true := fun h => by
                rcases ptrCall_eq h with ⟨f, ys, Ts, h1, _⟩ | ⟨T, a, z, h1, _⟩
                · left; unfold isThr; rw [h1]
                · right; unfold isStore; rw [h1]
              have noneThr : (isStore x = true ∨ isStore y = true) → ∀ k, thrAt ops k = false := fun hs k => by
                rcases hnost with h1 | h1
                · rw [Bool.not_eq_true', Bool.or_eq_false_iff] at h1
                  rcases hs with h2 | h2
                  · rw [h1.1] at h2; cases h2
                  · rw [h1.2] at h2; cases h2
                · unfold thrAt
                  cases hk : ops[k]? with
                  | none => rfl
                  | some o => simpa using List.all_eq_true.1 h1 o (List.mem_of_getElem? hk)
              rcases lc_looks hlc with ⟨l1, l2⟩ | ⟨l1, l2⟩
              · refine diamond_wp (xs := p.2) (wOp_load l1) l2 hap (fun s2 e a ha => ?_) hi' hj
                rw [l1] at ha
                cases ha
                subst e
                cases r with
                | inl s' => exact far s' rfl
                | inr v =>
                  obtain ⟨k, hk, hkt⟩ := runI_thr _ _ _ ih
                  rcases callThr l2 with hct | hst
                  case inr =>
                    have := noneThr (.inr hst) k
                    rw [hkt] at this
                    cases this
                  have hjt : thrAt ops j = true := by unfold thrAt; rw [hy]; exact hct
                  refine (noThr k j (fun e => ?_) hkt hjt).elim
                  subst e
                  rcases List.mem_append.1 hk with hk | hk
                  · have := (hp k (by simp [hk])).1; omega
                  · have := hC k hk; omega
              · cases r with
                | inl s' =>
                  refine diamond_pw (xs := p.2) l2 (wOp_load l1) hap (fun s2 e a ha => ?_) hi' hj
                  rw [l1] at ha
                  cases ha
                  exact far s' rfl
                | inr v =>
                  have h1 := ht v rfl i (by simp)
                  unfold thrAt at h1
                  rw [hx] at h1
                  dsimp only at h1
                  rcases callThr l2 with hct | hst
                  · rw [hct] at h1; cases h1
                  · cases r2 with
                    | inr v' =>
                      have hyt := stO_thr hj
                      have := noneThr (.inl hst) j
                      unfold thrAt at this
                      rw [hy] at this
                      dsimp only at this
                      rw [this] at hyt
                      cases hyt
                    | inl s2 =>
                      obtain ⟨k, hk, hkt⟩ := runI_thr _ _ _ ih
                      have := noneThr (.inl hst) k
                      rw [hkt] at this
                      cases this
          obtain ⟨d1, d2⟩ := hD
          simp only [List.cons_append, runI]
          rw [ej]
          cases r2 with
          | inr v =>
            rw [d2 v rfl]
            exact ih
          | inl s2 =>
            obtain ⟨s3, e1, e2⟩ := d1 s2 rfl
            rw [e1]
            show thenR (stI P np takes call ops i s3) _ = _
            rw [ei, e2]
            exact ih
theorem needs_mem {i j : Nat} {x y : Oper} {p : Operand × List Operand} (hij : i < j) (hx : ops[i]? = some x) (hy : ops[j]? = some y) (hm : ((masks ops []).getD j 0).testBit i = false) (hpo : pairOk P ops x y = false) (hlc : lcOf P x y = some p) : p ∈ needs P ops := by
  have hany : (ops.any (fun o => (loadOf o).isSome) && ops.any (fun o => (ptrCall P o).isSome)) = true := by
    rw [Bool.and_eq_true, List.any_eq_true, List.any_eq_true]
    rcases lc_looks hlc with ⟨l1, l2⟩ | ⟨l1, l2⟩
    · exact ⟨⟨x, List.mem_of_getElem? hx, by rw [l1]; rfl⟩, ⟨y, List.mem_of_getElem? hy, by rw [l2]; rfl⟩⟩
    · exact ⟨⟨y, List.mem_of_getElem? hy, by rw [l1]; rfl⟩, ⟨x, List.mem_of_getElem? hx, by rw [l2]; rfl⟩⟩
  unfold needs
  rw [hany]
  refine List.mem_flatMap.2 ⟨j, List.mem_range.2 (List.getElem?_eq_some_iff.1 hy).1, List.mem_filterMap.2 ⟨i, List.mem_range.2 hij, ?_⟩⟩
  rw [hm, hx, hy]
  simp only [cond_false, hpo, hlc]
def pend (n : Nat) (listed : Array Bool) : List Nat := (List.range' 0 n).filter fun i => !listed.getD i true
theorem getD_set_self {n j : Nat} {listed : Array Bool} (hsz : listed.size = n) (hj : j < n) : (listed.setIfInBounds j true).getD j true = true := by
  subst hsz; simp [hj]
theorem pend_split {n j : Nat} {listed : Array Bool} (hj : j < n) (hl : listed.getD j true = false) (hsz : listed.size = n) : ∃ A C, pend n listed = A ++ j :: C ∧ (∀ i ∈ A, i < j ∧ listed.getD i true = false) ∧ pend n (listed.setIfInBounds j true) = A ++ C ∧ A.Pairwise (· < ·) ∧ ∀ k ∈ C, j < k := by
  have hr : List.range' 0 n = List.range' 0 j ++ j :: List.range' (j + 1) (n - j - 1) := by
    obtain ⟨m, hm⟩ : ∃ m, n = j + (m + 1) := ⟨n - j - 1, by omega⟩
    have e : n - j - 1 = m := by omega
    rw [e, hm, ← List.range'_append_1, Nat.zero_add, List.range'_succ]
  refine ⟨(List.range' 0 j).filter fun i => !listed.getD i true, (List.range' (j + 1) (n - j - 1)).filter fun i => !listed.getD i true, ?_, fun i hi => ?_, ?_, List.Pairwise.filter _ List.pairwise_lt_range', fun k hk => by
    obtain ⟨h1, _⟩ := List.mem_filter.1 hk
    rw [List.mem_range'_1] at h1
    omega⟩
  · unfold pend
    rw [hr, List.filter_append, List.filter_cons, if_pos (by rw [hl]; rfl)]
  · obtain ⟨h1, h2⟩ := List.mem_filter.1 hi
    rw [List.mem_range'_1] at h1
    exact ⟨by omega, by simpa using h2⟩
  · unfold pend
    rw [hr, List.filter_append, List.filter_cons, if_neg (by
      have : (listed.setIfInBounds j true).getD j true = true := getD_set_self hsz hj
      rw [this]; simp)]
    congr 1
    · refine List.filter_congr fun i hi => ?_
      rw [List.mem_range'_1] at hi
      rw [getD_set_ne true (by omega)]
    · refine List.filter_congr fun i hi => ?_
      rw [List.mem_range'_1] at hi
      rw [getD_set_ne true (by omega)]
theorem any_sound {opsA : Array Oper} (hst : drawnOk P opsA.toList = true) (hok : ∀ o ∈ opsA.toList, okOp o = true) (hcall : SoundCall P call) {Q : Exit → Act → World → Prop} (r : St ⊕ Value) (hthr : ∀ v, r = .inr v → thrOk opsA.toList = true) (hend : ∀ s', r = .inl s' → endOk P opsA.toList s' = true)
    (hk : ∀ g' s' a' w', r = .inl s' → Inv P F g' s' a' w' → Q .normal a' w') (ht : ∀ v a' w', r = .inr v → a'.defers = F.ds → Fr F.T F.w0 w' → Q (.panic [{ v := v, recovered := false }]) a' w') :
    ∀ (fuel : Nat) (listed : Array Bool) (g : Gh) (s : St) (a : Act) (w : World), listed.size = opsA.size → Closed opsA.toList listed → Inv P F g s a w → (pend opsA.size listed).length ≤ fuel →
      runI P F.np takes call opsA.toList (pend opsA.size listed) s = some r → wpAny P .any opsA Q fuel listed a w := by
  have hstat : ∀ (j : Nat) y, opsA.toList[j]? = some y → (∀ e ∈ y.after.toList, Region.binds .any e = true → e.on < j) ∧ ∀ i, i < j → ((masks opsA.toList []).getD j 0).testBit i = true ∨ ∀ x, opsA.toList[i]? = some x → pairOk P opsA.toList x y = true ∨ pairDyn P opsA.toList i j x y = true := fun j y hy => by
    unfold drawnOk at hst
    have := List.all_eq_true.1 hst j (List.mem_range.2 (List.getElem?_eq_some_iff.1 hy).1)
    rw [hy] at this
    simp only [Bool.and_eq_true, List.all_eq_true] at this
    refine ⟨fun e he hb => ?_, fun i hi => ?_⟩
    · have h1 := this.1 e he
      rw [hb] at h1
      have h2 : Nat.blt e.on j = true := h1
      exact Nat.le_of_ble_eq_true h2
    · have := this.2 i (List.mem_range.2 hi)
      rw [Bool.or_eq_true] at this
      refine this.imp id fun h x hx => ?_
      rw [hx] at h
      exact (Bool.or_eq_true _ _).mp h
  have hmin : ∀ listed : Array Bool, listed.size = opsA.size → Region.ready .any opsA listed = [] → pend opsA.size listed = [] := fun listed hsz hr => by
    cases hp : pend opsA.size listed with
    | nil => rfl
    | cons i l =>
      have hi : i ∈ pend opsA.size listed := by rw [hp]; simp
      obtain ⟨h1, h2⟩ := List.mem_filter.1 hi
      rw [List.mem_range'_1] at h1
      have hlt : i < opsA.size := by omega
      obtain ⟨A, C, e1, e2, e3, e4, e5⟩ := pend_split hlt (by simpa using h2) hsz
      have hA : A = [] := by
        cases A with
        | nil => rfl
        | cons k A =>
          rw [hp] at e1
          cases e1
          exact absurd (e2 i (by simp)).1 (Nat.lt_irrefl _)
      have hbelow : ∀ k, k < i → listed.getD k true = true := fun k hk => by
        cases hkl : listed.getD k true with
        | true => rfl
        | false =>
          obtain ⟨A', C', e1', e2', e3', _, _⟩ := pend_split (n := opsA.size) (j := k) (by omega) hkl hsz
          rw [hp] at e1'
          cases A' with
          | nil => cases e1'; exact absurd hk (Nat.lt_irrefl _)
          | cons q A' => cases e1'; exact absurd (e2' i (by simp)).1 (by omega)
      have hrdy : i ∈ Region.ready .any opsA listed := by
        rw [mem_ready]
        refine ⟨by simpa using h2, opsA[i], Array.getElem?_eq_getElem hlt, fun e he hb => ?_⟩
        have hon := (hstat i opsA[i] (by simp [hlt])).1 e (by simpa using he) hb
        have := hbelow e.on hon
        rw [Array.getD_eq_getD_getElem?] at this ⊢
        rw [Array.getElem?_eq_getElem (by omega)] at this ⊢
        exact this
      rw [hr] at hrdy
      cases hrdy
  intro fuel
  induction fuel with
  | zero =>
    intro listed g s a w hsz hcl h hlen hrun
    have hnil : pend opsA.size listed = [] := List.length_eq_zero_iff.1 (by omega)
    rw [hnil] at hrun
    cases hrun
    refine ⟨?_, hk g s a w rfl h⟩
    cases hr : Region.ready .any opsA listed with
    | nil => rfl
    | cons j l =>
      have hj : j ∈ Region.ready .any opsA listed := by rw [hr]; simp
      rw [mem_ready] at hj
      obtain ⟨h1, o, ho, _⟩ := hj
      obtain ⟨A, C, e1, _, _, _, _⟩ := pend_split (Array.getElem?_eq_some_iff.1 ho).1 h1 hsz
      rw [hnil] at e1
      cases A <;> cases e1
  | succ fuel ih =>
    intro listed g s a w hsz hcl h hlen hrun
    refine ⟨fun hr => ?_, fun j hj => ?_⟩
    · rw [hmin listed hsz hr] at hrun
      cases hrun
      exact hk g s a w rfl h
    · rw [mem_ready] at hj
      obtain ⟨h1, o, ho, hdeps⟩ := hj
      have hlt := (Array.getElem?_eq_some_iff.1 ho).1
      have ho' : opsA.toList[j]? = some o := by rw [Array.getElem?_toList]; exact ho
      obtain ⟨A, C, e1, e2, e3, e4, e5⟩ := pend_split hlt h1 hsz
      have hnw : ∀ i, i ∈ A → ((masks opsA.toList []).getD j 0).testBit i = true → False := fun i hi hw => by
        have := waits_listed (fun j o ho => (hstat j o ho).1) hcl j o ho' (fun e he hb => hdeps e (by simpa using he) hb) i hw
        have h2 := (e2 i hi).2
        rw [Array.getD_eq_getD_getElem?] at this h2
        cases hq : listed[i]? with
        | none => rw [hq] at this; cases this
        | some b => rw [hq] at this h2; simp at this h2; rw [this] at h2; cases h2
      rw [e1] at hrun
      have hmf : ∀ i, i ∈ A → ((masks opsA.toList []).getD j 0).testBit i = false := fun i hi => by
        cases hq : ((masks opsA.toList []).getD j 0).testBit i
        · rfl
        · exact (hnw i hi hq).elim
      have hb := bubble (P := P) (np := F.np) (takes := takes) (call := call) ho' C r e5 (fun s' e i x p hij hx hm hpo hlc => List.all_eq_true.1 (hend s' e) p (needs_mem hij hx ho' hm hpo hlc)) A s e4 (fun i hi => by
        have hij := (e2 i hi).1
        have hil : i < opsA.size := by omega
        have hx : opsA.toList[i]? = some opsA[i] := by simp [hil]
        refine ⟨hij, hmf i hi, opsA[i], hx, ?_⟩
        rcases (hstat j o ho').2 i hij with hw | hw
        · exact (hnw i hi hw).elim
        · exact hw _ hx) (fun v hv i hi => by
        have hij := (e2 i hi).1
        have hil : i < opsA.size := by omega
        have hx : opsA.toList[i]? = some opsA[i] := by simp [hil]
        cases hisT : thrAt opsA.toList i with
        | false => rfl
        | true =>
        unfold thrAt at hisT
        rw [hx] at hisT
        dsimp only at hisT
        have hT := hthr v hv
        unfold thrOk at hT
        have := List.all_eq_true.1 hT i (List.mem_range.2 (by simpa using hil))
        rw [hx] at this
        dsimp only at this
        have hall : ((List.range opsA.toList.length).all fun j => Nat.ble j i || ((masks opsA.toList []).getD j 0).testBit i) = true := by
          unfold isThr at hisT
          split at hisT
          · rename_i hop; rw [hop] at this; exact this
          · rename_i hop; rw [hop] at this; exact this
          · rename_i hop; rw [hop] at this; exact this
          · cases hisT
        have := List.all_eq_true.1 hall j (List.mem_range.2 (by simpa using hlt))
        rw [Bool.or_eq_true] at this
        rcases this with h3 | h3
        · have := Nat.le_of_ble_eq_true h3; omega
        · exact (hnw i hi h3).elim) hrun
      simp only [runI] at hb
      unfold stI at hb
      rw [ho'] at hb
      dsimp only at hb
      unfold wpOp
      rw [ho]
      cases hs : stO P F.np true takes call opsA.toList o s with
      | none => rw [hs] at hb; cases hb
      | some r1 =>
        rw [hs] at hb
        refine stO_sound hcall h (hok o (List.mem_of_getElem? ho')) hs (fun g' s' a' w' e hI => ?_) (fun v a' w' e hd hf => ?_)
        · subst e
          refine ih (listed.setIfInBounds j true) g' s' a' w' (by simp [hsz]) (fun k o2 hk2 hl2 e he hbd => ?_) hI ?_ ?_
          · by_cases hkj : j = k
            · subst hkj
              rw [ho'] at hk2
              cases hk2
              exact getD_set_true (hdeps e (by simpa using he) hbd)
            · rw [getD_set_ne false hkj] at hl2
              exact getD_set_true (hcl k o2 hk2 hl2 e he hbd)
          · rw [e3]
            rw [e1] at hlen
            simp at hlen ⊢
            omega
          · rw [e3]; exact hb
        · subst e
          cases hb
          exact ht v a' w' rfl hd hf
theorem region_drawn {id : Nat} {opsA : Array Oper} {g : Gh} {s : St} {a : Act} {w : World} (hm : P.follows .mixedOrders = true) (hst : drawnOk P opsA.toList = true) (hok : ∀ o ∈ opsA.toList, okOp o = true) (hcall : SoundCall P call) {Q : Exit → Act → World → Prop} (r : St ⊕ Value) (hthr : ∀ v, r = .inr v → thrOk opsA.toList = true) (hend : ∀ s', r = .inl s' → endOk P opsA.toList s' = true)
    (h : Inv P F g s a w) (hrun : runO P F.np true takes call opsA.toList opsA.toList s = some r)
    (hk : ∀ g' s' a' w', r = .inl s' → Inv P F g' s' a' w' → Q .normal a' w') (ht : ∀ v a' w', r = .inr v → a'.defers = F.ds → Fr F.T F.w0 w' → Q (.panic [{ v := v, recovered := false }]) a' w') : (Code.region id opsA true).wp P Q a w := by
  have hp : pend opsA.size (Array.replicate opsA.size false) = List.range' 0 opsA.size := by
    unfold pend
    rw [List.filter_eq_self]
    intro i hi
    rw [List.mem_range'_1] at hi
    have : i < opsA.size := by omega
    simp [this]
  refine wp_region_any hm (any_sound (takes := takes) hst hok hcall r hthr hend hk ht opsA.size _ g s a _ (by simp) (fun k o hk hl => ?_) h.drew (by rw [hp]; simp) ?_)
  · by_cases hlt : k < opsA.size <;> simp [hlt] at hl
  · rw [hp]
    have := runI_range (P := P) (np := F.np) (takes := takes) (call := call) (ops := opsA.toList) opsA.toList 0 s (fun j _ => by rw [Nat.zero_add])
    rw [Array.length_toList] at this
    rw [this]; exact hrun
end
end Go.Proofs.YtckdgcpomkefpaaDoor.En
end
section
set_option linter.unusedVariables false
set_option linter.unusedSimpArgs false
namespace Go.Proofs.YtckdgcpomkefpaaDoor.En
open Go
def okCode (P : Program) : Code → Bool
  | .skip => true
  | .region _ ops dr => ops.toList.all okOp && okGroups ops.toList ops.toList && (!dr || drawnOk P ops.toList)
  | .seq a b => okCode P a && okCode P b
  | .cond c a b => okO c && okCode P a && okCode P b
  | .block _ c => okCode P c
  | .loop c => okCode P c
  | .exit _ => true
  | .ret => true
  | _ => false
def exitOf : Ex → Exit | .normal => .normal | .exit id => .exit id | .ret => .ret
section
variable {P : Program} {F : Fx} {np : Nat} {takes : FuncId → Option Nat} {call : CallF} {g : Gh} {s : St} {a : Act} {w : World}
theorem forgetL_rep {D : List Nat} (h : Inv P F g s a w) : Inv P F g (forget D s) a w := by
  refine h.wk (g' := g) rfl (by simp [forget, forgetL_len]) rfl (fun i x' hi => ?_) (fun d cs' hd => ⟨cs', hd, rfl, rfl, fun j c' hj => ⟨c', hj, fun _ _ _ h => h⟩⟩) id (fun _ _ h => h) (fun _ _ _ _ e => e) (fun _ _ _ => rfl)
  unfold forget at hi
  dsimp only at hi
  rw [forgetL_get] at hi
  obtain ⟨x, hx, rfl⟩ := Option.map_eq_some_iff.1 hi
  refine ⟨x, hx, fun v hv => ?_⟩
  cases D.contains (0 + i)
  · exact hv
  · exact trivial
theorem pruneT_get (mask : Nat) : ∀ (l : List AV) (i j : Nat), (pruneT mask i l)[j]? = (l[j]?).map fun x => bif mask.testBit (i + j) then x else .dead
  | [], i, j => by simp [pruneT]
  | x :: l, i, 0 => by simp [pruneT]
  | x :: l, i, j + 1 => by
    simp only [pruneT, List.getElem?_cons_succ]
    rw [pruneT_get mask l (i + 1) j, show i + 1 + j = i + (j + 1) by omega]
theorem pruneT_len (mask : Nat) : ∀ (l : List AV) (i : Nat), (pruneT mask i l).length = l.length
  | [], i => rfl
  | x :: l, i => by simp [pruneT, pruneT_len mask l (i + 1)]
theorem pruneB_get (np : Nat) (u : List Nat) : ∀ (l : Bx) (i j : Nat) cs, (pruneB np u i l)[j]? = some (some cs) → l[j]? = some (some cs)
  | [], i, j, cs, h => by simp [pruneB] at h
  | x :: l, i, 0, cs, h => by
    cases x with
    | none => simp [pruneB] at h
    | some c =>
      have h' : (some (bif Nat.blt i np || u.contains i then some c else none) : Option (Option (List AV))) = some (some cs) := h
      revert h'
      cases Nat.blt i np || u.contains i <;> intro h' <;> cases h'
      rfl
  | x :: l, i, j + 1, cs, h => by
    have h' : (pruneB np u (i + 1) l)[j]? = some (some cs) := by cases x <;> exact h
    exact pruneB_get np u l (i + 1) j cs h'
theorem pruneB_len (np : Nat) (u : List Nat) : ∀ (l : Bx) (i : Nat), (pruneB np u i l).length = l.length
  | [], i => rfl
  | none :: l, i => by simp [pruneB, pruneB_len np u l (i + 1)]
  | some c :: l, i => by simp [pruneB, pruneB_len np u l (i + 1)]
theorem prune_rep {mask : Nat} (h : Inv P F g s a w) : Inv P F g (s.prune np mask) a w := by
  refine h.wk (g' := g) rfl (by simp [St.prune, pruneT_len]) (by simp [St.prune, pruneB_len]) (fun i x' hi => ?_) (fun d cs' hd => ?_) id (fun _ _ h => h) (fun _ _ _ _ e => e) (fun _ _ _ => rfl)
  · unfold St.prune at hi
    dsimp only at hi
    rw [pruneT_get] at hi
    obtain ⟨x, hx, rfl⟩ := Option.map_eq_some_iff.1 hi
    refine ⟨x, hx, fun v hv => ?_⟩
    cases mask.testBit (0 + i)
    · exact trivial
    · exact hv
  · exact ⟨cs', pruneB_get _ _ _ _ _ _ hd, rfl, rfl, fun j c' hj => ⟨c', hj, fun _ _ _ h => h⟩⟩
theorem endOk_forget {D : List Nat} {ops : List Oper} (h : endOk P ops (forget D s) = true) : endOk P ops s = true := by
  unfold endOk at h ⊢
  rw [List.all_eq_true] at h ⊢
  intro p hp
  have h1 := h p hp
  have key : ∀ z : Operand, (forget D s).ev z = s.ev z ∨ (forget D s).ev z = .dead := fun z => by
    cases z with
    | tmp t =>
      show (forget D s).get t = s.get t ∨ (forget D s).get t = .dead
      unfold St.get forget
      dsimp only
      rw [List.getD_eq_getElem?_getD, List.getD_eq_getElem?_getD, forgetL_get]
      cases s.t[t]? with
      | none => exact .inl rfl
      | some x =>
        simp only [Option.map_some, Option.getD_some]
        cases D.contains (0 + t)
        · exact .inl rfl
        · exact .inr rfl
    | _ => exact .inl rfl
  unfold aparts at h1 ⊢
  rcases key p.1 with e | e
  · rw [e] at h1
    cases hq : s.ev p.1 <;> rw [hq] at h1 <;> first | exact h1 | skip
    rename_i d off
    dsimp only at h1 ⊢
    have far : ∀ xs : List Operand, farFrom (forget D s) d xs = true → farFrom s d xs = true := fun xs => by
      induction xs with
      | nil => exact id
      | cons x xs ih =>
        intro h2
        unfold farFrom at h2 ⊢
        rw [Bool.and_eq_true] at h2 ⊢
        refine ⟨?_, ih h2.2⟩
        rcases key x with e | e
        · rw [← e]; exact h2.1
        · rw [e] at h2; cases h2.1
    exact far _ h1
  · rw [e] at h1; cases h1
def Sound (P : Program) (F : Fx) (c : Code) {β : Type} (thr : Value → Option β) (ev : St → KC β → Option β) : Prop :=
  ∀ (s : St) (k : KC β) (o : β) (g : Gh) (a : Act) (w : World) (Q : Exit → Act → World → Prop), ev s k = some o → Inv P F g s a w →
    (∀ x g' s' a' w', k x s' = some o → Inv P F g' s' a' w' → Q (exitOf x) a' w') → (∀ v a' w', thr v = some o → a'.defers = F.ds → Fr F.T F.w0 w' → Q (.panic [{ v := v, recovered := false }]) a' w') → c.wp P Q a w
theorem region_sound {id : Nat} {ops : Array Oper} {dr : Bool} (hm : P.follows .mixedOrders = true) (hcall : SoundCall P call) (hok : okCode P (.region id ops dr) = true) {β : Type} (thr : Value → Option β) :
    Sound P F (.region id ops dr) thr fun s k => evOps P F.np dr takes call (fun v => bif !dr || thrOk ops.toList then thr v else none) ops.toList (ops.size + 1) ops.toList s (fun s => bif !dr || endOk P ops.toList s then k .normal s else none) := by
  intro s k o g a w Q h hI hk ht
  simp only [okCode, Bool.and_eq_true, List.all_eq_true] at hok
  obtain ⟨⟨h1, h2⟩, h3⟩ := hok
  have hF : forget [] s = s := by
    obtain ⟨t, b⟩ := s
    have : ∀ (l : List AV) (i : Nat), forgetL [] i l = l := fun l => by
      induction l with
      | nil => intro i; rfl
      | cons x l ih => intro i; simp [forgetL, ih]
    show (⟨forgetL [] 0 t, b⟩ : St) = ⟨t, b⟩
    rw [this]
  obtain ⟨r, hr, e1, e2⟩ := evOps_run (P := P) (np := F.np) (dr := dr) (ops := ops.toList) (ops.size + 1) takes call _ ops.toList s [] _ o h2 (fun o ho => ⟨fun _ _ _ _ hm => (by cases hm), fun _ _ _ _ _ hm => (by cases hm), fun _ _ hm => (by cases hm)⟩) (by rw [hF]; exact h)
  have hk' : ∀ g' s' a' w', r = .inl s' → Inv P F g' s' a' w' → Q .normal a' w' := fun g' s' a' w' e hI' => by
    obtain ⟨D', hD'⟩ := e1 s' e
    exact hk .normal g' _ a' w' (bif_some hD').2 (forgetL_rep hI')
  have ht' : ∀ v a' w', r = .inr v → a'.defers = F.ds → Fr F.T F.w0 w' → Q (.panic [{ v := v, recovered := false }]) a' w' := fun v a' w' e hd hf =>
    ht v a' w' (bif_some (e2 v e)).2 hd hf
  cases dr
  · exact wp_region_list (runO_sound hcall ops.toList g s a w r hI h1 hr hk' ht')
  · exact region_drawn (takes := takes) hm h3 h1 hcall r (fun v e => by simpa using (bif_some (e2 v e)).1) (fun s' e => by
      obtain ⟨D', hD'⟩ := e1 s' e
      exact endOk_forget (by simpa using (bif_some hD').1)) hI hr hk' ht'
theorem iter_sound {c : Code} {β : Type} {thr : Value → Option β} {body : St → KC β → Option β} (hb : Sound P F c thr body) : ∀ (n : Nat) (s : St) (k : KC β) (o : β) (g : Gh) (a : Act) (w : World) (Q : Exit → Act → World → Prop), iter body n s k = some o → Inv P F g s a w →
    (∀ x g' s' a' w', k x s' = some o → Inv P F g' s' a' w' → Q (exitOf x) a' w') → (∀ v a' w', thr v = some o → a'.defers = F.ds → Fr F.T F.w0 w' → Q (.panic [{ v := v, recovered := false }]) a' w') → Code.rounds P c Q n a w
  | 0, s, k, o, g, a, w, Q, h, _, _, _ => by cases h
  | n + 1, s, k, o, g, a, w, Q, h, hI, hk, ht => by
    rw [rounds_succ]
    refine hb s _ o g a w _ h hI (fun x g' s' a' w' e hI' => ?_) (fun v a' w' e hd hf => ht v a' w' e hd hf)
    cases x with
    | normal => exact iter_sound hb n s' k o g' a' w' Q e hI' hk ht
    | exit id => exact hk (.exit id) g' s' a' w' e hI'
    | ret => exact hk .ret g' s' a' w' e hI'
theorem evC_sound (hm : P.follows .mixedOrders = true) (hcall : SoundCall P call) {ret n : Nat} {β : Type} (thr : Value → Option β) : ∀ (c : Code) (out : Nat) (ex : List (Nat × Nat)), okCode P c = true → Sound P F c thr (evC P F.np takes call ret n thr c out ex)
  | .skip, out, ex, hok => fun s k o g a w Q h hI hk ht => wp_skip (hk .normal g s a w h hI)
  | .region id ops dr, out, ex, hok => region_sound hm hcall hok thr
  | .seq x y, out, ex, hok => fun s k o g a w Q h hI hk ht => by
    simp only [okCode, Bool.and_eq_true] at hok
    refine wp_seq (evC_sound hm hcall thr x _ ex hok.1 s _ o g a w _ h hI (fun e g' s' a' w' he hI' => ?_) (fun v a' w' e hd hf => ht v a' w' e hd hf))
    cases e with
    | normal =>
      refine evC_sound hm hcall thr y out ex hok.2 _ k o g' a' w' Q he ?_ hk ht
      cases joins x
      · exact hI'
      · exact prune_rep hI'
    | exit id => exact hk (.exit id) g' s' a' w' he hI'
    | ret => exact hk .ret g' s' a' w' he hI'
  | .cond c x y, out, ex, hok => fun s k o g a w Q h hI hk ht => by
    simp only [okCode, Bool.and_eq_true] at hok
    unfold evC at h
    split at h
    · rename_i b hb
      have hc := hI.ev c hok.1.1
      rw [hb] at hc
      obtain ⟨hc, _⟩ := (show a.eval c = .bool b ∧ _ from hc)
      refine wp_cond hc ?_
      cases b
      · exact evC_sound hm hcall thr y out ex hok.2 s k o g a w Q h hI hk ht
      · exact evC_sound hm hcall thr x out ex hok.1.2 s k o g a w Q h hI hk ht
    · cases h
  | .block id c, out, ex, hok => fun s k o g a w Q h hI hk ht => by
    simp only [okCode] at hok
    refine wp_block (evC_sound hm hcall thr c out ((id, out) :: ex) hok s _ o g a w _ h hI (fun e g' s' a' w' he hI' => ?_) (fun v a' w' e hd hf => ht v a' w' e hd hf))
    cases e with
    | normal => exact hk .normal g' s' a' w' he hI'
    | exit j =>
      show (if j = id then Q .normal a' w' else Q (.exit j) a' w')
      cases hj : (j == id)
      · dsimp only at he
        rw [hj] at he
        have : ¬ j = id := by simpa using hj
        rw [if_neg this]
        exact hk (.exit j) g' s' a' w' he hI'
      · dsimp only at he
        rw [hj] at he
        have : j = id := by simpa using hj
        rw [if_pos this]
        exact hk .normal g' s' a' w' he hI'
    | ret => exact hk .ret g' s' a' w' he hI'
  | .loop c, out, ex, hok => fun s k o g a w Q h hI hk ht => by
    simp only [okCode] at hok
    refine wp_loop_rounds n (iter_sound (thr := thr) (fun s k o g a w Q h hI hk ht => ?_) n _ k o g a w Q h (prune_rep hI) hk ht)
    refine evC_sound hm hcall thr c _ ex hok _ _ o g a w Q h hI (fun e g' s' a' w' he hI' => ?_) ht
    cases e with
    | normal => exact hk .normal g' _ a' w' he (prune_rep hI')
    | exit id => exact hk (.exit id) g' s' a' w' he hI'
    | ret => exact hk .ret g' s' a' w' he hI'
  | .exit id, out, ex, hok => fun s k o g a w Q h hI hk ht => wp_exit (hk (.exit id) g s a w h hI)
  | .ret, out, ex, hok => fun s k o g a w Q h hI hk ht => wp_ret (hk .ret g s a w h hI)
  | .rangeFunc .., out, ex, hok => by cases hok
  | .scope _, out, ex, hok => by cases hok
  | .label _, out, ex, hok => by cases hok
  | .goto _, out, ex, hok => by cases hok
  | .refuse _, out, ex, hok => by cases hok
end
end Go.Proofs.YtckdgcpomkefpaaDoor.En
end
section
set_option linter.unusedVariables false
set_option linter.unusedSimpArgs false
namespace Go.Proofs.YtckdgcpomkefpaaDoor.En
open Go
def okFn (P : Program) (fn : Func) : Bool := !(fn.name == "runtime.NumGoroutine") && (match fn.body with | some c => okCode P c | none => false)
section
variable {P : Program} {F : Fx} {np : Nat} {takes : FuncId → Option Nat} {call : CallF} {g : Gh} {s : St} {a : Act} {w : World}
structure Shape (x : AV) : Prop where
  box : ∀ d o, x ≠ .box d o
  fn : ∀ f a b, x ≠ .fn f a b
  tup : ∀ vs, x ≠ .tup vs
  agg : ∀ cs, x = .agg cs → ∀ (i : Nat) c, cs[i]? = some c → c.bare = c
theorem bare_bare (c : AV) : c.bare.bare = c.bare := by cases c <;> rfl
theorem bare_C {c : AV} {v : Value} (h : RepC P g w c v) : RepC P g w c.bare v := by
  cases c <;> first | exact h | skip
  case row t E l => exact ⟨h.1, fun n hn => by cases hn⟩
  case box d off => obtain ⟨β, _, rfl⟩ := h; exact rfl
  case fn f xs cs => obtain ⟨us, ws, rfl, _⟩ := h; exact rfl
theorem claim_spec (u : List Nat) (x : AV) : (∀ v, RepS P g w x v → RepT P g w (claim u x).2 v) ∧ Shape (claim u x).2 ∧ (∀ m E l, (claim u x).2 = .row (some m) E l → m ∉ u ∧ m < 1024 ∧ (claim u x).1 = m :: u) ∧ (∀ m, m ∈ u → m ∈ (claim u x).1) := by
  cases x with
  | row t E l =>
    cases t with
    | none => exact ⟨fun v h => h, ⟨fun _ _ e => (by cases e), fun _ _ _ e => (by cases e), fun _ e => (by cases e), fun _ e => (by cases e)⟩, fun _ _ _ e => (by cases e), fun _ h => h⟩
    | some n =>
      unfold claim
      dsimp only
      cases hc : u.contains n || !Nat.blt n 1024
      · simp only [Bool.or_eq_false_iff] at hc
        refine ⟨fun v h => h, ⟨fun _ _ e => (by cases e), fun _ _ _ e => (by cases e), fun _ e => (by cases e), fun _ e => (by cases e)⟩, fun m E' l' e => ?_, fun m h => by simp [h]⟩
        cases e
        have h2 : Nat.blt n 1024 = true := by simpa using hc.2
        exact ⟨by simpa using hc.1, Nat.le_of_ble_eq_true h2, rfl⟩
      · exact ⟨fun v h => ⟨h.1, fun m hm => by cases hm⟩, ⟨fun _ _ e => (by cases e), fun _ _ _ e => (by cases e), fun _ e => (by cases e), fun _ e => (by cases e)⟩, fun _ _ _ e => (by cases e), fun _ h => h⟩
  | agg cs =>
    refine ⟨fun v h => ?_, ⟨fun _ _ e => (by cases e), fun _ _ _ e => (by cases e), fun _ e => (by cases e), fun cs' e i c hi => ?_⟩, fun _ _ _ e => (by cases e), fun _ h => h⟩
    · obtain ⟨vs, h1, h2, h3⟩ := h
      refine ⟨vs, h1, by simp [h2], fun j c hj => ?_⟩
      rw [List.getElem?_map] at hj
      obtain ⟨c0, hc0, rfl⟩ := Option.map_eq_some_iff.1 hj
      obtain ⟨u, hu, hr⟩ := h3 j c0 hc0
      exact ⟨u, hu, bare_C hr⟩
    · cases e
      rw [List.getElem?_map] at hi
      obtain ⟨c0, hc0, rfl⟩ := Option.map_eq_some_iff.1 hi
      exact bare_bare c0
  | tup vs => exact ⟨fun v h => trivial, ⟨fun _ _ e => (by cases e), fun _ _ _ e => (by cases e), fun _ e => (by cases e), fun _ e => (by cases e)⟩, fun _ _ _ e => (by cases e), fun _ h => h⟩
  | fn f xs cs => exact ⟨fun v h => trivial, ⟨fun _ _ e => (by cases e), fun _ _ _ e => (by cases e), fun _ e => (by cases e), fun _ e => (by cases e)⟩, fun _ _ _ e => (by cases e), fun _ h => h⟩
  | box d o => exact ⟨fun v h => trivial, ⟨fun _ _ e => (by cases e), fun _ _ _ e => (by cases e), fun _ e => (by cases e), fun _ e => (by cases e)⟩, fun _ _ _ e => (by cases e), fun _ h => h⟩
  | v y => exact ⟨fun v h => h, ⟨fun _ _ e => (by cases e), fun _ _ _ e => (by cases e), fun _ e => (by cases e), fun _ e => (by cases e)⟩, fun _ _ _ e => (by cases e), fun _ h => h⟩
  | ro cs => exact ⟨fun v h => h, ⟨fun _ _ e => (by cases e), fun _ _ _ e => (by cases e), fun _ e => (by cases e), fun _ e => (by cases e)⟩, fun _ _ _ e => (by cases e), fun _ h => h⟩
  | self => exact ⟨fun v h => h, ⟨fun _ _ e => (by cases e), fun _ _ _ e => (by cases e), fun _ e => (by cases e), fun _ e => (by cases e)⟩, fun _ _ _ e => (by cases e), fun _ h => h⟩
  | dead => exact ⟨fun v h => h, ⟨fun _ _ e => (by cases e), fun _ _ _ e => (by cases e), fun _ e => (by cases e), fun _ e => (by cases e)⟩, fun _ _ _ e => (by cases e), fun _ h => h⟩
theorem bare_no (c : AV) : (∀ d o, c.bare ≠ .box d o) ∧ (∀ f a b, c.bare ≠ .fn f a b) ∧ ∀ m E l, c.bare ≠ .row (some m) E l := by
  cases c <;> exact ⟨fun _ _ e => (by cases e), fun _ _ _ e => (by cases e), fun _ _ _ e => (by cases e)⟩
theorem claimA_spec (sh : List Bool) : ∀ (cs : List AV) (u : List Nat), (claimA sh u cs).length = cs.length ∧
    (∀ (j : Nat) x, (claimA sh u cs)[j]? = some x → ∃ y, cs[j]? = some y ∧ (∀ v, RepC P g w y v → RepC P g w x v) ∧ (∀ d o, x ≠ .box d o) ∧ ∀ f a b, x ≠ .fn f a b) ∧
    (∀ (j m : Nat) E d, (claimA sh u cs)[j]? = some (.row (some m) E d) → m ∉ u ∧ (m < 1024 ∨ sh.getD (m / 1024 - 1) false = false)) ∧
    ∀ (j j' m : Nat) E d E' d', (claimA sh u cs)[j]? = some (.row (some m) E d) → (claimA sh u cs)[j']? = some (.row (some m) E' d') → j = j'
  | [], u => ⟨rfl, fun j x h => by simp [claimA] at h, fun j m E d h => by simp [claimA] at h, fun j j' m E d E' d' h => by simp [claimA] at h⟩
  | c :: cs, u => by
    have mk : ∀ (c1 : AV) (u1 : List Nat), claimA sh u (c :: cs) = c1 :: claimA sh u1 cs → ((∀ v, RepC P g w c v → RepC P g w c1 v) ∧ (∀ d o, c1 ≠ .box d o) ∧ ∀ f a b, c1 ≠ .fn f a b) →
        (∀ m E l, c1 = .row (some m) E l → (m ∉ u ∧ (m < 1024 ∨ sh.getD (m / 1024 - 1) false = false)) ∧ m ∈ u1) → (∀ m, m ∈ u → m ∈ u1) → _ := fun c1 u1 he h1 h2 h3 => (by
      obtain ⟨i1, i2, i3, i4⟩ := claimA_spec sh cs u1
      rw [he]
      refine ⟨by simp [i1], fun j c' h => ?_, fun j m E l h => ?_, fun j j' m E l E' l' h h' => ?_⟩
      · cases j with
        | zero => simp at h; subst h; exact ⟨c, rfl, h1⟩
        | succ j => exact i2 j c' (by simpa using h)
      · cases j with
        | zero => simp at h; exact (h2 m E l h).1
        | succ j =>
          have := i3 j m E l (by simpa using h)
          exact ⟨fun hm => this.1 (h3 m hm), this.2⟩
      · cases j with
        | zero =>
          simp at h
          cases j' with
          | zero => rfl
          | succ j' => exact absurd (h2 m E l h).2 (i3 j' m E' l' (by simpa using h')).1
        | succ j =>
          cases j' with
          | zero => simp at h'; exact absurd (h2 m E' l' h').2 (i3 j m E l (by simpa using h)).1
          | succ j' => rw [i4 j j' m E l E' l' (by simpa using h) (by simpa using h')] : (claimA sh u (c :: cs)).length = (c :: cs).length ∧
    (∀ (j : Nat) x, (claimA sh u (c :: cs))[j]? = some x → ∃ y, (c :: cs)[j]? = some y ∧ (∀ v, RepC P g w y v → RepC P g w x v) ∧ (∀ d o, x ≠ .box d o) ∧ ∀ f a b, x ≠ .fn f a b) ∧
    (∀ (j m : Nat) E d, (claimA sh u (c :: cs))[j]? = some (.row (some m) E d) → m ∉ u ∧ (m < 1024 ∨ sh.getD (m / 1024 - 1) false = false)) ∧
    ∀ (j j' m : Nat) E d E' d', (claimA sh u (c :: cs))[j]? = some (.row (some m) E d) → (claimA sh u (c :: cs))[j']? = some (.row (some m) E' d') → j = j')
    have hbare : claimA sh u (c :: cs) = c.bare :: claimA sh u cs → _ := fun he => mk c.bare u he ⟨fun v hv => bare_C hv, fun d o e => (bare_no c).1 d o e, fun f a b e => (bare_no c).2.1 f a b e⟩ (fun m E l e => ((bare_no c).2.2 m E l e).elim) (fun _ h => h)
    cases c with
    | row t E l =>
      cases t with
      | none => exact hbare rfl
      | some n =>
        cases hc : u.contains n || (!(Nat.blt n 1024) && sh.getD (n / 1024 - 1) false)
        · refine mk (.row (some n) E l) (n :: u) (by simp only [claimA, hc, cond_false]) ⟨fun v h => h, fun _ _ e => (by cases e), fun _ _ _ e => (by cases e)⟩ (fun m E' l' e => ?_) (fun m h => by simp [h])
          cases e
          rw [Bool.or_eq_false_iff] at hc
          refine ⟨⟨by simpa using hc.1, ?_⟩, by simp⟩
          cases hb : Nat.blt n 1024
          · rw [hb] at hc
            exact .inr (by simpa using hc.2)
          · exact .inl (Nat.le_of_ble_eq_true hb)
        · exact mk (.row none E l) u (by simp only [claimA, hc, cond_true]) ⟨fun v h => ⟨h.1, fun m hm => (by cases hm)⟩, fun _ _ e => (by cases e), fun _ _ _ e => (by cases e)⟩ (fun _ _ _ e => (by cases e)) (fun _ h => h)
    | _ => exact hbare rfl
theorem claimL_spec : ∀ (l : List AV) (u : List Nat), (claimL u l).length = l.length ∧
    (∀ (j : Nat) x, (claimL u l)[j]? = some x → ∃ y, l[j]? = some y ∧ (∀ v, RepS P g w y v → RepT P g w x v) ∧ Shape x) ∧
    (∀ (j m : Nat) E d, (claimL u l)[j]? = some (.row (some m) E d) → m ∉ u ∧ m < 1024) ∧
    ∀ (j j' m : Nat) E d E' d', (claimL u l)[j]? = some (.row (some m) E d) → (claimL u l)[j']? = some (.row (some m) E' d') → j = j'
  | [], u => ⟨rfl, fun j x h => by simp [claimL] at h, fun j m E d h => by simp [claimL] at h, fun j j' m E d E' d' h => by simp [claimL] at h⟩
  | x :: l, u => by
    obtain ⟨c1, c2, c3, c4⟩ := claim_spec (P := P) (g := g) (w := w) u x
    obtain ⟨i1, i2, i3, i4⟩ := claimL_spec l (claim u x).1
    unfold claimL
    refine ⟨by simp [i1], fun j y h => ?_, fun j m E d h => ?_, fun j j' m E d E' d' h h' => ?_⟩
    · cases j with
      | zero => simp at h; subst h; exact ⟨x, rfl, c1, c2⟩
      | succ j => exact i2 j y (by simpa using h)
    · cases j with
      | zero => simp at h; exact ⟨(c3 m E d h).1, (c3 m E d h).2.1⟩
      | succ j =>
        have := i3 j m E d (by simpa using h)
        exact ⟨fun hm => this.1 (c4 m hm), this.2⟩
    · cases j with
      | zero =>
        simp at h
        cases j' with
        | zero => rfl
        | succ j' =>
          have := (i3 j' m E' d' (by simpa using h')).1
          rw [(c3 m E d h).2.2] at this
          simp at this
      | succ j =>
        cases j' with
        | zero =>
          simp at h'
          have := (i3 j m E d (by simpa using h)).1
          rw [(c3 m E' d' h').2.2] at this
          simp at this
        | succ j' => rw [i4 j j' m E d E' d' (by simpa using h) (by simpa using h')]
theorem claimB_spec : ∀ (bx b : Bx) (i : Nat), bx.length ≤ b.length → (claimB i bx b).length = bx.length ∧ ∀ (j : Nat) cs, (claimB i bx b)[j]? = some (some cs) → ∃ cs0 cs1, bx[j]? = some (some cs0) ∧ b[j]? = some (some cs1) ∧ cs = giveL (i + j) (i + j) 0 cs1
  | [], b, i, h => ⟨by cases b <;> rfl, fun j cs hj => by cases b <;> simp [claimB] at hj⟩
  | x :: bx, [], i, h => by simp at h
  | x :: bx, y :: b, i, h => by
    obtain ⟨h1, h2⟩ := claimB_spec bx b (i + 1) (by simpa using h)
    have tl : ∀ (j : Nat) cs, (claimB (i + 1) bx b)[j]? = some (some cs) → ∃ cs0 cs1, (x :: bx)[j + 1]? = some (some cs0) ∧ (y :: b)[j + 1]? = some (some cs1) ∧ cs = giveL (i + (j + 1)) (i + (j + 1)) 0 cs1 := fun j cs hj => by
      obtain ⟨a1, a2, e1, e2, e3⟩ := h2 j cs hj
      exact ⟨a1, a2, by simpa using e1, by simpa using e2, by rw [e3, show i + 1 + j = i + (j + 1) by omega]⟩
    have mk : (claimB i (x :: bx) (y :: b) = none :: claimB (i + 1) bx b) → _ := fun e => (show (claimB i (x :: bx) (y :: b)).length = (x :: bx).length ∧ ∀ (j : Nat) cs, (claimB i (x :: bx) (y :: b))[j]? = some (some cs) → ∃ cs0 cs1, (x :: bx)[j]? = some (some cs0) ∧ (y :: b)[j]? = some (some cs1) ∧ cs = giveL (i + j) (i + j) 0 cs1 from by
      rw [e]
      refine ⟨by simp [h1], fun j cs hj => ?_⟩
      cases j with
      | zero => simp at hj
      | succ j => exact tl j cs (by simpa using hj))
    cases x with
    | none => exact mk (by cases y <;> rfl)
    | some cs0 =>
      cases y with
      | none => exact mk rfl
      | some cs1 =>
        show (some (giveL i i 0 cs1) :: claimB (i + 1) bx b).length = _ ∧ _
        refine ⟨by simp [h1], fun j cs hj => ?_⟩
        cases j with
        | zero =>
          have hj' : (some (some (giveL i i 0 cs1)) : Option (Option (List AV))) = some (some cs) := hj
          cases hj'
          exact ⟨cs0, cs1, rfl, rfl, rfl⟩
        | succ j => exact tl j cs (by simpa [claimB] using hj)
def resF (tm : Array Value) : ResultVar → Sem Value
  | .tmp t => pure (tm.getD t undef)
  | .cell c t => do loadVar t (← asAddr (tm.getD c undef))
theorem results_eq (fn : Func) (tm : Array Value) : results fn tm = (do
    let vs ← fn.results.mapM (resF tm)
    pure (if h : vs.size = 1 then vs[0] else .tuple vs)) := by
  unfold results
  congr 1
theorem resVal_sound (h : Inv P F g s a w) {r : ResultVar} {x : AV} (hx : resVal P s r = some x) : Runs P w (resF a.tmps r) (RepS P g w x) := by
  cases r with
  | tmp t => cases hx; exact runs_pure (h.get t)
  | cell c T =>
    obtain ⟨cs, hcs, hx⟩ := Option.bind_eq_some_iff.1 hx
    obtain ⟨β, off, hv, hc⟩ := cellsOf_sound h (h.get c) hcs
    unfold resF
    dsimp only
    rw [hv]
    exact (show Runs P w (asAddr (.pointer (some ⟨β, off, none⟩))) (· = ⟨β, off, none⟩) from ⟨_, by simp [asAddr], rfl⟩).bind fun A hA => by
      subst hA
      exact loadVar_sound hc hx
theorem resVals_sound (h : Inv P F g s a w) : ∀ (rs : List ResultVar) (l : List AV), resVals P s rs = some l → Runs P w (rs.mapM (resF a.tmps)) fun vs => vs.length = l.length ∧ ∀ (j : Nat) x, l[j]? = some x → ∃ v, vs[j]? = some v ∧ RepS P g w x v
  | [], l, hl => by
    cases hl
    rw [List.mapM_nil]
    exact runs_pure ⟨rfl, fun j x hj => by simp at hj⟩
  | r :: rs, l, hl => by
    obtain ⟨x, hx, hl'⟩ := Option.bind_eq_some_iff.1 hl
    obtain ⟨l', hl2, he⟩ := Option.bind_eq_some_iff.1 hl'
    cases he
    rw [List.mapM_cons]
    refine (resVal_sound h hx).bind fun v hv => ?_
    refine (resVals_sound h rs l' hl2).bind fun vs hvs => ?_
    refine runs_pure ⟨by simp [hvs.1], fun j y hj => ?_⟩
    cases j with
    | zero => simp at hj; subst hj; exact ⟨v, rfl, hv⟩
    | succ j => exact hvs.2 j y (by simpa using hj)
end
end Go.Proofs.YtckdgcpomkefpaaDoor.En
end
section
set_option linter.unusedVariables false
set_option linter.unusedSimpArgs false
namespace Go.Proofs.YtckdgcpomkefpaaDoor.En
open Go
section
variable {P : Program} {takes : FuncId → Option Nat} {call : CallF}
theorem give_rep0 {g : Gh} {w : World} {T : TypeId} {β d j : Nat} {c : AV} {u : Value} (h : RepB P g w T β j c u) : RepB P g w T β j (c.give d d j) u := by
  cases c with
  | row t E l =>
    cases t with
    | none => exact h
    | some m =>
      show RepC P g w (.row (bif m == sub d j then some (sub d j) else none) E l) u
      have h' : RepC P g w (.row (some m) E l) u := h
      cases hm : m == sub d j
      · exact ⟨h'.1, fun n hn => by cases hn⟩
      · exact ⟨h'.1, fun n hn => by
          cases hn
          have : m = sub d j := by simpa using hm
          rw [← this]
          exact h'.2 m rfl⟩
  | box e o =>
    obtain ⟨β', _, rfl⟩ := (show RepC P g w (.box e o) u from h)
    rfl
  | fn f xs cs =>
    obtain ⟨us, ws, rfl, _⟩ := (show RepC P g w (.fn f xs cs) u from h)
    rfl
  | v x => exact h
  | agg cs => exact h
  | tup cs => exact h
  | ro cs => exact h
  | self => exact h
  | dead => exact h
theorem giveL_len' (e d : Nat) : ∀ (cs : List AV) (j : Nat), (giveL e d j cs).length = cs.length
  | [], j => rfl
  | c :: cs, j => by simp [giveL, giveL_len' e d cs (j + 1)]
theorem give_tok {d j m : Nat} {c : AV} {E : TypeId} {l : List Dat} (h : c.give d d j = .row (some m) E l) : m = sub d j := by
  cases c with
  | row t E' l' =>
    cases t with
    | none => cases h
    | some k =>
      have h' : (AV.row (bif k == sub d j then some (sub d j) else none) E' l') = .row (some m) E l := h
      cases hk : k == sub d j <;> rw [hk] at h' <;> cases h'
      rfl
  | box e o => cases h
  | fn f xs cs => cases h
  | v x => cases h
  | agg cs => cases h
  | tup cs => cases h
  | ro cs => cases h
  | self => cases h
  | dead => cases h
def fxOf {P : Program} (g : Gh) (w : World) (bs : Bx) (np : Nat) (hm : Mem P g w bs) (hL : Laid g w) : Fx := ⟨w, g.G, TBof g, BBof g bs, g.bx, np, [], fun β hβ => ⟨hL.G β hβ, fun ⟨i, cs, hi, hb⟩ => by
  obtain ⟨β', us, T, h1, _, _, h2, _⟩ := hm.box i cs hi
  rw [hb] at h1
  cases h1
  exact h2 0 (hL.G β hβ 0)⟩, hL.P⟩
theorem entry_inv {g : Gh} {w : World} {fn : Func} {xs : List AV} {bs : Bx} {vs : Array Value} (hm : Mem P g w bs) (hL : Laid g w) (hl : bs.length = xs.length) (hv : vs.size = xs.length)
    (hr : ∀ (i : Nat) x, xs[i]? = some x → ∃ v, vs[i]? = some v ∧ RepS P g w x v) :
    Inv P (fxOf g w bs fn.params.size hm hL) g (entry fn xs bs) { tmps := vs ++ Array.replicate (fn.ntmps - vs.size) undef, defers := [] } w := by
  have hb : ∀ (d : Nat) cs, (bs ++ List.replicate (fn.ntmps - bs.length) none)[d]? = some (some cs) → bs[d]? = some (some cs) := fun d cs h => by
    rw [List.getElem?_append] at h
    split at h
    · exact h
    · rw [List.getElem?_replicate] at h
      split at h <;> cases h
  refine ⟨⟨hm.gsz, fun d cs h => hm.box d cs (hb d cs h), fun d d' β cs cs' h h' => hm.apart d d' β cs cs' (hb d cs h) (hb d' cs' h'), hm.own, hm.tkap, fun n v E β d cs h1 h2 h => hm.tkbx n v E β d cs h1 h2 (hb d cs h)⟩,
    by simp [entry, hl], by simp [entry, hv], fun i x hi => ?_, rfl, Fr.refl _ _, fun β j h => h, fun β j h _ => .inl h, fun n v E β h1 h2 => .inr ⟨n, v, E, h1, h2⟩, fun d cs β h1 h2 => .inr ⟨d, cs, hb d cs h1, h2⟩, fun i _ _ => rfl⟩
  have hi' : (xs ++ List.replicate (fn.ntmps - xs.length) AV.dead)[i]? = some x := hi
  rw [List.getElem?_append] at hi'
  split at hi'
  · rename_i hlt
    obtain ⟨v, h1, h2⟩ := hr i x hi'
    refine ⟨v, ?_, h2⟩
    show (vs ++ _)[i]? = _
    rw [Array.getElem?_append, if_pos (by omega)]
    exact h1
  · rename_i hlt
    rw [List.getElem?_replicate] at hi'
    split at hi'
    · rename_i hlt2
      cases hi'
      refine ⟨undef, ?_, trivial⟩
      show (vs ++ _)[i]? = _
      rw [Array.getElem?_append, if_neg (by omega), Array.getElem?_replicate, if_pos (by omega)]
    · cases hi'
theorem RepT.toS {g : Gh} {w : World} {x : AV} {v : Value} (h : RepT P g w x v) (hx : ∀ vs, x ≠ .tup vs) : RepS P g w x v := by
  rw [RepS.eq hx]; exact h
theorem keptB_get : ∀ (bs b : Bx) (i : Nat) (cs : List AV), keptB (bs.map Option.isSome) b = true → bs[i]? = some (some cs) → ∃ cs', b[i]? = some (some cs')
  | [], b, i, cs, _, hi => by simp at hi
  | none :: bs, [], i, cs, h, _ => by cases h
  | some c :: bs, [], i, cs, h, _ => by cases h
  | none :: bs, o :: r, 0, cs, h, hi => by simp at hi
  | some c :: bs, o :: r, 0, cs, h, hi => by
    simp only [List.map_cons, Option.isSome_some, keptB, Bool.and_eq_true] at h
    obtain ⟨cs', e⟩ := Option.isSome_iff_exists.1 h.1
    exact ⟨cs', by rw [e]; rfl⟩
  | none :: bs, o :: r, i + 1, cs, h, hi => keptB_get bs r i cs h (by simpa using hi)
  | some c :: bs, o :: r, i + 1, cs, h, hi => by
    simp only [List.map_cons, Option.isSome_some, keptB, Bool.and_eq_true] at h
    exact keptB_get bs r i cs h.2 (by simpa using hi)
def thaw (bs : Bx) (b : Bx) : Bx := b.mapIdx fun i o => match bs.getD i none with | some _ => o | none => none
theorem thaw_get {bs b : Bx} {i : Nat} {cs : List AV} (h : (thaw bs b)[i]? = some (some cs)) : b[i]? = some (some cs) ∧ ∃ c0, bs[i]? = some (some c0) := by
  unfold thaw at h
  rw [List.getElem?_mapIdx] at h
  obtain ⟨o, ho, h⟩ := Option.map_eq_some_iff.1 h
  split at h
  · rename_i c0 hc
    subst h
    refine ⟨ho, c0, ?_⟩
    rw [List.getD_eq_getElem?_getD] at hc
    cases hq : bs[i]? with
    | none => rw [hq] at hc; cases hc
    | some q => rw [hq] at hc; exact congrArg some hc
  · cases h
theorem thaw_of {bs b : Bx} {i : Nat} {c0 : List AV} (hi : bs[i]? = some (some c0)) : (thaw bs b)[i]? = b[i]? := by
  unfold thaw
  rw [List.getElem?_mapIdx]
  have : bs.getD i none = some c0 := by rw [List.getD_eq_getElem?_getD, hi]; rfl
  rw [this]
  cases b[i]? <;> rfl
theorem frz_rep {g1 g2 : Gh} {w : World} {T : TypeId} {β j : Nat} {c : AV} {u : Value} (hG : ∀ β j, g1.G β j → g2.G β j) (h : RepB P g1 w T β j c u) : Rep0 P g2 w c.frz u := by
  cases c with
  | v x => exact h
  | row t E l => exact ⟨rfl, (show RepC P g1 w (.row t E l) u from h).1.mono fun β j hj => ⟨hG β j hj, rfl⟩⟩
  | self T' => rcases h.2 with e | e <;> rw [e] <;> rfl
  | dead => exact h
  | agg cs => exact h.elim
  | tup cs => exact h.elim
  | box e o => exact RepC.one (P := P) (g := g1) (w := w) (x := .box e o) h
  | ro cs => exact RepC.one (P := P) (g := g1) (w := w) (x := .ro cs) h
  | fn f xs cs => exact RepC.one (P := P) (g := g1) (w := w) (x := .fn f xs cs) h
theorem freeze {g g' : Gh} {w w' : World} {np : Nat} {bs : Bx} {s' : St} {a' : Act} (hm : Mem P g w bs) (hL : Laid g w) (hI : Inv P (fxOf g w bs np hm hL) g' s' a' w') (hl : bs.length = np) (hbx : ∀ (i : Nat) cs, bs[i]? = some (some cs) → g'.bx i = g.bx i) :
    ∃ g2 b2, Inv P (fxOf g w bs np hm hL) g2 ⟨s'.t, b2⟩ a' w' ∧ g2.bx = g'.bx ∧ b2.length = s'.b.length ∧ (∀ (i : Nat) c0, bs[i]? = some (some c0) → b2[i]? = s'.b[i]?) ∧ ∀ x v, RepS P g' w' x v → RepS P g2 w' (frzX (bs.map Option.isSome) s' x) v := by
  cases hk : keptB (bs.map Option.isSome) s'.b
  · refine ⟨g', s'.b, hI, rfl, rfl, fun _ _ _ => rfl, fun x v hx => ?_⟩
    have : frzX (bs.map Option.isSome) s' x = x := by
      unfold frzX
      split
      · split
        · rw [hk, Bool.and_false]; rfl
        · rfl
      · rfl
    rw [this]; exact hx
  have hne : ∀ d cs β i c0, s'.b[d]? = some (some cs) → bs.getD d none = none → g'.bx d = some β → bs[i]? = some (some c0) → g'.bx i = some β → False := fun d cs β i c0 h1 h2 h3 h4 h5 => by
    obtain ⟨cs', h6⟩ := keptB_get bs s'.b i c0 hk h4
    have := hI.mem.apart d i β cs cs' h1 h6 h3 h5
    subst this
    rw [List.getD_eq_getElem?_getD, h4] at h2
    cases h2
  obtain ⟨g2, hg2⟩ : ∃ g2 : Gh, g2 = ⟨fun β j => g'.G β j ∨ ∃ d cs, s'.b[d]? = some (some cs) ∧ bs.getD d none = none ∧ g'.bx d = some β, g'.tk, g'.bx⟩ := ⟨_, rfl⟩
  have hG : ∀ β j, g2.G β j ↔ (g'.G β j ∨ ∃ d cs, s'.b[d]? = some (some cs) ∧ bs.getD d none = none ∧ g'.bx d = some β) := fun β j => by rw [hg2]
  have htk : g2.tk = g'.tk := by rw [hg2]
  have hbx2 : g2.bx = g'.bx := by rw [hg2]
  have hle : g'.Le g2 w' w' := ⟨fun β j hj => ⟨(hG β j).2 (.inl hj), rfl⟩, fun n v hn => by rw [htk]; exact hn, fun d β hd => by rw [hbx2]; exact hd⟩
  refine ⟨g2, thaw bs s'.b, ⟨⟨fun β j hj => ?_, fun d cs hd => ?_, fun d d' β cs cs' hd hd' hβ hβ' => ?_, fun n v E hn => ?_, fun n m v v' E E' β hn hm => ?_, fun n v E β d cs hn hv hd hβ => ?_⟩, ?_, hI.len, fun i x hi => ?_, hI.dfr, hI.fr, fun β j hj => (hG β j).2 (.inl (hI.g0 β j hj)), fun β j hj hlt => ?_, fun n v E β hn => ?_, fun d cs β hd hβ => ?_, fun i hi hn => ?_⟩, hbx2, by simp [thaw], fun i c0 hi => thaw_of hi, fun x v hx => ?_⟩
  · rcases (hG β j).1 hj with hj | ⟨d, cs, h1, _, h3⟩
    · exact hI.mem.gsz β j hj
    · obtain ⟨β', us, T, e1, e2, _⟩ := hI.mem.box d cs h1
      rw [h3] at e1
      cases e1
      exact (Array.getElem?_eq_some_iff.1 e2).1
  · obtain ⟨h1, c0, h2⟩ := thaw_get hd
    obtain ⟨β, us, T, e1, e2, e3, e4, e5⟩ := hI.mem.box d cs h1
    refine ⟨β, us, T, by rw [hbx2]; exact e1, e2, e3, fun j hj => ?_, fun j c hc => let ⟨u, hu, hr⟩ := e5 j c hc; ⟨u, hu, hr.mono hle⟩⟩
    rcases (hG β j).1 hj with hj | ⟨d', cs', q1, q2, q3⟩
    · exact e4 j hj
    · exact hne d' cs' β d c0 q1 q2 q3 h2 e1
  · rw [hbx2] at hβ hβ'
    exact hI.mem.apart d d' β cs cs' (thaw_get hd).1 (thaw_get hd').1 hβ hβ'
  · rw [htk] at hn
    refine (hI.mem.own n v E hn).keep fun β hβ => ⟨rfl, fun j hj => ?_⟩
    rcases (hG β j).1 hj with hj | ⟨d, cs, q1, q2, q3⟩
    · exact hj
    · exact (hI.mem.tkbx n v E β d cs hn hβ q1 q3).elim
  · rw [htk] at hn hm
    exact hI.mem.tkap n m v v' E E' β hn hm
  · rw [htk] at hn
    rw [hbx2] at hβ
    exact hI.mem.tkbx n v E β d cs hn hv (thaw_get hd).1 hβ
  · show (thaw bs s'.b).length = s'.t.length
    rw [← hI.blen]
    simp [thaw]
  · obtain ⟨v, h1, h2⟩ := hI.tm i x hi
    exact ⟨v, h1, h2.mono hle⟩
  · rcases (hG β j).1 hj with hj | ⟨d, cs, q1, q2, q3⟩
    · exact hI.gfr β j hj hlt
    · rcases hI.bb d cs β q1 q3 with e | ⟨i, c0, e1, e2⟩
      · omega
      · exact (hne d cs β i c0 q1 q2 q3 e1 (by rw [hbx i c0 e1]; exact e2)).elim
  · rw [htk] at hn
    exact hI.tb n v E β hn
  · rw [hbx2] at hβ
    exact hI.bb d cs β (thaw_get hd).1 hβ
  · rw [hbx2]
    exact hI.pbx i hi hn
  · unfold frzX
    split
    · rename_i d off
      split
      · rename_i cs hcs
        cases hsh : (bs.map Option.isSome).getD d false <;> simp only [Bool.not_true, Bool.not_false, Bool.false_and, Bool.true_and, cond_false]
        case true => exact hx.mono hle
        have hnn : bs.getD d none = none := by
          rw [List.getD_eq_getElem?_getD, List.getElem?_map] at hsh
          rw [List.getD_eq_getElem?_getD]
          cases hq : bs[d]? with
          | none => rfl
          | some o =>
            rw [hq] at hsh
            cases o with
            | none => rfl
            | some c => cases hsh
        rw [hk]
        obtain ⟨β, hβ, hv⟩ := (show RepC P g' w' (.box d off) v from hx)
        have hb := boxAt_eq hcs
        obtain ⟨β', us, T, e1, e2, e3, e4, e5⟩ := hI.mem.box d cs hb
        rw [hβ] at e1
        cases e1
        refine (show RepC P g2 w' (.ro ((cs.drop off).map AV.frz)) v from ⟨β, off, hv, fun j c hj => ?_⟩)
        rw [List.getElem?_map, List.getElem?_drop] at hj
        obtain ⟨c0, hc0, rfl⟩ := Option.map_eq_some_iff.1 hj
        obtain ⟨u, hu, hr⟩ := e5 (off + j) c0 hc0
        refine ⟨u, ?_, (hG _ _).2 (.inr ⟨d, cs, hb, hnn, hβ⟩), frz_rep (fun β j hj => (hG β j).2 (.inl hj)) hr⟩
        simp [World.cell?, e2, hu]
      · exact hx.mono hle
    · exact hx.mono hle
theorem outOf_sound {g g' : Gh} {w w' : World} {fn : Func} {bs : Bx} {s' : St} {a' : Act} {out : Out} (hm : Mem P g w bs) (hL : Laid g w) (hI : Inv P (fxOf g w bs fn.params.size hm hL) g' s' a' w') (hl : bs.length = fn.params.size) (h : outOf P fn bs s' = some out) :
    ∃ x v bs' g', out = .ret v bs' ∧ (results fn a'.tmps).run P w' = .ok x w' ∧ CallPost P g w bs v bs' x g' w' := by
  unfold outOf at h
  obtain ⟨l, hl2, h⟩ := Option.bind_eq_some_iff.1 h
  obtain ⟨hle, h⟩ := bif_some h
  cases h
  have hle' := Nat.le_of_ble_eq_true hle
  obtain ⟨vs, hrun, hlen, hvs⟩ := resVals_sound hI _ _ hl2
  obtain ⟨b1, b2⟩ := claimB_spec bs s'.b 0 hle'
  have hbox : ∀ (i : Nat) cs, bs[i]? = some (some cs) → g'.bx i = g.bx i := fun i cs hi => by
    obtain ⟨β, us, T, e1, _⟩ := hm.box i cs hi
    have hlt := (List.getElem?_eq_some_iff.1 hi).1
    exact hI.pbx i (by show i < fn.params.size; omega) (by show g.bx i ≠ none; rw [e1]; simp)
  obtain ⟨g2, fb, hI, hbx2, hfl, hfb, hfz⟩ := freeze hm hL hI hl hbox
  replace hbox : ∀ (i : Nat) cs, bs[i]? = some (some cs) → g2.bx i = g.bx i := fun i cs hi => by rw [hbx2]; exact hbox i cs hi
  replace hvs : ∀ (j : Nat) x, (l.map (frzX (bs.map Option.isSome) s'))[j]? = some x → ∃ v, vs[j]? = some v ∧ RepS P g2 w' x v := fun j x hj => by
    rw [List.getElem?_map] at hj
    obtain ⟨x0, hx0, rfl⟩ := Option.map_eq_some_iff.1 hj
    obtain ⟨v, e1, e2⟩ := hvs j x0 hx0
    exact ⟨v, e1, hfz x0 v e2⟩
  replace hlen : vs.length = (l.map (frzX (bs.map Option.isSome) s')).length := by rw [hlen]; simp
  clear hfz hbx2
  generalize l.map (frzX (bs.map Option.isSome) s') = l at hvs hlen ⊢
  generalize g2 = g' at hI hbox hvs ⊢
  obtain ⟨c1, c2, c3, c4⟩ := claimL_spec (P := P) (g := g') (w := w') l []
  have hT : ∀ (j : Nat) x, (claimL [] l)[j]? = some x → ∃ v, vs[j]? = some v ∧ RepT P g' w' x v ∧ Shape x := fun j x hj => by
    obtain ⟨y, h1, h2, h3⟩ := c2 j x hj
    obtain ⟨v, e1, e2⟩ := hvs j y h1
    exact ⟨v, e1, h2 v e2, h3⟩
  have hres : (results fn a'.tmps).run P w' = .ok (if h : vs.toArray.size = 1 then vs.toArray[0] else .tuple vs.toArray) w' := by
    rw [results_eq, Array.mapM_eq_mapM_toList]
    have hr2 : (List.toArray <$> (fn.results.toList.mapM (resF a'.tmps)) : Sem (Array Value)).run P w' = .ok vs.toArray w' := by
      rw [← bind_pure_comp, Sem.run_bind, hrun]
      simp
    rw [Sem.run_bind, hr2]
    simp
  have hv : RepS P g' w' (claimR (bs.map Option.isSome) l) (if h : vs.toArray.size = 1 then vs.toArray[0] else .tuple vs.toArray) ∧ OutV (claimR (bs.map Option.isSome) l) ∧ tokLt bs (claimR (bs.map Option.isSome) l) := by
    by_cases hA : ∃ cs, l = [.agg cs]
    · obtain ⟨cs, rfl⟩ := hA
      obtain ⟨v, e1, e2⟩ := hvs 0 (.agg cs) rfl
      have hvs1 : vs = [v] := by
        match vs, hlen, e1 with
        | [y], _, e1 => simp at e1; rw [e1]
      subst hvs1
      obtain ⟨us, r1, r2, r3⟩ := (show RepT P g' w' (.agg cs) v from e2)
      obtain ⟨a1, a2, a3, a4⟩ := claimA_spec (P := P) (g := g') (w := w') (bs.map Option.isSome) cs []
      refine ⟨(show RepT P g' w' (.agg (claimA (bs.map Option.isSome) [] cs)) v from ⟨us, r1, by rw [a1]; exact r2, fun j c hj => ?_⟩), ⟨fun j d o hj => ?_, fun j f a b hj => ?_, a4⟩, fun j m E l hj => ?_⟩
      · obtain ⟨y, q1, q2, _⟩ := a2 j c hj
        obtain ⟨u, hu, hr⟩ := r3 j y q1
        exact ⟨u, hu, q2 u hr⟩
      · obtain ⟨_, _, _, q, _⟩ := a2 j _ hj
        exact q d o rfl
      · obtain ⟨_, _, _, _, q⟩ := a2 j _ hj
        exact q f a b rfl
      · rcases (a3 j m E l hj).2 with e | e
        · exact .inl e
        · refine .inr fun c hc => ?_
          have : (bs.map Option.isSome).getD (m / 1024 - 1) false = true := by rw [List.getD_eq_getElem?_getD, List.getElem?_map, hc]; rfl
          rw [e] at this
          cases this
    · have hR : claimR (bs.map Option.isSome) l = (match claimL [] l with | [x] => x | l => .tup l) := by
        unfold claimR
        split
        · exact absurd ⟨_, rfl⟩ hA
        · rfl
      rw [hR]
      have hcl : (claimL [] l).length = vs.length := by rw [c1, hlen]
      generalize hL : claimL [] l = L at hT c3 c4 hcl
      have many : L.length ≠ 1 → RepS P g' w' (.tup L) (if h : vs.toArray.size = 1 then vs.toArray[0] else .tuple vs.toArray) ∧ OutV (.tup L) ∧ tokLt bs (.tup L) := fun hne => by
        rw [dif_neg (by simpa using (show ¬ vs.length = 1 by omega))]
        refine ⟨⟨vs.toArray, rfl, by simp [hcl], fun j x hj => ?_⟩, ⟨fun j d o hj => ?_, fun j f a b hj => ?_, fun j cs hj i c hi => ?_, fun j j' m E d E' d' h1 h2 => c4 j j' m E d E' d' h1 h2⟩, fun j m E d hj => (c3 j m E d hj).2⟩
        · obtain ⟨v, e1, e2, _⟩ := hT j x hj
          exact ⟨v, by simpa using e1, e2⟩
        · exact ((hT j _ hj).elim fun v hv => hv.2.2.box d o rfl)
        · exact ((hT j _ hj).elim fun v hv => hv.2.2.fn f a b rfl)
        · exact ((hT j _ hj).elim fun v hv => hv.2.2.agg cs rfl i c hi)
      match L, hT, c3, c4, hcl, many with
      | [], hT, c3, c4, hcl, many => exact many (by simp)
      | [x], hT, c3, c4, hcl, many =>
        obtain ⟨v, e1, e2, e3⟩ := hT 0 x rfl
        have hvs1 : vs = [v] := by
          match vs, hcl, e1 with
          | [y], _, e1 => simp at e1; rw [e1]
        subst hvs1
        refine ⟨e2.toS e3.tup, ?_, ?_⟩
        · cases x with
          | box d o => exact absurd rfl (e3.box d o)
          | fn f a b => exact absurd rfl (e3.fn f a b)
          | tup vs => exact absurd rfl (e3.tup vs)
          | agg cs => exact ⟨fun j d o hj => (by have := e3.agg cs rfl j _ hj; cases this), fun j f a b hj => (by have := e3.agg cs rfl j _ hj; cases this), fun j j' m E l E' l' h1 _ => (by have := e3.agg cs rfl j _ h1; cases this)⟩
          | v y => exact trivial
          | row t E l => exact trivial
          | ro cs => exact trivial
          | self => exact trivial
          | dead => exact trivial
        · cases x with
          | tup vs => exact absurd rfl (e3.tup vs)
          | row t E l =>
            cases t with
            | none => exact trivial
            | some m => exact (c3 0 m E l rfl).2
          | box d o => exact trivial
          | fn f a b => exact trivial
          | agg cs => exact fun j m E l hj => (by have := e3.agg cs rfl j _ hj; cases this)
          | v y => exact trivial
          | ro cs => exact trivial
          | self => exact trivial
          | dead => exact trivial
      | x :: y :: L, hT, c3, c4, hcl, many => exact many (by simp)
  refine ⟨_, _, _, g', rfl, hres, ⟨?_, b1, fun i cs' hi => ?_, hv.1, hI.fr, hI.g0, hI.gfr, hI.tb, hbox, fun i j m cs E d hi hj => ?_, hv.2.1, hv.2.2⟩⟩
  · refine hI.mem.wk (g' := g') rfl (fun d cs' hd => ?_) id (fun _ _ h => h) (fun _ _ _ _ e => e)
    obtain ⟨cs0, cs1, e1, e2, e3⟩ := b2 d cs' hd
    rw [Nat.zero_add] at e3
    subst e3
    refine ⟨cs1, (hfb d cs0 e1).trans e2, giveL_len' _ _ _ _, rfl, fun j c' hj => ?_⟩
    rw [giveL_get, Nat.zero_add] at hj
    obtain ⟨c, hc, rfl⟩ := Option.map_eq_some_iff.1 hj
    exact ⟨c, hc, fun T β u hu => give_rep0 hu⟩
  · obtain ⟨cs0, cs1, e1, _⟩ := b2 i cs' hi
    exact ⟨cs0, e1⟩
  · obtain ⟨cs0, cs1, e1, e2, e3⟩ := b2 i cs hi
    rw [Nat.zero_add] at e3
    subst e3
    rw [giveL_get, Nat.zero_add] at hj
    obtain ⟨c, hc, he⟩ := Option.map_eq_some_iff.1 hj
    exact give_tok he
def PostOf (P : Program) (g : Gh) (w : World) (bs : Bx) (out : Out) (e : Ending) (w' : World) : Prop := match out with
  | .ret v bs' => ∃ x g', e = .returned x ∧ CallPost P g w bs v bs' x g' w'
  | .thr x => e = .panicked [{ v := x, recovered := false }] ∧ Fr (TTof g bs) w w'
theorem evBody_sound (hmix : P.follows .mixedOrders = true) (hcall : SoundCall P call) {n : Nat} {f : FuncId} {fn : Func} (hf : P.funcs[f]? = some fn) (hok : okFn P fn = true) {xs : List AV} {bs : Bx} {out : Out} (h : evBody P takes call n fn xs bs = some out)
    {g : Gh} {w : World} {vs : Array Value} (hm : Mem P g w bs) (hL : Laid g w) (hl : bs.length = xs.length) (hv : vs.size = xs.length) (hr : ∀ (i : Nat) x, xs[i]? = some x → ∃ v, vs[i]? = some v ∧ RepS P g w x v) :
    Calls P f vs w (PostOf P g w bs out) := by
  unfold okFn at hok
  rw [Bool.and_eq_true] at hok
  unfold evBody at h
  split at h
  · rename_i c hc
    obtain ⟨hchk, h⟩ := bif_some h
    simp only [Bool.and_eq_true] at hchk
    have hbl : bs.length = fn.params.size := Nat.eq_of_beq_eq_true hchk.1.2
    have hokc : okCode P c = true := by
      have := hok.2
      rw [hc] at this
      exact this
    have ret : ∀ g' s' a' w', outOf P fn bs s' = some out → Inv P (fxOf g w bs fn.params.size hm hL) g' s' a' w' → a'.defers = [] ∧ ∃ v, (results fn a'.tmps).run P w' = .ok v w' ∧ PostOf P g w bs out (.returned v) w' := fun g' s' a' w' e hI' => by
      obtain ⟨x, v, bs', g2, rfl, hrun, post⟩ := outOf_sound hm hL hI' hbl e
      exact ⟨hI'.dfr, x, hrun, x, g2, rfl, post⟩
    refine calls_of_wp hf hc (evC_sound (F := fxOf g w bs fn.params.size hm hL) hmix hcall (takes := takes) _ c _ _ hokc _ _ out g _ w _ h (entry_inv hm hL hl hv hr) (fun x g' s' a' w' e hI' => ?_) (fun v a' w' e hd hf => ?_))
    · cases x with
      | normal => exact ret g' s' a' w' e hI'
      | ret => exact ret g' s' a' w' e hI'
      | exit id => cases e
    · cases e
      exact ⟨hd, rfl, hf⟩
  · cases h
end
end Go.Proofs.YtckdgcpomkefpaaDoor.En
end
section
set_option linter.unusedVariables false
set_option linter.unusedSimpArgs false
namespace Go.Proofs.YtckdgcpomkefpaaDoor.En
open Go
def lkD {α : Type} (d : α) : List (Nat × α) → Nat → α
  | [], _ => d
  | (j, x) :: r, i => bif Nat.beq i j then x else lkD d r i
def upto : Nat → List Nat → List Nat
  | 0, l => l
  | n + 1, l => upto n (n :: l)
def sp (n : Nat) (t : List (Nat × AV)) (b : List (Nat × List AV)) : St := ⟨(upto n []).map (lkD .dead t), (upto n []).map (lkD none (b.map fun p => (p.1, some p.2)))⟩
section
variable (P : Program) (np : Nat) (takes : FuncId → Option Nat) (call : CallF) (ret n : Nat)
def atL {β : Type} (thr : Value → Option β) : List Bool → Code → Nat → List (Nat × Nat) → KC β → (Code × Nat × List (Nat × Nat) × KC β)
  | p, .seq a b, out, ex, k => (match p with
    | false :: p => atL thr p a (liveC ret b out ex) ex (fun x s => match x with
      | .normal => evC P np takes call ret n thr b out ex (bif joins a then s.prune np (liveC ret b out ex) else s) k
      | .exit id => k (.exit id) s
      | .ret => k .ret s)
    | _ :: p => atL thr p b out ex k
    | [] => (.skip, out, ex, k))
  | p, .cond c a b, out, ex, k => (match p with
    | false :: p => atL thr p a out ex k
    | _ :: p => atL thr p b out ex k
    | [] => (.skip, out, ex, k))
  | p, .block id c, out, ex, k => atL thr p c out ((id, out) :: ex) (fun x s => match x with
    | .exit j => k (bif j == id then .normal else .exit j) s
    | .normal => k .normal s
    | .ret => k .ret s)
  | p, .loop c, out, ex, k => (match p with
    | [] => (c, out, ex, k)
    | _ :: p => (c, out, ex, k))
  | _, c, out, ex, k => (.skip, out, ex, k)
def loopGo {β : Type} (thr : Value → Option β) (q : Code × Nat × List (Nat × Nat) × KC β) (m : Nat) (s : St) : Option β :=
  iter (fun s k => evC P np takes call ret n thr q.1 (liveC ret (.loop q.1) q.2.1 q.2.2.1) q.2.2.1 s (fun x s => match x with
    | .normal => k .normal (s.prune np (liveC ret (.loop q.1) q.2.1 q.2.2.1))
    | .exit id => k (.exit id) s
    | .ret => k .ret s)) m s q.2.2.2
end
def loopF (P : Program) (takes : FuncId → Option Nat) (call : CallF) (n : Nat) (f : FuncId) (bx : Bx) (p : List Bool) (m : Nat) (s : St) : Option Out := match P.funcs[f]? with
  | some fn => (match fn.body with
    | some c => loopGo P fn.params.size takes call (retMask fn.results.toList) n (fun v => some (.thr v)) (atL P fn.params.size takes call (retMask fn.results.toList) n (fun v => some (.thr v)) p c (retMask fn.results.toList) [] (fun x s => match x with
        | .normal => outOf P fn bx s
        | .ret => outOf P fn bx s
        | .exit _ => none)) m s
    | none => none)
  | none => none
def loopF2 (P : Program) (takes : FuncId → Option Nat) (call : CallF) (n : Nat) (f : FuncId) (bx : Bx) (p1 : List Bool) (m1 : Nat) (p2 : List Bool) (m : Nat) (s : St) : Option Out := match P.funcs[f]? with
  | some fn => (match fn.body with
    | some c =>
      let thr : Value → Option Out := fun v => some (.thr v)
      let q1 := atL P fn.params.size takes call (retMask fn.results.toList) n thr p1 c (retMask fn.results.toList) [] (fun x s => match x with
        | .normal => outOf P fn bx s
        | .ret => outOf P fn bx s
        | .exit _ => none)
      loopGo P fn.params.size takes call (retMask fn.results.toList) n thr (atL P fn.params.size takes call (retMask fn.results.toList) n thr p2 q1.1 (liveC (retMask fn.results.toList) (.loop q1.1) q1.2.1 q1.2.2.1) q1.2.2.1 (fun x s => match x with
        | .normal => loopGo P fn.params.size takes call (retMask fn.results.toList) n thr q1 m1 (s.prune fn.params.size (liveC (retMask fn.results.toList) (.loop q1.1) q1.2.1 q1.2.2.1))
        | .exit id => q1.2.2.2 (.exit id) s
        | .ret => q1.2.2.2 .ret s)) m s
    | none => none)
  | none => none
def evFn (P : Program) (takes : FuncId → Option Nat) (call : CallF) (n : Nat) (f : FuncId) (xs : List AV) (bx : Bx) : Option Out := match P.funcs[f]? with
  | some fn => evBody P takes call n fn xs bx
  | none => none
end Go.Proofs.YtckdgcpomkefpaaDoor.En
end
section
set_option linter.unusedVariables false
set_option linter.unusedSimpArgs false
namespace Go.Proofs.YtckdgcpomkefpaaDoor.En
open Go
def addF (f : FuncId) (ent : List AV → Bx → Option (Bool × Out)) (ext : CallF) : CallF := fun g xs bs => bif Nat.beq g f then ent xs bs else ext g xs bs
section
variable {P : Program} {takes : FuncId → Option Nat} {ext call : CallF}
theorem sound_fn (hmix : P.follows .mixedOrders = true) (hext : SoundCall P ext) {f : FuncId} {fn : Func} (hf : P.funcs[f]? = some fn) (hok : okFn P fn = true) {n : Nat} {xs : List AV} {bs : Bx} {out : Out} (h : evFn P takes ext n f xs bs = some out) :
    (∃ fn, P.funcs[f]? = some fn ∧ fn.body.isSome = true ∧ (fn.name == "runtime.NumGoroutine") = false) ∧ ∀ (g : Gh) (w : World) (vs : Array Value), Mem P g w bs → Laid g w → bs.length = xs.length → vs.size = xs.length →
  (∀ (i : Nat) x, xs[i]? = some x → ∃ v, vs[i]? = some v ∧ RepS P g w x v) → Calls P f vs w (PostOf P g w bs out) := by
  unfold evFn at h
  rw [hf] at h
  refine ⟨⟨fn, hf, ?_, ?_⟩, fun g w vs hm hL hl hv hr => evBody_sound hmix hext hf hok h hm hL hl hv hr⟩
  · unfold okFn at hok
    cases hb : fn.body with
    | none => rw [hb] at hok; simp at hok
    | some c => rfl
  · unfold okFn at hok
    simp only [Bool.and_eq_true, Bool.not_eq_true'] at hok
    exact hok.1
theorem sound_add (hmix : P.follows .mixedOrders = true) (hext : SoundCall P ext) (f : FuncId) {fn : Func} (hf : P.funcs[f]? = some fn) (hok : okFn P fn = true) (ent : List AV → Bx → Option (Bool × Out))
    (h : ∀ xs bs out, ent xs bs = some (true, out) → ∃ n, evFn P takes ext n f xs bs = some out) : SoundCall P (addF f ent ext) := fun g xs bs out ho => by
  unfold addF at ho
  cases hg : Nat.beq g f <;> rw [hg] at ho <;> simp only [cond_true, cond_false] at ho
  · exact hext g xs bs out ho
  · have e : g = f := Nat.eq_of_beq_eq_true hg
    subst e
    obtain ⟨n, hn⟩ := h xs bs out ho
    obtain ⟨h1, h2⟩ := sound_fn hmix hext hf hok hn
    refine ⟨h1, fun gh w vs a1 aL a2 a3 a4 => ?_⟩
    have := h2 gh w vs a1 aL a2 a3 a4
    cases out <;> exact this
theorem sound_rec (hmix : P.follows .mixedOrders = true) (hext : SoundCall P ext) (f : FuncId) {fn : Func} (hf : P.funcs[f]? = some fn) (hok : okFn P fn = true) (ent : Nat → List AV → Bx → Option (Bool × Out)) (h0 : ∀ xs bs out, ent 0 xs bs ≠ some (true, out))
    (h : ∀ k xs bs out, ent (k + 1) xs bs = some (true, out) → ∃ n, evFn P takes (addF f (ent k) ext) n f xs bs = some out) : ∀ k, SoundCall P (addF f (ent k) ext)
  | 0 => fun g xs bs out ho => by
    unfold addF at ho
    cases hg : Nat.beq g f <;> rw [hg] at ho <;> simp only [cond_true, cond_false] at ho
    · exact hext g xs bs out ho
    · exact absurd ho (h0 _ _ _)
  | k + 1 => fun g xs bs out ho => by
    unfold addF at ho
    cases hg : Nat.beq g f <;> rw [hg] at ho <;> simp only [cond_true, cond_false] at ho
    · exact hext g xs bs out ho
    · have e : g = f := Nat.eq_of_beq_eq_true hg
      subst e
      obtain ⟨n, hn⟩ := h k xs bs out ho
      obtain ⟨h1, h2⟩ := sound_fn hmix (sound_rec hmix hext g hf hok ent h0 h k) hf hok hn
      refine ⟨h1, fun gh w vs a1 aL a2 a3 a4 => ?_⟩
      have := h2 gh w vs a1 aL a2 a3 a4
      cases out <;> exact this
theorem sound_none : SoundCall P (fun _ _ _ => none) := fun f xs bs out h => by cases h
end
end Go.Proofs.YtckdgcpomkefpaaDoor.En
end
section
set_option linter.unusedVariables false
set_option linter.unusedSimpArgs false
set_option maxRecDepth 100000
namespace Go.Proofs.YtckdgcpomkefpaaDoor.En
open Go
noncomputable abbrev PR := Tryd.prog
def TK : FuncId → Option Nat := fun _ => none
theorem idx_at {l : List Dat} {i : Nat} (h : i < l.length) : idx l (i : Int) = some l[i] := by
  unfold idx
  have e : decide ((0 : Int) ≤ i) = true := decide_eq_true (by omega)
  rw [e]
  simp [h]
noncomputable def keepL (call : CallF) (n m : Nat) (l1 l2 : List Dat) (i : Int) : Option Out := loopF PR TK call n 12 [none, none] [true, true, false, true] m (sp 26 [(0, .row none 3 l1), (1, .row none 3 l2), (5, I i)] [])
theorem keep_0 (call : CallF) (n : Nat) (l1 l2 : List Dat) : evFn PR TK call n 12 [.row none 3 l1, .row none 3 l2] [none, none] =
  bif ((l1.length : Int) != (l2.length : Int)) then some (Out.ret (B false) [none, none]) else keepL call n n l1 l2 0 := by kernel_rfl
theorem keep_S (call : CallF) (n m : Nat) (l1 l2 : List Dat) (i : Int) : keepL call n (m + 1) l1 l2 i =
  bif decide (i < l1.length) then (idx l1 i).bind fun d => (idx l2 i).bind fun e => bif ((d.at 0).toI != (e.at 0).toI) then some (Out.ret (B false) [none, none]) else keepL call n m l1 l2 (IntKind.i64.wrap (i + 1))
  else some (Out.ret (B true) [none, none]) := by kernel_rfl
def keepB : List Dat → List Dat → Bool
  | [], [] => true
  | d :: l, e :: m => ((d.at 0).toI == (e.at 0).toI) && keepB l m
  | _, _ => false
theorem keep_loop (call : CallF) (n : Nat) (l1 l2 : List Dat) (hl : l1.length = l2.length) (hf : l1.length < 4611686018427387904) : ∀ (k i m : Nat), i + k = l1.length → k < m → keepL call n m l1 l2 (i : Int) = some (.ret (B (keepB (l1.drop i) (l2.drop i))) [none, none])
  | k, i, 0, _, h => by omega
  | 0, i, m + 1, hi, _ => by
    rw [keep_S, show decide ((i : Int) < l1.length) = false from decide_eq_false (by omega)]
    rw [List.drop_eq_nil_of_le (by omega), List.drop_eq_nil_of_le (by omega)]
    rfl
  | k + 1, i, m + 1, hi, hm => by
    have h1 : i < l1.length := by omega
    have h2 : i < l2.length := by omega
    rw [keep_S, show decide ((i : Int) < l1.length) = true from decide_eq_true (by omega), idx_at h1, idx_at h2, IntWalk.i64_in _ (by omega)]
    simp only [cond_true, Option.bind_some]
    rw [List.drop_eq_getElem_cons h1, List.drop_eq_getElem_cons h2]
    have ih := keep_loop call n l1 l2 hl hf k (i + 1) m (by omega) (by omega)
    rw [show ((i + 1 : Nat) : Int) = (i : Int) + 1 by omega] at ih
    rw [ih]
    show _ = some (Out.ret (B (((l1[i].at 0).toI == (l2[i].at 0).toI) && keepB (l1.drop (i + 1)) (l2.drop (i + 1)))) [none, none])
    unfold bne
    cases ((l1[i].at 0).toI == (l2[i].at 0).toI) <;> rfl
def keepE : List AV → Bx → Option (Bool × Out)
  | [.row none 3 l1, .row none 3 l2], [none, none] => some (Nat.blt l1.length 4611686018427387904, .ret (B (Nat.beq l1.length l2.length && keepB l1 l2)) [none, none])
  | _, _ => none
theorem keep_sound {ext : CallF} (hmix : PR.follows .mixedOrders = true) (hext : SoundCall PR ext) : SoundCall PR (addF 12 keepE ext) := by
  refine sound_add (takes := TK) hmix hext _ (fn := (PR.funcs[12]?).getD default) (by kernel_rfl) (by kernel_rfl) keepE fun xs bs out h => ?_
  unfold keepE at h
  split at h
  · rename_i l1 l2
    injection h with h
    injection h with hf h
    subst h
    have hf' : l1.length < 4611686018427387904 := Nat.le_of_ble_eq_true hf
    refine ⟨l1.length + 1, ?_⟩
    rw [keep_0]
    cases hb : Nat.beq l1.length l2.length
    · have : ¬ l1.length = l2.length := fun e => by rw [e, Nat.beq_refl] at hb; cases hb
      have e : ((l1.length : Int) != (l2.length : Int)) = true := by simp; omega
      rw [e]; rfl
    · have hl : l1.length = l2.length := Nat.eq_of_beq_eq_true hb
      have e : ((l1.length : Int) != (l2.length : Int)) = false := by simp; omega
      rw [e]
      exact keep_loop ext (l1.length + 1) l1 l2 hl hf' l1.length 0 (l1.length + 1) (by omega) (by omega)
  · cases h
end Go.Proofs.YtckdgcpomkefpaaDoor.En
end
section
set_option linter.unusedVariables false
set_option linter.unusedSimpArgs false
namespace Go.Proofs.YtckdgcpomkefpaaDoor.En
open Go
def g0 (w : World) : Gh := ⟨fun β _ => β < w.heap.size, fun _ => none, fun _ => none⟩
theorem Mem.of_none {P : Program} {w : World} {b : Bx} (hb : ∀ x ∈ b, x = none) : Mem P (g0 w) w b := by
  have hn : ∀ d cs, b[d]? = some (some cs) → False := fun d cs h => by have := hb _ (List.mem_of_getElem? h); cases this
  exact ⟨fun β j h => h, fun d cs h => (hn d cs h).elim, fun d d' β cs cs' h => (hn d cs h).elim, fun n v E h => (by cases h), fun n m v v' E E' β h => (by cases h), fun n v E β d cs h => (by cases h)⟩
theorem TT_none {w : World} {b : Bx} (hb : ∀ x ∈ b, x = none) {β j : Nat} (h : TTof (g0 w) b β j) : False := by
  rcases h with ⟨i, cs, h, _⟩ | ⟨⟨n, y, E, h, _⟩, _⟩
  · have := hb _ (List.mem_of_getElem? h); cases this
  · cases h
theorem calls_v {P : Program} {call : CallF} (h : SoundCall P call) {f : FuncId} {xs : List AV} {bs bs' : Bx} {x : Value} (hc : call f xs bs = some (true, .ret (.v x) bs')) (hb : ∀ x ∈ bs, x = none) (hl : bs.length = xs.length) {W : World} (hW : GW W) {vs : Array Value} (hv : vs.size = xs.length)
    (hr : ∀ (i : Nat) x, xs[i]? = some x → ∃ v, vs[i]? = some v ∧ RepS P (g0 W) W x v) : Calls P f vs W fun e w' => e = .returned x ∧ Go.RowKit.Below W.heap.size W w' := by
  obtain ⟨_, h2⟩ := h f xs bs _ hc
  refine (h2 (g0 W) W vs (Mem.of_none hb) ⟨fun β hβ _ => Nat.lt_of_lt_of_le hβ hW.size, hW⟩ hl hv hr).mono fun e w' he => ?_
  obtain ⟨y, g', rfl, post⟩ := he
  obtain ⟨rfl, _⟩ := (show y = x ∧ _ from post.rep)
  exact ⟨rfl, (post.fr.mono fun β j _ t => TT_none hb t).below⟩
theorem RepRow.of_cells {P : Program} {w : World} {E : TypeId} {ks : List CK} {l : List Dat} {β off cap : Nat} {vals : Nat → Nat → Value} (hk : kinds P E = some ks) (hlen : l.length ≤ cap)
    (hc : ∀ i j, i < l.length → j < ks.length → w.cell? ⟨β, off + i * ks.length + j, none⟩ = some (vals i j) ∧ (vals i j).oneCell' = true)
    (hs : ∀ i j d k, l[i]? = some d → ks[j]? = some k → scal k (d.at j) (vals i j))
    (hr : ∀ i j d E', l[i]? = some d → ks[j]? = some (.row E') → RepRow P (g0 w).G w E' (d.at j).toL (vals i j)) : RepRow P (g0 w).G w E l (.slice (some ⟨β, off, none⟩) l.length cap) :=
  .mk E l β off cap ks vals hk hlen (fun i j hi hj => ⟨World.block_lt_of_cell? w ⟨β, off + i * ks.length + j, none⟩ (hc i j hi hj).1, (hc i j hi hj).1, (hc i j hi hj).2⟩) hs hr
end Go.Proofs.YtckdgcpomkefpaaDoor.En
end
end
