/- Steps and forgetting. -/
import Derived.Test.YtckdgcpomkefpaaGreatDoorEn13
set_option linter.unusedVariables false
set_option linter.unusedSimpArgs false
namespace Go.Proofs.YtckdgcpomkefpaaGreatDoor.En
open Go
section
variable {P : Program} {s : St} {np : Nat} {dr : Bool} {takes : FuncId → Option Nat} {call : CallF} {D : List Nat}

structure Avoids (ops : List Oper) (D : List Nat) (o : Oper) : Prop where
  opd : ∀ y ∈ o.op.operands.toList, ∀ t, y = .tmp t → t ∉ D
  grd : ∀ j w, o.guard = some (j, w) → ∀ t, tmpOf ops j = some t → t ∉ D
  dst : ∀ d, o.dst = some d → d ∉ D
theorem argsFor_congr {s' : St} {take : Option Nat} (hb : s'.b = s.b) : ∀ (Ts : List TypeId) (xs : List AV) (i : Nat), argsFor P take s' Ts xs i = argsFor P take s Ts xs i
  | [], [], i => rfl
  | T :: Ts, x :: xs, i => by simp only [argsFor, argsFor_congr hb Ts xs (i + 1), St.boxAt, hb]
  | [], _ :: _, i => rfl
  | _ :: _, [], i => rfl
theorem backS_forget : ∀ (ls : List (Option Nat)) (i : Nat) (bs : Bx) (s : St), backS i ls bs (forget D s) = (backS i ls bs s).map (forget D)
  | [], i, bs, s => by simp [backS]
  | none :: ls, i, _ :: bs, s => by simp only [backS]; exact backS_forget ls (i + 1) bs s
  | none :: ls, i, [], s => rfl
  | some d :: ls, i, [], s => rfl
  | some d :: ls, i, none :: bs, s => rfl
  | some d :: ls, i, some cs :: bs, s => by
    simp only [backS]
    show (s.boxAt d).bind _ = _
    cases s.boxAt d with
    | none => rfl
    | some old =>
      simp only [Option.bind_some]
      cases Nat.beq cs.length old.length
      · rfl
      · simp only [cond_true]
        exact backS_forget ls (i + 1) bs (s.setBox d (giveL i d 0 cs))
theorem assign_forget {T : TypeId} {d : Nat} (h : d ∉ D) (x : AV) : (forget D s).assign P T d x = forget D (s.assign P T d x) := by
  have hp : ∀ (s : St) (x : AV), (forget D s).put (some d) x = forget D (s.put (some d) x) := fun s x => forget_put (fun e he => by cases he; exact h) x
  unfold St.assign
  split
  · rename_i n E l
    cases n == d
    · simp only [cond_false, St.kill, forget_tok, hp]
    · simp only [cond_true, hp]
  · cases elemT P T
    · exact hp _ _
    · simp only [St.kill, forget_tok, hp]
  · exact hp _ _
theorem storeAV_forget {T : TypeId} {x y : AV} : storeAV P (forget D s) T x y = (storeAV P s T x y).map (forget D) := by
  unfold storeAV
  split
  · rename_i d off
    show (s.boxAt d).bind _ = _
    cases s.boxAt d with
    | none => rfl
    | some cs =>
      simp only [Option.bind_some]
      cases kinds P T with
      | none => rfl
      | some ks =>
        simp only [Option.bind_some]
        cases szT P T with
        | none => rfl
        | some n =>
          simp only [Option.bind_some]
          generalize (n == ks.length && y.cells.all AV.one && Nat.beq y.cells.length n && Nat.ble (off + n) cs.length && Nat.ble cs.length 1024) = c
          cases c
          · rfl
          simp only [cond_true]
          split
          · rename_i m E l
            cases m == sub d off
            · simp only [cond_false, St.kill, forget_tok]
              show Option.map _ (((s.tok _).tok _).boxAt d) = _
              cases ((s.tok (killF (sub d off))).tok (renF m (sub d off))).boxAt d <;> rfl
            · rfl
          · simp only [forget_tok]
            show Option.map _ ((s.tok _).boxAt d) = _
            cases (s.tok (killsF d off (off + n))).boxAt d <;> rfl
  · rfl
theorem appendAV_forget {Ts : Array TypeId} {xs : List AV} {d : Nat} (h : d ∉ D) : appendAV P Ts xs (forget D s) d = (appendAV P Ts xs s d).map (forget D) := by
  have hp : ∀ (s : St) (x : AV), (forget D s).put (some d) x = forget D (s.put (some d) x) := fun s x => forget_put (fun e he => by cases he; exact h) x
  unfold appendAV
  split
  · rename_i n E l y
    cases appOk P Ts E
    · rfl
    simp only [cond_true]
    split
    · rename_i t E' m
      cases E == E' && Nat.ble (l.length + m.length) fitsN
      · rfl
      · simp only [cond_true, St.kill, forget_tok, hp]; rfl
    · cases Nat.ble l.length fitsN
      · rfl
      · simp only [cond_true, St.kill, forget_tok, hp]; rfl
    · rename_i x
      split
      · cases Nat.ble (l.length + x.size) fitsN
        · rfl
        · simp only [cond_true, St.kill, forget_tok, hp]; rfl
      · rfl
    · rfl
  · rfl
theorem ev_map {s' : St} {xs : List Operand} (h : ∀ y ∈ xs, s'.ev y = s.ev y) : xs.map s'.ev = xs.map s.ev := List.map_congr_left h
theorem evX_forget {β : Type} (thr : Value → Option β) {o : Oper} (ha : ∀ y ∈ o.op.operands.toList, ∀ t, y = .tmp t → t ∉ D) (hd : ∀ d, o.dst = some d → d ∉ D) (k : St → Option β) :
    evX P np takes call thr o (forget D s) k = evX P np takes call thr o s (fun s => k (forget D s)) := by
  have he : ∀ y ∈ o.op.operands.toList, (forget D s).ev y = s.ev y := fun y hy => forget_ev (ha y hy)
  have hp : ∀ (s : St) (x : AV), (forget D s).put o.dst x = forget D (s.put o.dst x) := fun s x => forget_put hd x
  obtain ⟨dst, op, ty, pos, after, guard⟩ := o
  unfold evX
  simp only [appendK_eq]
  dsimp only at he hd hp ⊢
  split
  case h_1 x d => rw [he x (by simp [Op.operands]), assign_forget (hd d rfl)]
  case h_2 T d => simp only [forget_len, forget_newBox (hd d rfl)]
  case h_3 T x d => rw [he x (by simp [Op.operands])]; simp only [forget_len, forget_newBox (hd d rfl)]
  case h_4 T n ps d =>
    have h1 : ∀ p ∈ ps.toList, (forget D s).ev p.2 = s.ev p.2 := fun p hp => he p.2 (by simp [Op.operands]; exact ⟨p.1, by simpa using hp⟩)
    obtain ⟨h2, h3⟩ := parts_congr (s := s) (s' := forget D s) h1
    rw [h2, h3]
    simp only [forget_len, St.kill, forget_tok, hp]
  case h_5 src dst' x d =>
    rw [he x (by simp [Op.operands])]
    simp only [hp]
  case h_6 T a x =>
    rw [he a (by simp [Op.operands]), he x (by simp [Op.operands]), storeAV_forget]
    cases storeAV P s T (s.ev a) (s.ev x) <;> rfl
  case h_7 x => rw [he x (by simp [Op.operands])]
  case h_8 xs Ts d =>
    rw [ev_map (s := s) (s' := forget D s) (fun y hy => he y (by simp [Op.operands, Call.operands]; simpa using hy)), appendAV_forget (hd d rfl), forget_len]
    cases appendAV P Ts (xs.toList.map s.ev) s d <;> rfl
  case h_9 f xs Ts =>
    rw [ev_map (s := s) (s' := forget D s) (fun y hy => he y (by simp [Op.operands, Call.operands]; exact .inr (by simpa using hy))), argsFor_congr (s := s) (s' := forget D s) rfl]
    congr 1
    congr 1
    funext p
    congr 1
    congr 1
    funext q
    obtain ⟨qb, r⟩ := q
    cases qb
    · rfl
    simp only [cond_true]
    cases r with
    | thr v => rfl
    | ret v bs =>
      simp only [forget_tok, backS_forget]
      cases backS 0 p.ls bs (s.tok (lostF p (dstN v dst))) with
      | none => rfl
      | some s2 => simp only [Option.map_some, Option.bind_some, hp]
  case h_10 => rfl
def forgetR (D : List Nat) : St ⊕ Value → St ⊕ Value | .inl s => .inl (forget D s) | .inr v => .inr v
theorem stE_forget {o : Oper} (ha : ∀ y ∈ o.op.operands.toList, ∀ t, y = .tmp t → t ∉ D) (hd : ∀ d, o.dst = some d → d ∉ D) : stE P np dr takes call o (forget D s) = (stE P np dr takes call o s).map (forgetR D) := by
  unfold stE
  simp only [evOp_def]
  cases reads P o.op
  · simp only [cond_false]
    cases dr && bsOp o
    case true =>
      simp only [cond_true]
      rw [rhsB_congr (s := s) (s' := forget D s) forget_len (fun y hy => forget_ev (ha y hy))]
      cases rhsB P o s with
      | none => rfl
      | some x => simp only [Option.bind_some, forget_put hd]; rfl
    simp only [cond_false]
    rw [evX_forget _ ha hd, evX_st]
    cases evX (β := St ⊕ Value) P np takes call (fun v => some (.inr v)) o s (fun s => some (.inl s)) with
    | none => rfl
    | some r => cases r <;> rfl
  · simp only [cond_true]
    rw [rhs_congr (s := s) (s' := forget D s) rfl (fun y hy => forget_ev (ha y hy))]
    cases rhs P o s with
    | none => rfl
    | some x => simp only [Option.bind_some, forget_put hd]; rfl
theorem yieldB_forget {ops : List Oper} {j : Nat} {x : Option Bool} (h : yieldB (forget D s) ops j = some x) : yieldB s ops j = some x ∧ ∀ t, tmpOf ops j = some t → t ∉ D := by
  unfold yieldB at h ⊢
  unfold tmpOf
  cases hd : (ops[j]?).bind (·.dst) with
  | none => rw [hd] at h; cases h
  | some d =>
    rw [hd] at h
    dsimp only at h ⊢
    by_cases hD : d ∈ D
    · rw [forget_get_in hD] at h; cases h
    · rw [forget_get hD] at h
      exact ⟨h, fun t ht => by cases ht; exact hD⟩
theorem wantB_forget {ops : List Oper} {gd : Option (Nat × Bool)} {x : Bool} (h : wantB (forget D s) ops gd = some x) : wantB s ops gd = some x := by
  unfold wantB at h ⊢
  cases gd with
  | none => exact h
  | some jw =>
    obtain ⟨j, want⟩ := jw
    dsimp only at h ⊢
    cases hy : yieldB (forget D s) ops j with
    | none => rw [hy] at h; cases h
    | some y => rw [hy] at h; rw [(yieldB_forget hy).1]; exact h
end
end Go.Proofs.YtckdgcpomkefpaaGreatDoor.En
