/- Part 3 of a proof: what it needs of the program's functions as plain Lean functions, with the proof that the machine's calls come to them, and of plain laws; put together out of smaller texts. No conditions besides those that each statement names. -/
import Derived.Orders
import Derived.Tactics
import Derived.Test.YtckdgcpomkefpaaGreatDoorLa2
section
set_option linter.unusedVariables false
set_option linter.unusedSimpArgs false
namespace Go.Proofs.YtckdgcpomkefpaaGreatDoor.En
open Go
section
variable {P : Program} {s : St} {np : Nat} {dr : Bool} {takes : FuncId → Option Nat} {call : CallF} {D : List Nat} {ops : List Oper}
theorem put_same {tj : Nat} {x : AV} (h : s.get tj = x) (hx : x ≠ .dead) : s.put (some tj) x = s := by
  have h1 := St.get_lt h hx
  obtain ⟨t, b⟩ := s
  show (⟨t.set tj x, b⟩ : St) = ⟨t, b⟩
  congr 1
  apply List.ext_getElem?
  intro i
  rw [List.getElem?_set]
  split
  · rename_i e
    subst e
    rw [if_pos (List.getElem?_eq_some_iff.1 h1).1, h1]
  · rfl
theorem yieldB_get {j tj : Nat} {b : Bool} (h : yieldB s ops j = some (some b)) (ht : tmpOf ops j = some tj) : s.get tj = B b := by
  unfold yieldB at h
  unfold tmpOf at ht
  rw [ht] at h
  dsimp only at h
  split at h
  · rename_i c hc; cases h; exact hc
  · cases h
  · cases h
theorem Agree.forget {E : List Nat} {s s' : St} (h : Agree E s s') : forget E (forget D s) = forget (E ++ D) s' := by
  unfold En.forget
  rw [h.b]
  congr 1
  apply List.ext_getElem?
  intro i
  rw [forgetL_get, forgetL_get, forgetL_get]
  simp only [Nat.zero_add]
  by_cases hi : i ∈ E
  · have e1 : E.contains i = true := by simpa using hi
    have e2 : (E ++ D).contains i = true := by simp [hi]
    rw [e1, e2]
    have hl := h.len
    by_cases hlt : i < s.t.length
    · rw [List.getElem?_eq_getElem hlt, List.getElem?_eq_getElem (show i < s'.t.length by omega)]; rfl
    · rw [List.getElem?_eq_none (Nat.le_of_not_lt hlt), List.getElem?_eq_none (show s'.t.length ≤ i by omega)]; rfl
  · rw [h.t i hi]
    have e1 : E.contains i = false := ncontains hi
    have e2 : (E ++ D).contains i = D.contains i := by
      rw [Bool.eq_iff_iff]; simp [hi]
    rw [e1, e2]
    cases s.t[i]? <;> rfl
theorem forget_ev_some {y : Operand} {x : AV} (h : (forget D s).ev y = x) (hx : x ≠ .dead) : s.ev y = x := by
  cases y with
  | tmp t =>
    by_cases ht : t ∈ D
    · exact absurd ((show (forget D s).get t = x from h).symm.trans (forget_get_in ht)) hx
    · exact (forget_get ht).symm.trans h
  | _ => exact h
theorem asB_eq {x : AV} {b : Bool} (h : asB x = some b) : x = B b := by
  unfold asB at h
  split at h
  · cases h; rfl
  · cases h
theorem pick_step {p : Oper} {c x y : Operand} {b t : Bool} (hp : p.op = .pick c x y) (hc : s.ev c = B b) (ht : s.ev (bif b then x else y) = B t) : stE P np dr takes call p s = some (.inl (s.put p.dst (B t))) := by
  obtain ⟨dst, op, ty, pos, after, guard⟩ := p
  dsimp only at hp
  subst hp
  unfold stE
  rw [evOp_def]
  unfold rhs
  dsimp only [reads, cond_true]
  rw [hc]
  dsimp only [B]
  cases b <;> dsimp only [cond_true, cond_false] at ht ⊢ <;> split <;> (try rw [ht]) <;> (try rfl)
  · rename_i h1 h2
    rw [h2] at ht; cases ht; rfl
  · rename_i h1 h2
    rw [h1] at ht; cases ht; rfl
theorem evOps_run : ∀ (m : Nat) {β : Type} (takes : FuncId → Option Nat) (call : CallF) (thr : Value → Option β) (l : List Oper) (s : St) (D : List Nat) (k : St → Option β) (out : β), okGroups ops l = true → (∀ o ∈ l, Avoids ops D o) →
    evOps P np dr takes call thr ops m l (forget D s) k = some out →
    ∃ r, runO P np dr takes call ops l s = some r ∧ (∀ s', r = .inl s' → ∃ D', k (forget D' s') = some out) ∧ (∀ v, r = .inr v → thr v = some out)
  | 0, β, takes, call, thr, l, s, D, k, out, hg, ha, h => by simp [evOps] at h
  | m + 1, β, takes, call, thr, [], s, D, k, out, hg, ha, h => ⟨.inl s, rfl, fun s' e => by cases e; exact ⟨D, h⟩, fun v e => by cases e⟩
  | m + 1, β, takes, call, thr, o :: l, s, D, k, out, hg, ha, h => by
    have hao := ha o (by simp)
    have hal : ∀ o ∈ l, Avoids ops D o := fun o ho => ha o (by simp [ho])
    have hgl : okGroups ops l = true := okGroups_suf (l := [o]) hg
    -- a plain step
    have plain : wantB s ops o.guard = some true → evOp P np dr takes call thr o (forget D s) (fun s => evOps P np dr takes call thr ops m l s k) = some out →
        ∃ r, runO P np dr takes call ops (o :: l) s = some r ∧ (∀ s', r = .inl s' → ∃ D', k (forget D' s') = some out) ∧ (∀ v, r = .inr v → thr v = some out) := fun hw he => by
      rw [evOp_st, stE_forget hao.opd hao.dst] at he
      unfold runO stO
      rw [hw]
      simp only [Option.bind_some, cond_true]
      cases hs : stE P np dr takes call o s with
      | none => rw [hs] at he; cases he
      | some r1 =>
        rw [hs] at he
        cases r1 with
        | inl s1 => exact evOps_run m takes call thr l s1 D k out hgl hal he
        | inr v => exact ⟨.inr v, rfl, fun s' e => (by cases e), fun v' e => (by cases e; exact he)⟩
    have skip : wantB s ops o.guard = some false → evOps P np dr takes call thr ops m l ((forget D s).put o.dst (.tup [])) k = some out →
        ∃ r, runO P np dr takes call ops (o :: l) s = some r ∧ (∀ s', r = .inl s' → ∃ D', k (forget D' s') = some out) ∧ (∀ v, r = .inr v → thr v = some out) := fun hw he => by
      rw [forget_put hao.dst] at he
      unfold runO stO
      rw [hw]
      simp only [Option.bind_some, cond_false]
      exact evOps_run m takes call thr l _ D k out hgl hal he
    unfold evOps at h
    cases hgd : o.guard with
    | none =>
      rw [hgd] at h
      exact plain (by rw [hgd]; rfl) h
    | some jw =>
      obtain ⟨j, want⟩ := jw
      rw [hgd] at h
      dsimp only at h
      cases hy : yieldB (forget D s) ops j with
      | none => rw [hy] at h; cases h
      | some yb =>
        rw [hy] at h
        obtain ⟨hy', hyD⟩ := yieldB_forget hy
        cases yb with
        | none =>
          refine skip ?_ h
          rw [hgd]
          unfold wantB
          dsimp only
          rw [hy']
        | some b =>
          dsimp only at h
          cases ht : tmpOf ops j with
          | none => rw [ht] at h; cases h
          | some tj =>
            rw [ht] at h
            dsimp only at h
            have hwant : wantB s ops o.guard = some (b == want) := by
              rw [hgd]; unfold wantB; dsimp only; rw [hy']
            have hgetF := yieldB_get hy ht
            have hget := yieldB_get hy' ht
            cases hj : join P takes tj (o :: l) with
            | none =>
              rw [hj] at h
              dsimp only at h
              cases hb : (b == want) <;> rw [hb] at h <;> simp only [cond_true, cond_false] at h
              · have e : (!want) = b := by cases b <;> cases want <;> first | rfl | cases hb
                rw [e, put_same hgetF (by intro e; cases e)] at h
                exact skip (by rw [hwant, hb]) h
              · have e : want = b := by cases b <;> cases want <;> first | rfl | cases hb
                rw [e, put_same hgetF (by intro e; cases e)] at h
                exact plain (by rw [hwant, hb]) h
            | some q =>
              obtain ⟨g, p, x, y, r'⟩ := q
              rw [hj] at h
              dsimp only at h
              obtain ⟨pw, hpw, h⟩ := Option.bind_eq_some_iff.1 h
              obtain ⟨t, hgt, h⟩ := Option.bind_eq_some_iff.1 h
              -- what is joined
              unfold join at hj
              obtain ⟨⟨g', p', r2⟩, hgr, hj⟩ := Option.bind_eq_some_iff.1 hj
              dsimp only at hj
              split at hj
              · rename_i c x' y' hop
                obtain ⟨hc, hj⟩ := bif_some hj
                cases hj
                simp only [Bool.and_eq_true, List.all_eq_true] at hc
                obtain ⟨⟨hq, hpd⟩, htj⟩ := hc
                obtain ⟨el, x2, y2, hop2⟩ := groupOf_spec hgr
                rw [hop] at hop2
                cases hop2
                have hgok : grpOk ops g p r' = true := by
                  unfold okGroups at hg
                  simp only [Bool.and_eq_true] at hg
                  have := hg.2
                  rw [hgd] at this
                  dsimp only at this
                  rw [ht] at this
                  dsimp only at this
                  rw [hgr] at this
                  exact this
                unfold grpOk at hgok
                simp only [Bool.and_eq_true, List.all_eq_true] at hgok
                obtain ⟨hr1, hp1⟩ := hgok
                have hgg : okGroups ops g = true := okGroups_pre (l2 := p :: r') (by rw [← el]; exact hg)
                have hgr' : okGroups ops r' = true := okGroups_suf (l := g ++ [p]) (by rw [List.append_assoc]; rw [show [p] ++ r' = p :: r' from rfl, ← el]; exact hg)
                have hag : ∀ o ∈ g, Avoids ops D o := fun o' ho' => ha o' (by rw [el]; simp [ho'])
                have hap : Avoids ops D p := ha p (by rw [el]; simp)
                have har : ∀ o ∈ r', Avoids ops D o := fun o' ho' => ha o' (by rw [el]; simp [ho'])
                -- the group's own run
                have hrun : ∃ s1, runO P np dr takes call ops g s = some (.inl s1) ∧ Agree (dstsOf g) s s1 ∧ s1.ev (bif b then x else y) = B t := by
                  have key : ∀ (z : Operand), evOps P np dr (fun _ => none) (quietC call) (fun _ => none) ops m g ((forget D s).put (some tj) (B b)) (fun s => asB (s.ev z)) = some t → ∃ s1, runO P np dr takes call ops g s = some (.inl s1) ∧ Agree (dstsOf g) s s1 ∧ s1.ev z = B t := fun z hz => by
                    rw [put_same hgetF (by intro e; cases e)] at hz
                    obtain ⟨r, hr, h1, h2⟩ := evOps_run m (fun _ => none) (quietC call) (fun _ => none) g s D _ t hgg hag hz
                    cases r with
                    | inr v => cases h2 v rfl
                    | inl s1 =>
                      obtain ⟨D', hD'⟩ := h1 s1 rfl
                      obtain ⟨e1, e2⟩ := quiet_run (P := P) (np := np) (takes := takes) (call := call) (ops := ops) (D := dstsOf g) g s s1 (fun o ho => hq o ho) (fun o ho e he => List.mem_filterMap.2 ⟨o, ho, he⟩) hr
                      exact ⟨s1, e1, e2, forget_ev_some (asB_eq hD') (by intro e; cases e)⟩
                  cases b
                  · exact key y hgt
                  · exact key x hgt
                obtain ⟨s1, hrun, hagree, hz⟩ := hrun
                have hF : deadAll g (forget D s) = forget (dstsOf g ++ D) s1 := hagree.forget
                rw [hF] at hpw h
                have hc1 : s1.ev (.tmp tj) = B b := by
                  show s1.get tj = B b
                  have hn : tj ∉ dstsOf g := fun hm => by
                    obtain ⟨o', ho', he'⟩ := List.mem_filterMap.1 hm
                    have := htj o' ho'
                    rw [he'] at this
                    simp at this
                  unfold St.get at hget ⊢
                  rw [List.getD_eq_getElem?_getD] at hget ⊢
                  rw [hagree.t tj hn]; exact hget
                have hpd' : ∀ e, p.dst = some e → e ∉ dstsOf g ++ D := fun e he hm => by
                  rcases List.mem_append.1 hm with hm | hm
                  · rw [he] at hp1
                    simp [hm] at hp1
                  · exact hap.dst e he hm
                rw [forget_put hpd'] at h
                obtain ⟨r, hr, h1, h2⟩ := evOps_run m takes call thr r' (s1.put p.dst (bif pw then B t else .tup [])) (dstsOf g ++ D) k out hgr' (fun o ho => (avoids_of (hr1 o ho)).app (har o ho)) h
                refine ⟨r, ?_, h1, h2⟩
                rw [el, runO_append, hrun]
                show runO P np dr takes call ops (p :: r') s1 = some r
                unfold runO stO
                rw [wantB_forget hpw]
                simp only [Option.bind_some]
                cases pw <;> simp only [cond_true, cond_false] at hr ⊢
                · exact hr
                · rw [pick_step hop hc1 hz]
                  exact hr
              · cases hj
end
end Go.Proofs.YtckdgcpomkefpaaGreatDoor.En
end
section
set_option linter.unusedVariables false
set_option linter.unusedSimpArgs false
namespace Go.Proofs.YtckdgcpomkefpaaGreatDoor.En
open Go
section
variable {P : Program} {s : St} {f : Option Nat → Option Nat}
theorem tok_ofV (x : Value) : (St.ofV x).tok f = St.ofV x := by
  cases x <;> first | rfl | skip
  case agg cs =>
    show AV.agg ((cs.toList.map AV.v).map (AV.tok1 f)) = _
    rw [List.map_map]; rfl
theorem tok_get (n : Nat) : (s.tok f).get n = (s.get n).tok f := by
  unfold St.get St.tok
  rw [List.getD_eq_getElem?_getD, List.getD_eq_getElem?_getD, List.getElem?_map]
  cases s.t[n]? <;> rfl
theorem tok_ev (y : Operand) : (s.tok f).ev y = (s.ev y).tok f := by
  cases y with
  | tmp t => exact tok_get t
  | const x => exact (tok_ofV x).symm
  | func g => rfl
  | global g => rfl
theorem tok_boxAt (d : Nat) : (s.tok f).boxAt d = (s.boxAt d).map (List.map (AV.tok1 f)) := by
  unfold St.boxAt St.tok
  rw [List.getD_eq_getElem?_getD, List.getD_eq_getElem?_getD, List.getElem?_map]
  cases s.b[d]? <;> rfl
theorem flat_tok {c : AV} (h : c.flat = true) : c.tok f = c.tok1 f := by cases c <;> first | rfl | cases h
theorem tok1_flat (c : AV) : (c.tok1 f).flat = c.flat := by cases c <;> rfl
theorem tok1_one (c : AV) : (c.tok1 f).one = c.one := by cases c <;> rfl
theorem bare_tok (hf : f none = none) (c : AV) : c.bare.tok1 f = c.bare := by cases c <;> first | rfl | (show AV.row (f none) _ _ = _; rw [hf]; rfl)
theorem cellsOf_tok (hf : f none = none) (x : AV) : (s.tok f).cellsOf (x.tok f) = (s.cellsOf x).map (List.map (AV.tok1 f)) := by
  cases x <;> first | rfl | skip
  case box d off =>
    show ((s.tok f).boxAt d).map _ = _
    rw [tok_boxAt]
    show Option.map _ (Option.map _ (s.boxAt d)) = Option.map _ (Option.map _ (s.boxAt d))
    cases s.boxAt d with
    | none => rfl
    | some cs =>
      simp only [Option.map_some, ← List.map_drop, List.map_map]
      congr 1
      refine List.map_congr_left fun c _ => ?_
      cases c <;> rfl
  case ro cs =>
    show some (cs.map AV.bare) = some ((cs.map AV.bare).map (AV.tok1 f))
    rw [List.map_map]
    congr 1
    exact List.map_congr_left fun c _ => (bare_tok hf c).symm
theorem partAV_tok (T : TypeId) (cs : List AV) (off : Nat) : partAV P T (cs.map (AV.tok1 f)) off = (partAV P T cs off).map (AV.tok f) := by
  unfold partAV
  cases aggT P T with
  | none => rfl
  | some ag =>
    simp only [Option.bind_some]
    cases ag
    · simp only [cond_false, List.getElem?_map]
      cases cs[off]? with
      | none => rfl
      | some c =>
        simp only [Option.map_some, Option.bind_some, tok1_flat]
        cases hc : c.flat
        · rfl
        · simp only [cond_true, Option.map_some, flat_tok hc]
    · simp only [cond_true]
      cases szT P T with
      | none => rfl
      | some n =>
        simp only [Option.bind_some, List.length_map]
        cases Nat.ble (off + n) cs.length
        · rfl
        · simp only [cond_true, Option.map_some, ← List.map_drop, ← List.map_take]; rfl
theorem bound_tok (o : Option Operand) (d : Nat) : bound (s.tok f) o d = bound s o d := by
  cases o with
  | none => rfl
  | some y =>
    simp only [bound, tok_ev]
    cases s.ev y <;> rfl
theorem cells_tok {x : AV} (h : x.cells.all AV.one = true) : (x.tok f).cells = x.cells.map (AV.tok1 f) := by
  cases x <;> first | rfl | skip
  case tup vs => simp [AV.cells, AV.one] at h
theorem cells_one (x : AV) : (x.tok f).cells.all AV.one = x.cells.all AV.one := by
  cases x <;> first | rfl | skip
  case agg cs =>
    show (cs.map (AV.tok1 f)).all AV.one = cs.all AV.one
    rw [List.all_map]
    congr 1
    funext c
    exact tok1_one c
theorem cells_len (x : AV) : (x.tok f).cells.length = x.cells.length := by
  cases x <;> first | rfl | skip
  case agg cs => simp [AV.cells, AV.tok, AV.tok2]
def tok3 (f : Option Nat → Option Nat) (p : Nat × Nat × AV) : Nat × Nat × AV := (p.1, p.2.1, p.2.2.tok f)
theorem partsAV_tok (T : TypeId) : ∀ (ps : List (Nat × Operand)), partsAV P (s.tok f) T ps = (partsAV P s T ps).map (List.map (tok3 f))
  | [] => rfl
  | (i, x) :: r => by
    simp only [partsAV, partsAV_tok T r, tok_ev]
    cases fieldOf P T i with
    | none => rfl
    | some ou =>
      obtain ⟨off, U⟩ := ou
      simp only [Option.bind_some]
      cases szT P U with
      | none => rfl
      | some n =>
        simp only [Option.bind_some]
        cases partsAV P s T r <;> rfl
theorem fillAV_tok : ∀ (l : List (Nat × Nat × AV)) (cs : List AV), fillAV (cs.map (AV.tok1 f)) (l.map (tok3 f)) = (fillAV cs l).map (List.map (AV.tok1 f))
  | [], cs => rfl
  | (off, n, x) :: r, cs => by
    simp only [List.map_cons, tok3, fillAV, cells_len, cells_one, List.length_map]
    cases hc : Nat.beq x.cells.length n && Nat.ble (off + n) cs.length && x.cells.all AV.one
    · rfl
    · simp only [Bool.and_eq_true] at hc
      simp only [cond_true]
      rw [cells_tok hc.2, ← List.map_take, ← List.map_drop, ← List.map_append, ← List.map_append]
      exact fillAV_tok r _
theorem plainL_tok : ∀ (cs : List AV), plainL (cs.map (AV.tok1 f)) = plainL cs
  | [] => rfl
  | c :: cs => by
    cases c <;> first | rfl | skip
    case v x =>
      show (plainL (cs.map (AV.tok1 f))).bind _ = (plainL cs).bind _
      rw [plainL_tok cs]
theorem plainAV_tok {v : Value} {x : AV} (h : plainAV v = some x) : x.tok2 f = x ∧ x.tok f = x := by
  unfold plainAV at h
  split at h
  · rename_i cs
    cases hc : cs.toList.all oneV <;> rw [hc] at h <;> cases h
    have : (cs.toList.map AV.v).map (AV.tok1 f) = cs.toList.map AV.v := by rw [List.map_map]; rfl
    exact ⟨congrArg AV.agg this, congrArg AV.agg this⟩
  · cases hc : oneV v <;> rw [hc] at h <;> cases h
    exact ⟨rfl, rfl⟩
theorem assert_tok {P : Program} {T : TypeId} {ok : Bool} {a : Value} {y : AV} (h : assertAV P T ok a = some y) : y.tok f = y := by
  have fail : ∀ v : Option AV, (∀ x, v = some x → x.tok2 f = x) → (bif ok then v.map fun y => AV.tup [y, B false] else none) = some y → y.tok f = y := fun v hv h => by
    cases ok
    · cases h
    · obtain ⟨x, hx, rfl⟩ := Option.map_eq_some_iff.1 h
      show AV.tup [x.tok2 f, B false] = AV.tup [x, B false]
      rw [hv x hx]
  have zero : ∀ x, zeroAV P T = some x → x.tok2 f = x := fun x hx => by
    obtain ⟨z, _, hz⟩ := Option.bind_eq_some_iff.1 hx
    exact (plainAV_tok hz).1
  unfold assertAV at h
  split at h
  · cases h
  · cases h
  · split at h
    · rename_i t v
      cases ht : Nat.beq t T <;> rw [ht] at h
      · exact fail _ zero h
      · obtain ⟨x, hx, rfl⟩ := Option.map_eq_some_iff.1 h
        cases ok
        · exact (plainAV_tok hx).2
        · show AV.tup [x.tok2 f, B true] = AV.tup [x, B true]
          rw [(plainAV_tok hx).1]
    · exact fail _ zero h
    · cases h
theorem rhs_tok (hf : f none = none) (o : Oper) : rhs P o (s.tok f) = (rhs P o s).map (AV.tok f) := by
  obtain ⟨dst, op, ty, pos, after, guard⟩ := o
  unfold rhs
  dsimp only
  split
  case h_1 x => rw [tok_ev]; rfl
  case h_2 c a b =>
    rw [tok_ev, tok_ev, tok_ev]
    cases s.ev c <;> first | rfl | skip
    rename_i cv
    cases cv <;> first | rfl | skip
    rename_i cb
    have key : ∀ (A B' : AV), (match A.tok f, B'.tok f with
        | .v (.bool x), .v (.bool y) => some (B (bif cb then x else y))
        | x, y => some (bif cb then x else y)) = Option.map (AV.tok f) (match A, B' with
        | .v (.bool x), .v (.bool y) => some (B (bif cb then x else y))
        | x, y => some (bif cb then x else y)) := fun A B' => by
      have hA : (∃ x, A = .v (.bool x)) ∨ ∀ x, A ≠ .v (.bool x) := by
        by_cases h : ∃ x, A = .v (.bool x)
        · exact .inl h
        · exact .inr fun x e => h ⟨x, e⟩
      have hB : (∃ x, B' = .v (.bool x)) ∨ ∀ x, B' ≠ .v (.bool x) := by
        by_cases h : ∃ x, B' = .v (.bool x)
        · exact .inl h
        · exact .inr fun x e => h ⟨x, e⟩
      have inv : ∀ (C : AV) x, C.tok f = .v (.bool x) → C = .v (.bool x) := fun C x e => by cases C <;> first | exact e | cases e
      rcases hA with ⟨x, rfl⟩ | hA
      · rcases hB with ⟨y, rfl⟩ | hB
        · rfl
        · split
          · rename_i h1 h2; exact absurd (inv _ _ h2) (hB _)
          · split
            · rename_i h1 h2; exact absurd rfl (hB _)
            · cases cb <;> rfl
      · split
        · rename_i h1 h2; exact absurd (inv _ _ h1) (hA _)
        · split
          · rename_i h1 h2; exact absurd rfl (hA _)
          · cases cb <;> rfl
    exact key _ _
  case h_3 T ps =>
    rw [partsAV_tok]
    cases hz : zeroCells P T with
    | none => rfl
    | some z =>
      simp only [Option.bind_some]
      cases fieldsOk P T
      · rfl
      simp only [cond_true]
      cases partsAV P s T ps.toList with
      | none => rfl
      | some l =>
        simp only [Option.bind_some, Option.map_some]
        have hz' : z.map (AV.tok1 f) = z := by
          unfold zeroCells at hz
          obtain ⟨zv, _, hz⟩ := Option.bind_eq_some_iff.1 hz
          obtain ⟨_, hz⟩ := bif_some hz
          cases hz
          rw [List.map_map]; rfl
        have := fillAV_tok (f := f) l z
        rw [hz'] at this
        rw [this]
        cases fillAV z l <;> rfl
  case h_4 T a =>
    rw [tok_ev, cellsOf_tok hf]
    cases s.cellsOf (s.ev a) with
    | none => rfl
    | some cs => exact partAV_tok T cs 0
  case h_5 x => rw [tok_ev]; cases s.ev x <;> rfl
  case h_6 op T x y _ =>
    rw [tok_ev, tok_ev]
    cases s.ev x <;> cases s.ev y <;> first | rfl | skip
    · rename_i a b
      show (bif boolOk P T y a then (pureOp op a b).map AV.v else none) = Option.map _ (bif boolOk P T y a then (pureOp op a b).map AV.v else none)
      cases boolOk P T y a
      · rfl
      · cases pureOp op a b <;> rfl
    · rename_i b
      cases b <;> first | rfl | skip
      show errCmp P op T y = Option.map _ (errCmp P op T y)
      unfold errCmp
      cases (ifaceT P T && constO y)
      · rfl
      · cases op <;> rfl
  case h_7 op _ x =>
    rw [tok_ev]
    cases s.ev x <;> first | rfl | skip
    rename_i a
    show (unOpV op a).map AV.v = Option.map _ ((unOpV op a).map AV.v)
    cases unOpV op a <;> rfl
  case h_8 src dst x =>
    rw [tok_ev]
    cases s.ev x <;> first | rfl | skip
    · rename_i a
      show (convV P src dst a).map AV.v = Option.map _ ((convV P src dst a).map AV.v)
      cases convV P src dst a <;> rfl
    · rename_i t E l
      show (match P.underlying src, P.underlying dst with
        | some (.slice E'), some .string => _
        | _, _ => _) = Option.map (AV.tok f) (match P.underlying src, P.underlying dst with
        | some (.slice E'), some .string => _
        | _, _ => _)
      split
      · split
        · cases E == _ <;> rfl
        · rfl
      · rfl
  case h_9 T x =>
    rw [tok_ev]
    split
    · rfl
    · rfl
    · cases s.ev x <;> first | rfl | skip
      rename_i cs
      show (plainL (cs.map (AV.tok1 f))).bind _ = Option.map _ ((plainL cs).bind _)
      rw [plainL_tok]
      cases plainL cs <;> rfl
  case h_10 T x lo hi =>
    simp only [tok_ev, bound_tok]
    cases s.ev x <;> first | rfl | skip
    · rename_i v
      cases v <;> first | rfl | skip
      rename_i str
      show (bound s hi str.size).bind _ = Option.map _ ((bound s hi str.size).bind _)
      cases bound s hi str.size with
      | none => rfl
      | some h =>
        simp only [Option.bind_some]
        cases bound s lo 0 with
        | none => rfl
        | some l =>
          simp only [Option.bind_some]
          cases strT P T && decide (0 ≤ h) && decide (h ≤ str.size) && decide (0 ≤ l) && decide (l ≤ h) <;> rfl
    · rename_i t E r
      show (bound s hi r.length).bind _ = Option.map _ ((bound s hi r.length).bind _)
      cases bound s hi r.length with
      | none => rfl
      | some h =>
        simp only [Option.bind_some]
        cases bound s lo 0 with
        | none => rfl
        | some l =>
          simp only [Option.bind_some]
          cases kinds P E with
          | none => rfl
          | some ks =>
            simp only [Option.bind_some]
            cases elemT P T == some E && szT P E == some ks.length && decide (0 ≤ h) && decide (h ≤ r.length) && decide (0 ≤ l) && decide (l ≤ h)
            · rfl
            · show some (AV.row none E _) = some (AV.row (f none) E _)
              rw [hf]
  case h_11 T x g =>
    rw [tok_ev]
    cases fieldOf P T g with
    | none => rfl
    | some ou =>
      obtain ⟨off, U⟩ := ou
      simp only [Option.bind_some]
      cases szT P U with
      | none => rfl
      | some n =>
        simp only [Option.bind_some]
        cases n == 0
        · cases s.ev x <;> rfl
        · rfl
  case h_12 T x g =>
    rw [tok_ev]
    cases fieldOf P T g with
    | none => rfl
    | some ou =>
      obtain ⟨off, U⟩ := ou
      simp only [Option.bind_some]
      cases s.ev x <;> first | rfl | skip
      rename_i cs
      exact partAV_tok U cs off
  case h_13 T x i =>
    rw [tok_ev, tok_ev]
    cases s.ev x <;> cases s.ev i <;> first | rfl | skip
    rename_i t E l v
    cases v <;> first | rfl | skip
    rename_i k n
    show (bif elemT P T == some E then (kinds P E).bind _ else none) = Option.map _ (bif elemT P T == some E then (kinds P E).bind _ else none)
    cases elemT P T == some E
    · rfl
    simp only [cond_true]
    cases kinds P E with
    | none => rfl
    | some ks =>
      simp only [Option.bind_some]
      cases szT P E == some ks.length
      · rfl
      · simp only [cond_true]
        cases idx l n <;> rfl
  case h_14 T x i =>
    rw [tok_ev, tok_ev]
    cases s.ev x <;> first | rfl | skip
    rename_i v
    cases v <;> first | rfl | skip
    rename_i str
    cases s.ev i <;> first | rfl | skip
    rename_i u
    cases u <;> first | rfl | skip
    rename_i k n
    show (bif strT P T && decide (0 ≤ n) && decide (n < str.size) then _ else _) = Option.map _ (bif strT P T && decide (0 ≤ n) && decide (n < str.size) then _ else _)
    cases strT P T && decide (0 ≤ n) && decide (n < str.size) <;> rfl
  case h_15 x i =>
    rw [tok_ev]
    cases s.ev x <;> first | rfl | skip
    rename_i vs
    show ((vs.map (AV.tok2 f))[i]?).bind _ = Option.map _ ((vs[i]?).bind _)
    rw [List.getElem?_map]
    cases vs[i]? with
    | none => rfl
    | some c => cases c <;> rfl
  case h_16 g xs cs =>
    have hh : ∀ x : AV, (x.tok f).held = x.held := fun x => by cases x <;> rfl
    have hi : ∀ x : AV, x.held = true → x.tok f = x := fun x hx => by cases x <;> first | rfl | cases hx
    have hm : ∀ ys : List Operand, (ys.map (s.tok f).ev).all AV.held = (ys.map s.ev).all AV.held ∧ ((ys.map s.ev).all AV.held = true → ys.map (s.tok f).ev = ys.map s.ev) := fun ys => by
      refine ⟨?_, fun h => List.map_congr_left fun y hy => ?_⟩
      · rw [List.all_map, List.all_map]
        congr 1
        funext y
        show ((s.tok f).ev y).held = (s.ev y).held
        rw [tok_ev, hh]
      · rw [tok_ev]
        exact hi _ (List.all_eq_true.1 h _ (List.mem_map_of_mem hy))
    rw [(hm xs.toList).1, (hm cs.toList).1]
    cases hx : (xs.toList.map s.ev).all AV.held
    · rfl
    cases hc : (cs.toList.map s.ev).all AV.held
    · rfl
    rw [(hm xs.toList).2 hx, (hm cs.toList).2 hc]
    rfl
  case h_17 xs Ts =>
    split
    · rename_i x T hx hT
      rw [tok_ev]
      cases s.ev x <;> first | rfl | skip
      · rename_i v
        cases v <;> first | rfl | skip
        · rename_i str
          show (bif strT P T then _ else _) = Option.map _ (bif strT P T then _ else _)
          cases strT P T <;> rfl
        · rename_i A n c
          cases A <;> cases n <;> cases c <;> first | rfl | skip
          show (bif (elemT P T).isSome then _ else _) = Option.map _ (bif (elemT P T).isSome then _ else _)
          cases (elemT P T).isSome <;> rfl
      · show (bif (elemT P T).isSome then _ else _) = Option.map _ (bif (elemT P T).isSome then _ else _)
        cases (elemT P T).isSome <;> rfl
    · rfl
  case h_18 x U T ok =>
    rw [tok_ev]
    cases s.ev x <;> first | rfl | skip
    rename_i a
    show assertAV P T ok a = Option.map (AV.tok f) (assertAV P T ok a)
    cases h : assertAV P T ok a with
    | none => rfl
    | some y => exact congrArg some (assert_tok h).symm
  case h_19 => rfl
theorem packC_tok (k : CK) (c : AV) : packC k (c.tok1 f) = packC k c := by cases c <;> first | rfl | (cases k <;> rfl)
theorem packL_tok : ∀ (ks : List CK) (cs : List AV), packL ks (cs.map (AV.tok1 f)) = packL ks cs
  | [], [] => rfl
  | [], _ :: _ => rfl
  | _ :: _, [] => rfl
  | k :: ks, c :: cs => by simp only [List.map_cons, packL, packC_tok, packL_tok ks cs]
theorem pack_tok (ks : List CK) (x : AV) : pack ks (x.tok f) = pack ks x := by
  cases x <;> first | rfl | skip
  case agg cs =>
    show (packL ks (cs.map (AV.tok1 f))).bind _ = (packL ks cs).bind _
    rw [packL_tok]
  all_goals (cases ks <;> first | rfl | (rename_i k ks; cases ks <;> cases k <;> rfl))
theorem partsF_tok (ks : List CK) : ∀ (l : List (Nat × AV)) (n : Nat), partsF ks (l.map fun p => (p.1, p.2.tok f)) n = partsF ks l n
  | [], n => rfl
  | (i, x) :: r, n => by
    simp only [List.map_cons, partsF, pack_tok, partsF_tok ks r (n + 1)]
theorem rhsB_tok (hf : f none = none) (o : Oper) : rhsB P o (s.tok f) = (rhsB P o s).map (AV.tok f) := by
  obtain ⟨dst, op, ty, pos, after, guard⟩ := o
  unfold rhsB
  dsimp only
  split
  · rename_i T n ps d
    have h1 : (ps.toList.map fun (i, x) => (i, (s.tok f).ev x)) = (ps.toList.map fun (i, x) => (i, s.ev x)).map fun p => (p.1, p.2.tok f) := by
      rw [List.map_map]
      refine List.map_congr_left fun p _ => ?_
      obtain ⟨i, x⟩ := p
      show (i, (s.tok f).ev x) = (i, (s.ev x).tok f)
      rw [tok_ev]
    have h2 : (ps.toList.all fun p => ((s.tok f).ev p.2).cells.all AV.one) = ps.toList.all fun p => (s.ev p.2).cells.all AV.one := by
      congr 1
      funext p
      rw [tok_ev, cells_one]
    have h3 : (s.tok f).t.length = s.t.length := by simp [St.tok]
    rw [h1, h2, h3]
    cases elemT P T with
    | none => rfl
    | some E =>
      simp only [Option.bind_some]
      cases kinds P E with
      | none => rfl
      | some ks =>
        simp only [Option.bind_some, partsF_tok]
        cases partsF ks (ps.toList.map fun (i, x) => (i, s.ev x)) 0 with
        | none => rfl
        | some l =>
          simp only [Option.bind_some]
          cases Nat.beq l.length n && szT P E == some ks.length && (zeroCells P E).isSome && Nat.ble (n * ks.length) 16777216 && Nat.blt 0 ks.length && Nat.blt d s.t.length && ps.toList.all (fun p => (s.ev p.2).cells.all AV.one)
          · rfl
          · show some (AV.row none E l) = some (AV.row (f none) E l)
            rw [hf]
  · rename_i src dst' x d
    rw [tok_ev]
    cases s.ev x <;> first | rfl | skip
    rename_i v
    cases v <;> first | rfl | skip
    rename_i str
    show (match P.underlying src, P.underlying dst' with
        | some .string, some (.slice E) => _
        | _, _ => _) = Option.map (AV.tok f) (match P.underlying src, P.underlying dst' with
        | some .string, some (.slice E) => _
        | _, _ => _)
    split
    · split
      · rename_i E _ _ _ _
        cases Nat.ble str.size fitsN && szT P _ == some 1
        · rfl
        · show some (AV.row none _ _) = some (AV.row (f none) _ _)
          rw [hf]
      · rfl
    · rfl
  · rfl
end
end Go.Proofs.YtckdgcpomkefpaaGreatDoor.En
end
section
set_option linter.unusedVariables false
set_option linter.unusedSimpArgs false
namespace Go.Proofs.YtckdgcpomkefpaaGreatDoor.En
open Go
section
variable {P : Program} {s s1 s2 : St} {np : Nat} {takes : FuncId → Option Nat} {call : CallF} {ops : List Oper}
structure Same (ops : List Oper) (o : Oper) (s s2 : St) : Prop where
  b : s2.b = s.b
  len : s2.t.length = s.t.length
  t : ∀ t ∈ looks ops o, s2.get t = s.get t
theorem Same.ev {o : Oper} (h : Same ops o s s2) (y : Operand) (hy : y ∈ o.op.operands.toList) : s2.ev y = s.ev y := by
  cases y with
  | tmp t => exact h.t t (by unfold looks; exact List.mem_append.2 (.inl (List.mem_filterMap.2 ⟨_, hy, rfl⟩)))
  | _ => rfl
theorem Same.wantB {o : Oper} (h : Same ops o s s2) : wantB s2 ops o.guard = wantB s ops o.guard := by
  unfold En.wantB
  cases hg : o.guard with
  | none => rfl
  | some jw =>
    obtain ⟨j, want⟩ := jw
    dsimp only
    have : yieldB s2 ops j = yieldB s ops j := by
      unfold yieldB
      cases hd : (ops[j]?).bind (·.dst) with
      | none => rfl
      | some d =>
        dsimp only
        rw [h.t d (by unfold looks; exact List.mem_append.2 (.inr (by rw [hg]; simp [tmpOf, hd])))]
    rw [this]
theorem Same.symm {o : Oper} (h : Same ops o s s2) : Same ops o s2 s := ⟨h.b.symm, h.len.symm, fun t ht => (h.t t ht).symm⟩
theorem get_put {d : Option Nat} {t : Nat} (h : d ≠ some t) (x : AV) : (s.put d x).get t = s.get t := by
  cases d with
  | none => rfl
  | some d =>
    unfold St.get St.put
    rw [List.getD_eq_getElem?_getD, List.getD_eq_getElem?_getD, List.getElem?_set, if_neg (by rintro rfl; exact h rfl)]
theorem Same.put {o : Oper} {d : Option Nat} (h : ∀ e, d = some e → e ∉ looks ops o) (x : AV) : Same ops o s (s.put d x) := by
  refine ⟨?_, ?_, fun t ht => get_put (fun e => h t e ht) x⟩
  · cases d <;> rfl
  · cases d <;> simp [St.put]
theorem wantB_tok {f : Option Nat → Option Nat} (gd : Option (Nat × Bool)) : wantB (s.tok f) ops gd = wantB s ops gd := by
  unfold wantB
  cases gd with
  | none => rfl
  | some jw =>
    obtain ⟨j, want⟩ := jw
    dsimp only
    have : yieldB (s.tok f) ops j = yieldB s ops j := by
      unfold yieldB
      cases hd : (ops[j]?).bind (·.dst) with
      | none => rfl
      | some d =>
        dsimp only
        rw [tok_get]
        cases s.get d <;> first | rfl | skip
        rename_i vs
        cases vs <;> rfl
    rw [this]
theorem put_comm {d e : Option Nat} (h : ∀ c, d = some c → e ≠ some c) (x y : AV) : (s.put d x).put e y = (s.put e y).put d x := by
  cases d with
  | none => rfl
  | some d =>
    cases e with
    | none => rfl
    | some e =>
      show (⟨(s.t.set d x).set e y, s.b⟩ : St) = ⟨(s.t.set e y).set d x, s.b⟩
      rw [List.set_comm _ _ (by rintro rfl; exact h _ rfl rfl)]
theorem tok_put {f : Option Nat → Option Nat} (d : Option Nat) (x : AV) : (s.put d x).tok f = (s.tok f).put d (x.tok f) := by
  cases d with
  | none => rfl
  | some d =>
    show (⟨(s.t.set d x).map (AV.tok f), _⟩ : St) = ⟨(s.t.map (AV.tok f)).set d (x.tok f), _⟩
    rw [List.map_set]; rfl
def wval (P : Program) (ops : List Oper) (o : Oper) (s : St) : Option AV := (wantB s ops o.guard).bind fun wn => bif wn then (bif reads P o.op then rhs P o s else rhsB P o s) else some (.tup [])
theorem stO_w {o : Oper} (h : wOp P o = true) : stO P np true takes call ops o s = (wval P ops o s).map fun x => .inl (s.put o.dst x) := by
  unfold stO wval
  cases wantB s ops o.guard with
  | none => rfl
  | some wn =>
    simp only [Option.bind_some]
    cases wn
    · rfl
    · simp only [cond_true]
      unfold stE
      simp only [evOp_def]
      unfold wOp at h
      cases hr : reads P o.op <;> rw [hr] at h
      · have : bsOp o = true := h
        rw [this]
        simp only [cond_false, Bool.and_self, cond_true]
        cases rhsB P o s <;> rfl
      · simp only [cond_true]
        cases rhs P o s <;> rfl
theorem wval_same {o : Oper} (h : Same ops o s s2) : wval P ops o s2 = wval P ops o s := by
  unfold wval
  rw [h.wantB, rhs_congr h.b h.ev, rhsB_congr h.len h.ev]
theorem wval_tok {o : Oper} {f : Option Nat → Option Nat} (hf : f none = none) : wval P ops o (s.tok f) = (wval P ops o s).map (AV.tok f) := by
  unfold wval
  rw [wantB_tok, rhs_tok hf, rhsB_tok hf]
  cases wantB s ops o.guard with
  | none => rfl
  | some wn =>
    cases wn
    · rfl
    · simp only [Option.bind_some, cond_true]
      cases reads P o.op <;> rfl
def XForm (P : Program) (np : Nat) (takes : FuncId → Option Nat) (call : CallF) (ops : List Oper) (o : Oper) (s : St) (r : St ⊕ Value) : Prop :=
  (∃ (f : Option Nat → Option Nat) (y : AV), f none = none ∧ r = .inl ((s.tok f).put o.dst y) ∧ ∀ s2, Same ops o s s2 → stO P np true takes call ops o s2 = some (.inl ((s2.tok f).put o.dst y))) ∨
  (∃ v, r = .inr v ∧ ∀ s2, Same ops o s s2 → stO P np true takes call ops o s2 = some (.inr v))
theorem argsFor_noPtr {take : Option Nat} {s : St} : ∀ (Ts : List TypeId) (xs : List AV) (i : Nat) (p : Pass), (Ts.all fun T => (ptrOf P T).isNone) = true → argsFor P take s Ts xs i = some p → ∀ l ∈ p.ls, l = none
  | [], [], i, p, _, h => by cases h; exact fun l hl => by cases hl
  | T :: Ts, x :: xs, i, p, hn, h => by
    simp only [argsFor] at h
    have h' := Option.bind_eq_some_iff.1 h
    clear h
    obtain ⟨q, hq, h⟩ := h'
    simp only [List.all_cons, Bool.and_eq_true] at hn
    have ih := argsFor_noPtr Ts xs (i + 1) q hn.2 hq
    have mk : p.ls = none :: q.ls → ∀ l ∈ p.ls, l = none := fun e l hl => by
      rw [e] at hl
      rcases List.mem_cons.1 hl with rfl | hl
      · rfl
      · exact ih l hl
    split at h
    · split at h
      · rename_i E hu
        have := hn.1
        rw [hu] at this
        cases this
      · cases h
    · rename_i t E l
      cases t with
      | some n =>
        dsimp only at h
        cases hc : (take == some i && Nat.blt n 1024) <;> rw [hc] at h <;> cases h <;> exact mk rfl
      | none => cases h; exact mk rfl
    · split at h
      · cases h; exact mk rfl
      · cases h
    · cases h; exact mk rfl
    · cases h; exact mk rfl
    · cases h
  | [], _ :: _, i, p, _, h => by simp [argsFor] at h
  | _ :: _, [], i, p, _, h => by simp [argsFor] at h
theorem backS_any : ∀ (ls : List (Option Nat)) (i : Nat) (bs : Bx) (s s' : St), (∀ l ∈ ls, l = none) → backS i ls bs s = some s' → ∀ s2, backS i ls bs s2 = some s2
  | [], i, bs, s, s', _, h => fun s2 => rfl
  | none :: ls, i, _ :: bs, s, s', hl, h => fun s2 => backS_any ls (i + 1) bs s s' (fun l hm => hl l (by simp [hm])) h s2
  | none :: ls, i, [], s, s', _, h => by cases h
  | some d :: ls, i, bs, s, s', hl, h => by have := hl (some d) (by simp); cases this
theorem kill2 (n d : Nat) : (s.kill n).kill d = s.tok (fun t => killF d (killF n t)) := tok_tok _ _
theorem assign_form (P : Program) (T : TypeId) (d : Nat) (x : AV) : ∃ (f : Option Nat → Option Nat) (y : AV), f none = none ∧ ∀ s : St, s.assign P T d x = (s.tok f).put (some d) y := by
  have plain : ∀ y : AV, ∃ (f : Option Nat → Option Nat) (z : AV), f none = none ∧ ∀ s : St, s.put (some d) y = (s.tok f).put (some d) z := fun y => ⟨id, y, rfl, fun s => by rw [tok_id (f := id) (fun t => rfl)]⟩
  unfold St.assign
  split
  · rename_i n E l
    cases n == d
    · exact ⟨fun t => renF n d (killF d t), .row (some d) E l, rfl, fun s => by
        simp only [cond_false, St.kill, tok_tok]⟩
    · exact plain _
  · split
    · rename_i E _
      exact ⟨killF d, .row (some d) E [], rfl, fun s => rfl⟩
    · exact plain _
  · exact plain _
theorem appendAV_form {Ts : Array TypeId} {xs : List AV} {d : Nat} {s' : St} (h : appendAV P Ts xs s d = some s') : ∃ (f : Option Nat → Option Nat) (y : AV), f none = none ∧ s' = (s.tok f).put (some d) y ∧ ∀ s2 : St, appendAV P Ts xs s2 d = some ((s2.tok f).put (some d) y) := by
  unfold appendAV at h ⊢
  split at h
  · rename_i n E l y
    cases hok : appOk P Ts E <;> rw [hok] at h
    · cases h
    simp only [cond_true] at h ⊢
    split at h
    · rename_i t E' m
      obtain ⟨hc, h⟩ := bif_some h
      cases h
      refine ⟨fun t => killF d (killF n t), _, rfl, by rw [kill2], fun s2 => ?_⟩
      rw [hc, kill2]; rfl
    · obtain ⟨hc, h⟩ := bif_some h
      cases h
      refine ⟨fun t => killF d (killF n t), _, rfl, by rw [kill2], fun s2 => ?_⟩
      rw [hc, kill2]; rfl
    · rename_i str
      split at h
      · obtain ⟨hc, h⟩ := bif_some h
        cases h
        refine ⟨fun t => killF d (killF n t), _, rfl, by rw [kill2], fun s2 => ?_⟩
        rw [hc, kill2]; rfl
      · cases h
    · cases h
  · split at h
    · rename_i E hE
      obtain ⟨hok, h⟩ := bif_some h
      obtain ⟨hc, h⟩ := bif_some h
      cases h
      refine ⟨killF d, _, rfl, rfl, fun s2 => ?_⟩
      rw [hok, hc]; rfl
    · cases h
  · cases h
theorem xForm {o : Oper} (hx : xOp P o = true) {r : St ⊕ Value} (h : stO P np true takes call ops o s = some r) : XForm P np takes call ops o s r := by
  unfold stO at h
  have h' := Option.bind_eq_some_iff.1 h
  clear h
  obtain ⟨wn, hw, h⟩ := h'
  cases wn
  · simp only [cond_false] at h
    cases h
    refine .inl ⟨id, .tup [], rfl, by rw [tok_id (f := id) (fun t => rfl)], fun s2 h2 => ?_⟩
    unfold stO
    rw [h2.wantB, hw, tok_id (f := id) (fun t => rfl)]
    rfl
  · simp only [cond_true] at h
    have go : ∀ s2, Same ops o s s2 → stO P np true takes call ops o s2 = stE P np true takes call o s2 := fun s2 h2 => by
      unfold stO
      rw [h2.wantB, hw]
      rfl
    obtain ⟨dst, op, ty, pos, after, guard⟩ := o
    unfold xOp at hx
    dsimp only at hx
    split at hx
    · rename_i xs Ts
      have nr : ∀ s2, stE P np true takes call ⟨dst, .call { callee := .builtin .append, args := xs, argTypes := Ts }, ty, pos, after, guard⟩ s2 =
          evX P np takes call (fun v => some (.inr v)) ⟨dst, .call { callee := .builtin .append, args := xs, argTypes := Ts }, ty, pos, after, guard⟩ s2 (fun s => some (.inl s)) := fun s2 => rfl
      rw [nr] at h
      unfold evX at h
      simp only [appendK_eq] at h
      cases dst with
      | none => cases h
      | some d =>
        dsimp only at h
        obtain ⟨hd, h⟩ := bif_some h
        obtain ⟨s', hs', h⟩ := Option.bind_eq_some_iff.1 h
        cases h
        obtain ⟨f, y, hf, rfl, hall⟩ := appendAV_form hs'
        refine .inl ⟨f, y, hf, rfl, fun s2 h2 => ?_⟩
        rw [go s2 h2, nr]
        unfold evX
        simp only [appendK_eq]
        (try dsimp only)
        rw [ev_map (s := s) (s' := s2) (fun z hz => h2.ev z (by simp [Op.operands, Call.operands]; simpa using hz)), h2.len, hd, hall s2]
        rfl
    · rename_i f xs Ts
      have nr : ∀ s2, stE P np true takes call ⟨dst, .call { callee := .value (.func f), args := xs, argTypes := Ts }, ty, pos, after, guard⟩ s2 =
          evX P np takes call (fun v => some (.inr v)) ⟨dst, .call { callee := .value (.func f), args := xs, argTypes := Ts }, ty, pos, after, guard⟩ s2 (fun s => some (.inl s)) := fun s2 => rfl
      rw [nr] at h
      unfold evX at h
      dsimp only at h
      unfold callK at h
      obtain ⟨hsz, h⟩ := bif_some h
      obtain ⟨p, hp, h⟩ := Option.bind_eq_some_iff.1 h
      obtain ⟨hd, h⟩ := bif_some h
      obtain ⟨⟨qb, q⟩, hq, h⟩ := Option.bind_eq_some_iff.1 h
      obtain ⟨hqb, h⟩ := bif_some h
      dsimp only at hqb h
      subst hqb
      have hls := argsFor_noPtr _ _ _ _ hx hp
      have run : ∀ s2, Same ops ⟨dst, .call { callee := .value (.func f), args := xs, argTypes := Ts }, ty, pos, after, guard⟩ s s2 → stE P np true takes call ⟨dst, .call { callee := .value (.func f), args := xs, argTypes := Ts }, ty, pos, after, guard⟩ s2 =
          outK (fun v => some (.inr v)) (fun v bs => (backS 0 p.ls bs (s2.tok (lostF p (dstN v dst)))).bind fun s => (newTok dst v).bind fun x => some (.inl (s.put dst x))) q := fun s2 h2 => by
        rw [nr]
        unfold evX
        dsimp only
        rw [ev_map (s := s) (s' := s2) (fun z hz => h2.ev z (by simp [Op.operands, Call.operands]; exact .inr (by simpa using hz)))]
        unfold callK
        rw [argsFor_congr (s := s) (s' := s2) h2.b, hsz, hp]
        simp only [cond_true, Option.bind_some, hd, hq]
      rw [outK_flat] at h
      replace run := fun s2 h2 => (run s2 h2).trans (outK_flat _ _ q)
      have hfc := q.flat_cases
      generalize q.flat = q at h run hfc
      cases q with
      | alt b x y => rcases hfc with ⟨_, _, e⟩ | ⟨_, e⟩ <;> cases e
      | thr v =>
        cases h
        refine .inr ⟨v, rfl, fun s2 h2 => ?_⟩
        rw [go s2 h2, run s2 h2]
        rfl
      | ret v bs =>
        dsimp only at h
        obtain ⟨s3, hb, h⟩ := Option.bind_eq_some_iff.1 h
        obtain ⟨y, hy, h⟩ := Option.bind_eq_some_iff.1 h
        cases h
        have e3 := backS_none _ _ _ _ _ hls hb
        subst e3
        refine .inl ⟨lostF p (dstN v dst), y, rfl, rfl, fun s2 h2 => ?_⟩
        rw [go s2 h2, run s2 h2]
        dsimp only [outK]
        rw [backS_any _ _ _ _ _ hls hb, hy]
        rfl
    · rename_i x
      have nr : ∀ s2, stE P np true takes call ⟨dst, .assign x, ty, pos, after, guard⟩ s2 = evX P np takes call (fun v => some (.inr v)) ⟨dst, .assign x, ty, pos, after, guard⟩ s2 (fun s => some (.inl s)) := fun s2 => rfl
      rw [nr] at h
      unfold evX at h
      cases dst with
      | none => cases h
      | some d =>
        dsimp only at h
        cases h
        obtain ⟨f, y, hf, hall⟩ := assign_form P ty d (s.ev x)
        refine .inl ⟨f, y, hf, by rw [hall], fun s2 h2 => ?_⟩
        rw [go s2 h2, nr]
        unfold evX
        dsimp only
        rw [h2.ev x (by simp [Op.operands]), hall]
    · cases hx
theorem diamond {x y : Oper} (hp : pairOk P ops x y = true) (hx : stO P np true takes call ops x s = some (.inl s1)) {r : St ⊕ Value} (hy : stO P np true takes call ops y s1 = some r) :
    (∀ s2, r = .inl s2 → ∃ s3, stO P np true takes call ops y s = some (.inl s3) ∧ stO P np true takes call ops x s3 = some (.inl s2)) ∧ (∀ v, r = .inr v → stO P np true takes call ops y s = some (.inr v)) := by
  unfold pairOk at hp
  simp only [Bool.and_eq_true, Bool.or_eq_true] at hp
  obtain ⟨ha, hk⟩ := hp
  unfold apartB at ha
  simp only [Bool.and_eq_true] at ha
  have a1 : ∀ d, x.dst = some d → d ∉ looks ops y ∧ y.dst ≠ some d := fun d hd => by
    have := ha.1
    rw [hd] at this
    simpa using this
  have a2 : ∀ d, y.dst = some d → d ∉ looks ops x := fun d hd => by
    have := ha.2
    rw [hd] at this
    simpa using this
  rcases hk with (⟨wx, wy⟩ | ⟨wx, xy⟩) | ⟨xx, wy⟩
  · rw [stO_w wx] at hx
    obtain ⟨vx, hvx, e⟩ := Option.map_eq_some_iff.1 hx
    cases e
    rw [stO_w wy, wval_same (Same.put (s := s) (fun d hd => (a1 d hd).1) vx)] at hy
    obtain ⟨vy, hvy, e⟩ := Option.map_eq_some_iff.1 hy
    subst e
    refine ⟨fun s2 e => ?_, fun v e => (by cases e)⟩
    cases e
    refine ⟨s.put y.dst vy, by rw [stO_w wy, hvy]; rfl, ?_⟩
    rw [stO_w wx, wval_same (Same.put (s := s) (fun d hd => a2 d hd) vy), hvx]
    show some (Sum.inl _) = _
    rw [put_comm (fun c hc e => (a1 c e).2 hc)]
  · rw [stO_w wx] at hx
    obtain ⟨vx, hvx, e⟩ := Option.map_eq_some_iff.1 hx
    cases e
    have hS := Same.put (s := s) (o := y) (ops := ops) (fun d hd => (a1 d hd).1) vx
    rcases xForm xy hy with ⟨f, vy, hf, rfl, hall⟩ | ⟨v, rfl, hall⟩
    · refine ⟨fun s2 e => ?_, fun v e => (by cases e)⟩
      cases e
      refine ⟨_, hall s hS.symm, ?_⟩
      rw [stO_w wx, wval_same (Same.put (s := s.tok f) (fun d hd => a2 d hd) vy), wval_tok hf, hvx]
      show some (Sum.inl _) = _
      rw [tok_put, put_comm (fun c hc e => (a1 c e).2 hc)]
    · exact ⟨fun s2 e => (by cases e), fun v' e => (by cases e; exact hall s hS.symm)⟩
  · rcases xForm xx hx with ⟨f, vx, hf, e, hall⟩ | ⟨v, e, hall⟩
    · cases e
      rw [stO_w wy, wval_same (Same.put (s := s.tok f) (fun d hd => (a1 d hd).1) vx), wval_tok hf] at hy
      obtain ⟨vy', hvy', e⟩ := Option.map_eq_some_iff.1 hy
      obtain ⟨vy, hvy, rfl⟩ := Option.map_eq_some_iff.1 hvy'
      subst e
      refine ⟨fun s2 e => ?_, fun v e => (by cases e)⟩
      cases e
      refine ⟨s.put y.dst vy, by rw [stO_w wy, hvy]; rfl, ?_⟩
      rw [hall _ (Same.put (fun d hd => a2 d hd) vy), tok_put, put_comm (fun c hc e => (a1 c e).2 hc)]
    · cases e
def boxOf : AV → Option Nat | .box d _ => some d | _ => none
theorem boxOf_tok {f : Option Nat → Option Nat} (x : AV) : boxOf (x.tok f) = boxOf x := by cases x <;> rfl
theorem backS_b : ∀ (ls : List (Option Nat)) (i : Nat) (bs : Bx) (t : List AV) (b : Bx) (s' : St), backS i ls bs ⟨t, b⟩ = some s' → ∃ b', s' = ⟨t, b'⟩ ∧ (∀ t2, backS i ls bs ⟨t2, b⟩ = some ⟨t2, b'⟩) ∧ ∀ d, some d ∉ ls → b'[d]? = b[d]?
  | [], i, bs, t, b, s', h => by cases h; exact ⟨b, rfl, fun t2 => rfl, fun d _ => rfl⟩
  | none :: ls, i, _ :: bs, t, b, s', h => by
    obtain ⟨b', e, h1, h2⟩ := backS_b ls (i + 1) bs t b s' h
    exact ⟨b', e, h1, fun d hd => h2 d fun hm => hd (by simp [hm])⟩
  | none :: ls, i, [], t, b, s', h => by cases h
  | some d :: ls, i, none :: bs, t, b, s', h => by cases h
  | some d :: ls, i, [], t, b, s', h => by cases h
  | some d :: ls, i, some cs :: bs, t, b, s', h => by
    have h' : ((b.getD d none).bind fun old => bif Nat.beq cs.length old.length then backS (i + 1) ls bs ⟨t, b.set d (some (giveL i d 0 cs))⟩ else none) = some s' := h
    obtain ⟨old, ho, h2⟩ := Option.bind_eq_some_iff.1 h'
    obtain ⟨hc, h3⟩ := bif_some h2
    obtain ⟨b', e, h4, h5⟩ := backS_b ls (i + 1) bs t _ s' h3
    refine ⟨b', e, fun t2 => ?_, fun e' he => ?_⟩
    · show ((b.getD d none).bind fun old => bif Nat.beq cs.length old.length then backS (i + 1) ls bs ⟨t2, b.set d (some (giveL i d 0 cs))⟩ else none) = _
      rw [ho, Option.bind_some, hc]
      exact h4 t2
    · rw [h5 e' fun hm => he (by simp [hm]), List.getElem?_set, if_neg (by rintro rfl; exact he (by simp))]
theorem argsFor_ls {take : Option Nat} {s : St} : ∀ (Ts : List TypeId) (xs : List AV) (i : Nat) (p : Pass), argsFor P take s Ts xs i = some p → ∀ d, some d ∈ p.ls → ∃ x ∈ xs, boxOf x = some d
  | [], [], i, p, h => by cases h; exact fun d hd => by cases hd
  | T :: Ts, x :: xs, i, p, h => by
    simp only [argsFor] at h
    have h' := Option.bind_eq_some_iff.1 h
    clear h
    obtain ⟨q, hq, h⟩ := h'
    have ih := argsFor_ls Ts xs (i + 1) q hq
    have mk : p.ls = none :: q.ls → ∀ d, some d ∈ p.ls → ∃ y ∈ x :: xs, boxOf y = some d := fun e d hd => by
      rw [e] at hd
      rcases List.mem_cons.1 hd with h0 | hd
      · cases h0
      · obtain ⟨y, hy, hb⟩ := ih d hd
        exact ⟨y, by simp [hy], hb⟩
    split at h
    · rename_i d' off
      split at h
      · obtain ⟨cs, hcs, h⟩ := Option.bind_eq_some_iff.1 h
        obtain ⟨_, h⟩ := bif_some h
        cases h
        intro d hd
        rcases List.mem_cons.1 hd with h0 | hd
        · cases h0; exact ⟨.box d' off, by simp, rfl⟩
        · obtain ⟨y, hy, hb⟩ := ih d hd
          exact ⟨y, by simp [hy], hb⟩
      · cases h
    · rename_i t E l
      cases t with
      | some n =>
        dsimp only at h
        cases hc : (take == some i && Nat.blt n 1024) <;> rw [hc] at h <;> cases h <;> exact mk rfl
      | none => cases h; exact mk rfl
    · split at h
      · cases h; exact mk rfl
      · cases h
    · cases h; exact mk rfl
    · cases h; exact mk rfl
    · cases h
  | [], _ :: _, i, p, h => by simp [argsFor] at h
  | _ :: _, [], i, p, h => by simp [argsFor] at h
theorem ptrCall_eq {o : Oper} {xs : List Operand} (h : ptrCall P o = some xs) : (∃ (f : FuncId) (ys : Array Operand) (Ts : Array TypeId), o.op = .call { callee := .value (.func f), args := ys, argTypes := Ts } ∧ xs = ys.toList) ∨ ∃ (T : TypeId) (a x : Operand), o.op = .store T a x ∧ xs = [a] := by
  obtain ⟨dst, op, ty, pos, after, guard⟩ := o
  unfold ptrCall at h
  dsimp only at h
  split at h
  · rename_i f ys Ts
    cases hn : noPtr P f Ts <;> rw [hn] at h <;> cases h
    exact .inl ⟨f, ys, Ts, rfl, rfl⟩
  · cases h
    exact .inr ⟨_, _, _, rfl, rfl⟩
  · cases h
theorem ptr_looks {o : Oper} {xs : List Operand} (h : ptrCall P o = some xs) {z : Operand} (hz : z ∈ xs) {t : Nat} (e : z = .tmp t) : t ∈ looks ops o := by
  unfold looks
  refine List.mem_append.2 (.inl (List.mem_filterMap.2 ⟨z, ?_, by rw [e]⟩))
  rcases ptrCall_eq h with ⟨f, ys, Ts, h1, rfl⟩ | ⟨T, a, x, h1, rfl⟩
  · rw [h1]
    simp [Op.operands, Call.operands]
    exact .inr (by simpa using hz)
  · rw [h1]
    simp at hz
    subst hz
    simp [Op.operands]
theorem ptr_load {o : Oper} {xs : List Operand} (h : ptrCall P o = some xs) : loadOf o = none := by
  unfold loadOf
  rcases ptrCall_eq h with ⟨f, ys, Ts, h1, rfl⟩ | ⟨T, a, x, h1, rfl⟩ <;> rw [h1]
theorem tokl_id (t : List AV) : t.map (AV.tok id) = t := congrArg St.t (tok_id (s := ⟨t, []⟩) (f := id) (fun t => rfl))
theorem storeAV_form {T : TypeId} {d off : Nat} {x : AV} {s' : St} (h : storeAV P s T (.box d off) x = some s') : ∃ (f : Option Nat → Option Nat) (b' : Bx), f none = none ∧ s' = ⟨s.t.map (AV.tok f), b'⟩ ∧ (∀ t2, storeAV P ⟨t2, s.b⟩ T (.box d off) x = some ⟨t2.map (AV.tok f), b'⟩) ∧ ∀ e, e ≠ d → b'[e]? = (s.tok f).b[e]? := by
  unfold storeAV at h ⊢
  dsimp only at h ⊢
  obtain ⟨cs, h1, h2⟩ := Option.bind_eq_some_iff.1 h
  obtain ⟨ks, h3, h4⟩ := Option.bind_eq_some_iff.1 h2
  obtain ⟨n, h5, h6⟩ := Option.bind_eq_some_iff.1 h4
  obtain ⟨h7, h8⟩ := bif_some h6
  clear h h2 h4 h6
  have hbx : ∀ t2, (⟨t2, s.b⟩ : St).boxAt d = some cs := fun t2 => h1
  simp only [hbx, h3, h5, h7, Option.bind_some, cond_true]
  have setb : ∀ (b : Bx) (c : List AV) e, e ≠ d → (b.set d (some c))[e]? = b[e]? := fun b c e he => by
    rw [List.getElem?_set, if_neg (fun h => he h.symm)]
  split at h8
  · rename_i m E l
    cases hm : (m == sub d off)
    · rw [hm] at h8
      simp only [cond_false] at h8 ⊢
      obtain ⟨c2, e1, e2⟩ := Option.map_eq_some_iff.1 h8
      have et : ∀ t2, (((⟨t2, s.b⟩ : St).kill (sub d off)).tok (renF m (sub d off))) = ⟨t2.map (AV.tok fun z => renF m (sub d off) (killF (sub d off) z)), (s.tok fun z => renF m (sub d off) (killF (sub d off) z)).b⟩ := fun t2 => tok_tok _ _
      refine ⟨fun z => renF m (sub d off) (killF (sub d off) z), ((s.tok fun z => renF m (sub d off) (killF (sub d off) z)).b).set d (some (c2.set off (.row (some (sub d off)) E l))), rfl, ?_, fun t2 => ?_, fun e he => setb _ _ e he⟩
      · rw [← e2]
        have := et s.t
        have es : (⟨s.t, s.b⟩ : St) = s := rfl
        rw [es] at this
        rw [this]; rfl
      · have hb2 : (((⟨t2, s.b⟩ : St).kill (sub d off)).tok (renF m (sub d off))).boxAt d = some c2 := by
          rw [et t2]
          have := et s.t
          have es : (⟨s.t, s.b⟩ : St) = s := rfl
          rw [es] at this
          rw [this] at e1
          exact e1
        rw [hb2, Option.map_some, et t2]; rfl
    · rw [hm] at h8
      simp only [cond_true] at h8 ⊢
      cases h8
      refine ⟨id, s.b.set d (some (cs.set off (.row (some m) E l))), rfl, by rw [tokl_id]; rfl, fun t2 => by rw [tokl_id]; rfl, fun e he => ?_⟩
      rw [setb _ _ e he, tok_id (f := id) (fun t => rfl)]
  · rename_i hne
    obtain ⟨c2, e1, e2⟩ := Option.map_eq_some_iff.1 h8
    refine ⟨moveF d off (off + n) (uniqT [] x.cells), ((s.tok (moveF d off (off + n) (uniqT [] x.cells))).b).set d (some (c2.take off ++ (intoL d off (uniqT [] x.cells) (cellsAt none d off ks x.cells) ++ c2.drop (off + n)))), rfl, e2.symm, fun t2 => ?_, fun e he => setb _ _ e he⟩
    have hb2 : ((⟨t2, s.b⟩ : St).tok (moveF d off (off + n) (uniqT [] x.cells))).boxAt d = some c2 := e1
    rw [hb2]; rfl
def PForm (P : Program) (np : Nat) (takes : FuncId → Option Nat) (call : CallF) (ops : List Oper) (o : Oper) (xs : List Operand) (s : St) (r : St ⊕ Value) : Prop :=
  (∃ (f : Option Nat → Option Nat) (y : AV) (b' : Bx), f none = none ∧ r = .inl ((⟨s.t.map (AV.tok f), b'⟩ : St).put o.dst y) ∧ (∀ s2, Same ops o s s2 → stO P np true takes call ops o s2 = some (.inl ((⟨s2.t.map (AV.tok f), b'⟩ : St).put o.dst y))) ∧
    ∀ d, (∀ x ∈ xs, boxOf (s.ev x) ≠ some d) → b'[d]? = (s.tok f).b[d]?) ∨
  (∃ v, r = .inr v ∧ ∀ s2, Same ops o s s2 → stO P np true takes call ops o s2 = some (.inr v))
theorem pForm {o : Oper} {xs : List Operand} (hx : ptrCall P o = some xs) {r : St ⊕ Value} (h : stO P np true takes call ops o s = some r) : PForm P np takes call ops o xs s r := by
  rcases ptrCall_eq hx with ⟨fid, ys, Ts, hop, rfl⟩ | ⟨T, a, x, hop, rfl⟩
  case inr =>
    obtain ⟨dst, op, ty, pos, after, guard⟩ := o
    dsimp only at hop
    subst hop
    unfold stO at h
    obtain ⟨wn, hw, h⟩ := Option.bind_eq_some_iff.1 h
    have idb : ∀ s2 : St, Same ops ⟨dst, .store T a x, ty, pos, after, guard⟩ s s2 → (⟨s2.t.map (AV.tok id), (s.tok id).b⟩ : St) = s2 := fun s2 h2 => by
      have : (s.tok id).b = (s2.tok id).b := by unfold St.tok; rw [h2.b]
      rw [this]
      exact tok_id (s := s2) (f := id) (fun t => rfl)
    cases wn
    · simp only [cond_false] at h
      cases h
      refine .inl ⟨id, .tup [], (s.tok id).b, rfl, ?_, fun s2 h2 => ?_, fun d _ => rfl⟩
      · show Sum.inl (s.put dst (.tup [])) = Sum.inl ((s.tok id).put dst (.tup []))
        rw [tok_id (f := id) (fun t => rfl)]
      · unfold stO
        rw [h2.wantB, hw, idb s2 h2]
        rfl
    · simp only [cond_true] at h
      have go : ∀ s2, Same ops ⟨dst, .store T a x, ty, pos, after, guard⟩ s s2 → stO P np true takes call ops ⟨dst, .store T a x, ty, pos, after, guard⟩ s2 = stE P np true takes call ⟨dst, .store T a x, ty, pos, after, guard⟩ s2 := fun s2 h2 => by
        unfold stO
        rw [h2.wantB, hw]
        rfl
      have nr : ∀ s2, stE P np true takes call ⟨dst, .store T a x, ty, pos, after, guard⟩ s2 = evX P np takes call (fun v => some (.inr v)) ⟨dst, .store T a x, ty, pos, after, guard⟩ s2 (fun s => some (.inl s)) := fun s2 => rfl
      rw [nr] at h
      unfold evX at h
      dsimp only at h
      cases dst with
      | some d => cases h
      | none =>
        dsimp only at h
        obtain ⟨s', hs, h⟩ := Option.bind_eq_some_iff.1 h
        cases h
        cases ha : s.ev a <;> first | (rw [ha] at hs; unfold storeAV at hs; cases hs; done) | skip
        rename_i d off
        rw [ha] at hs
        obtain ⟨f, b', hf, rfl, hall, hoth⟩ := storeAV_form hs
        refine .inl ⟨f, .dead, b', hf, rfl, fun s2 h2 => ?_, fun e he => hoth e fun hde => he a (by simp) (by rw [ha, hde]; rfl)⟩
        rw [go s2 h2, nr]
        unfold evX
        dsimp only
        have ea : s2.ev a = .box d off := by rw [h2.ev a (by simp [Op.operands]), ha]
        have ex : s2.ev x = s.ev x := h2.ev x (by simp [Op.operands])
        have es : s2 = ⟨s2.t, s.b⟩ := by rw [← h2.b]
        rw [ea, ex]
        have h3 := hall s2.t
        rw [← es] at h3
        rw [h3]
        rfl
  case inl =>
  obtain ⟨dst, op, ty, pos, after, guard⟩ := o
  dsimp only at hop
  subst hop
  unfold stO at h
  have h' := Option.bind_eq_some_iff.1 h
  clear h
  obtain ⟨wn, hw, h⟩ := h'
  cases wn
  · simp only [cond_false] at h
    cases h
    refine .inl ⟨id, .tup [], (s.tok id).b, rfl, ?_, fun s2 h2 => ?_, fun d _ => rfl⟩
    · show Sum.inl (s.put dst (.tup [])) = Sum.inl ((s.tok id).put dst (.tup []))
      rw [tok_id (f := id) (fun t => rfl)]
    · unfold stO
      rw [h2.wantB, hw]
      have e : (⟨s2.t.map (AV.tok id), (s.tok id).b⟩ : St) = s2 := by
        have : (s.tok id).b = (s2.tok id).b := by unfold St.tok; rw [h2.b]
        rw [this]
        exact tok_id (s := s2) (f := id) (fun t => rfl)
      rw [e]
      rfl
  · simp only [cond_true] at h
    have go : ∀ s2, Same ops ⟨dst, .call { callee := .value (.func fid), args := ys, argTypes := Ts }, ty, pos, after, guard⟩ s s2 → stO P np true takes call ops ⟨dst, .call { callee := .value (.func fid), args := ys, argTypes := Ts }, ty, pos, after, guard⟩ s2 = stE P np true takes call ⟨dst, .call { callee := .value (.func fid), args := ys, argTypes := Ts }, ty, pos, after, guard⟩ s2 := fun s2 h2 => by
      unfold stO
      rw [h2.wantB, hw]
      rfl
    have nr : ∀ s2, stE P np true takes call ⟨dst, .call { callee := .value (.func fid), args := ys, argTypes := Ts }, ty, pos, after, guard⟩ s2 =
        evX P np takes call (fun v => some (.inr v)) ⟨dst, .call { callee := .value (.func fid), args := ys, argTypes := Ts }, ty, pos, after, guard⟩ s2 (fun s => some (.inl s)) := fun s2 => rfl
    rw [nr] at h
    unfold evX at h
    dsimp only at h
    unfold callK at h
    obtain ⟨hsz, h⟩ := bif_some h
    obtain ⟨p, hp, h⟩ := Option.bind_eq_some_iff.1 h
    obtain ⟨hd, h⟩ := bif_some h
    obtain ⟨⟨qb, q⟩, hq, h⟩ := Option.bind_eq_some_iff.1 h
    obtain ⟨hqb, h⟩ := bif_some h
    dsimp only at hqb h
    subst hqb
    have hls := argsFor_ls _ _ _ _ hp
    have run : ∀ s2, Same ops ⟨dst, .call { callee := .value (.func fid), args := ys, argTypes := Ts }, ty, pos, after, guard⟩ s s2 → stE P np true takes call ⟨dst, .call { callee := .value (.func fid), args := ys, argTypes := Ts }, ty, pos, after, guard⟩ s2 =
        outK (fun v => some (.inr v)) (fun v bs => (backS 0 p.ls bs (s2.tok (lostF p (dstN v dst)))).bind fun s => (newTok dst v).bind fun x => some (.inl (s.put dst x))) q := fun s2 h2 => by
      rw [nr]
      unfold evX
      dsimp only
      rw [ev_map (s := s) (s' := s2) (fun z hz => h2.ev z (by simp [Op.operands, Call.operands]; exact .inr (by simpa using hz)))]
      unfold callK
      rw [argsFor_congr (s := s) (s' := s2) h2.b, hsz, hp]
      simp only [cond_true, Option.bind_some, hd, hq]
    rw [outK_flat] at h
    replace run := fun s2 h2 => (run s2 h2).trans (outK_flat _ _ q)
    have hfc := q.flat_cases
    generalize q.flat = q at h run hfc
    cases q with
    | alt b x y => rcases hfc with ⟨_, _, e⟩ | ⟨_, e⟩ <;> cases e
    | thr v =>
      cases h
      refine .inr ⟨v, rfl, fun s2 h2 => ?_⟩
      rw [go s2 h2, run s2 h2]
      rfl
    | ret v bs =>
      dsimp only at h
      obtain ⟨s3, hb, h⟩ := Option.bind_eq_some_iff.1 h
      obtain ⟨y, hy, h⟩ := Option.bind_eq_some_iff.1 h
      cases h
      obtain ⟨b', rfl, hall, hoth⟩ := backS_b _ _ _ _ _ _ hb
      refine .inl ⟨lostF p (dstN v dst), y, b', rfl, rfl, fun s2 h2 => ?_, fun d hd => hoth d fun hm => ?_⟩
      · rw [go s2 h2, run s2 h2]
        dsimp only [outK]
        have : s2.tok (lostF p (dstN v dst)) = ⟨s2.t.map (AV.tok (lostF p (dstN v dst))), (s.tok (lostF p (dstN v dst))).b⟩ := by
          unfold St.tok; rw [h2.b]
        rw [this]
        have h3 := hall (s2.t.map (AV.tok (lostF p (dstN v dst))))
        have h4 : backS 0 p.ls bs ⟨s2.t.map (AV.tok (lostF p (dstN v dst))), (s.tok (lostF p (dstN v dst))).b⟩ = some ⟨s2.t.map (AV.tok (lostF p (dstN v dst))), b'⟩ := h3
        rw [h4, Option.bind_some, hy]
        rfl
      · obtain ⟨x, hx, hxb⟩ := hls d hm
        obtain ⟨z, hz, rfl⟩ := List.mem_map.1 hx
        exact hd z hz hxb
theorem ev_put {d : Option Nat} {y : Operand} (h : ∀ t, y = .tmp t → d ≠ some t) (x : AV) : (s.put d x).ev y = s.ev y := by
  cases y with
  | tmp t => exact get_put (h t rfl) x
  | _ => rfl
theorem looks_of {o : Oper} {t : Nat} (h : Operand.tmp t ∈ o.op.operands.toList) : t ∈ looks ops o := by
  unfold looks
  exact List.mem_append.2 (.inl (List.mem_filterMap.2 ⟨_, h, rfl⟩))
theorem wval_back {x : Oper} (hw : wOp P x = true) {f : Option Nat → Option Nat} (hf : f none = none) {d : Option Nat} (hd : ∀ e, d = some e → e ∉ looks ops x) (y : AV) {b' : Bx} (hb : ∀ a, loadOf x = some a → ∀ e, boxOf (s.ev a) = some e → b'[e]? = (s.tok f).b[e]?) :
    wval P ops x ((⟨s.t.map (AV.tok f), b'⟩ : St).put d y) = (wval P ops x s).map (AV.tok f) := by
  have h4 : wval P ops x ((s.tok f).put d y) = (wval P ops x s).map (AV.tok f) := by
    rw [wval_same (Same.put (s := s.tok f) hd y), wval_tok hf]
  rw [← h4]
  have et : ((⟨s.t.map (AV.tok f), b'⟩ : St).put d y).t = ((s.tok f).put d y).t := by cases d <;> rfl
  have eg : ∀ t, ((⟨s.t.map (AV.tok f), b'⟩ : St).put d y).get t = ((s.tok f).put d y).get t := fun t => by unfold St.get; rw [et]
  have ee : ∀ z, ((⟨s.t.map (AV.tok f), b'⟩ : St).put d y).ev z = ((s.tok f).put d y).ev z := fun z => by cases z <;> first | exact eg _ | rfl
  have ew : wantB ((⟨s.t.map (AV.tok f), b'⟩ : St).put d y) ops x.guard = wantB ((s.tok f).put d y) ops x.guard := by
    unfold wantB
    cases x.guard with
    | none => rfl
    | some jw =>
      obtain ⟨j, want⟩ := jw
      dsimp only
      have : yieldB ((⟨s.t.map (AV.tok f), b'⟩ : St).put d y) ops j = yieldB ((s.tok f).put d y) ops j := by
        unfold yieldB
        cases hd : (ops[j]?).bind (·.dst) with
        | none => rfl
        | some e => dsimp only; rw [eg]
      rw [this]
  have er : rhs P x ((⟨s.t.map (AV.tok f), b'⟩ : St).put d y) = rhs P x ((s.tok f).put d y) := by
    refine rhs_congr' (fun T a e => ?_) fun z _ => ee z
    have hl : loadOf x = some a := by unfold loadOf; rw [e]
    rw [ee]
    have hva : ((s.tok f).put d y).ev a = (s.ev a).tok f := by
      rw [ev_put (fun t et hdt => hd t hdt (looks_of (by subst et; rw [e]; simp [Op.operands]))), tok_ev]
    cases hq : ((s.tok f).put d y).ev a <;> first | rfl | skip
    rename_i e' off
    have hbx : boxOf (s.ev a) = some e' := by
      rw [← boxOf_tok (f := f), ← hva, hq]; rfl
    show ((St.put _ d y).boxAt e').map _ = (((s.tok f).put d y).boxAt e').map _
    congr 1
    have e1 : (St.put (⟨s.t.map (AV.tok f), b'⟩ : St) d y).b = b' := by cases d <;> rfl
    have e2 : ((s.tok f).put d y).b = (s.tok f).b := by cases d <;> rfl
    unfold St.boxAt
    rw [e1, e2, List.getD_eq_getElem?_getD, List.getD_eq_getElem?_getD, hb a hl e' hbx]
  have eB : rhsB P x ((⟨s.t.map (AV.tok f), b'⟩ : St).put d y) = rhsB P x ((s.tok f).put d y) := rhsB_congr (by rw [et]) fun z _ => ee z
  unfold wval
  rw [ew, er, eB]
def Far (s : St) (p : Operand × List Operand) : Prop := ∀ d, boxOf (s.ev p.1) = some d → ∀ x ∈ p.2, boxOf (s.ev x) ≠ some d
theorem far_of {s : St} {p : Operand × List Operand} (h : aparts s p = true) : Far s p := by
  intro d hd
  unfold aparts at h
  have key : ∀ xs, farFrom s d xs = true → ∀ x ∈ xs, boxOf (s.ev x) ≠ some d := fun xs => by
    induction xs with
    | nil => intro _ x hx; cases hx
    | cons x xs ih =>
      intro h y hy
      unfold farFrom at h
      rw [Bool.and_eq_true] at h
      rcases List.mem_cons.1 hy with rfl | hy
      · intro e
        have h1 := h.1
        cases hq : s.ev y <;> rw [hq] at e h1 <;> cases e
        simp at h1
      · exact ih h.2 y hy
  cases hq : s.ev p.1 <;> rw [hq] at hd h <;> cases hd
  exact key _ h
theorem wOp_load {x : Oper} {a : Operand} (hx : loadOf x = some a) : wOp P x = true := by
  obtain ⟨dst, op, ty, pos, after, guard⟩ := x
  unfold loadOf at hx
  dsimp only at hx
  split at hx
  · rfl
  · cases hx
theorem diamond_wp {x y : Oper} {xs : List Operand} (hx1 : wOp P x = true) (hy1 : ptrCall P y = some xs) (ha : apartB ops x y = true) {r : St ⊕ Value} (hfar : ∀ s2, r = .inl s2 → ∀ a, loadOf x = some a → Far s (a, xs)) (hx : stO P np true takes call ops x s = some (.inl s1)) (hy : stO P np true takes call ops y s1 = some r) :
    (∀ s2, r = .inl s2 → ∃ s3, stO P np true takes call ops y s = some (.inl s3) ∧ stO P np true takes call ops x s3 = some (.inl s2)) ∧ (∀ v, r = .inr v → stO P np true takes call ops y s = some (.inr v)) := by
  unfold apartB at ha
  simp only [Bool.and_eq_true] at ha
  have a1 : ∀ d, x.dst = some d → d ∉ looks ops y ∧ y.dst ≠ some d := fun d hd => by
    have := ha.1
    rw [hd] at this
    simpa using this
  have a2 : ∀ d, y.dst = some d → d ∉ looks ops x := fun d hd => by
    have := ha.2
    rw [hd] at this
    simpa using this
  rw [stO_w hx1] at hx
  obtain ⟨vx, hvx, e⟩ := Option.map_eq_some_iff.1 hx
  cases e
  have hS := Same.put (s := s) (o := y) (ops := ops) (fun d hd => (a1 d hd).1) vx
  have hev : ∀ z ∈ xs, (s.put x.dst vx).ev z = s.ev z := fun z hz => ev_put (fun t e hdt => (a1 t hdt).1 (ptr_looks hy1 hz e)) vx
  rcases pForm hy1 hy with ⟨f, vy, b', hf, rfl, hall, hoth⟩ | ⟨v, rfl, hall⟩
  · refine ⟨fun s2 e => ?_, fun v e => (by cases e)⟩
    cases e
    refine ⟨_, hall s hS.symm, ?_⟩
    rw [stO_w hx1, wval_back hx1 hf (fun d hd => a2 d hd) vy (fun a hl e he => ?_), hvx]
    · show some (Sum.inl _) = _
      have e1 : (⟨(s.put x.dst vx).t.map (AV.tok f), b'⟩ : St) = (⟨s.t.map (AV.tok f), b'⟩ : St).put x.dst (vx.tok f) := by
        cases x.dst with
        | none => rfl
        | some d =>
          show (⟨(s.t.set d vx).map (AV.tok f), b'⟩ : St) = ⟨(s.t.map (AV.tok f)).set d (vx.tok f), b'⟩
          rw [List.map_set]
      rw [e1, put_comm (fun c hc e => (a1 c e).2 hc)]
    · have h1 := hoth e (fun z hz => by rw [hev z hz]; exact hfar _ rfl a hl e he z hz)
      rw [h1]
      have : ((s.put x.dst vx).tok f).b = (s.tok f).b := by
        unfold St.tok St.put
        cases x.dst <;> rfl
      rw [this]
  · exact ⟨fun s2 e => (by cases e), fun v' e => (by cases e; exact hall s hS.symm)⟩
theorem diamond_pw {x y : Oper} {xs : List Operand} (hx1 : ptrCall P x = some xs) (hy1 : wOp P y = true) (ha : apartB ops x y = true) {r : St ⊕ Value} (hfar : ∀ s2, r = .inl s2 → ∀ a, loadOf y = some a → Far s (a, xs)) (hx : stO P np true takes call ops x s = some (.inl s1)) (hy : stO P np true takes call ops y s1 = some r) :
    (∀ s2, r = .inl s2 → ∃ s3, stO P np true takes call ops y s = some (.inl s3) ∧ stO P np true takes call ops x s3 = some (.inl s2)) ∧ (∀ v, r = .inr v → stO P np true takes call ops y s = some (.inr v)) := by
  unfold apartB at ha
  simp only [Bool.and_eq_true] at ha
  have a1 : ∀ d, x.dst = some d → d ∉ looks ops y ∧ y.dst ≠ some d := fun d hd => by
    have := ha.1
    rw [hd] at this
    simpa using this
  have a2 : ∀ d, y.dst = some d → d ∉ looks ops x := fun d hd => by
    have := ha.2
    rw [hd] at this
    simpa using this
  rcases pForm hx1 hx with ⟨f, vx, b', hf, e, hall, hoth⟩ | ⟨v, e, hall⟩
  · cases e
    rw [stO_w hy1] at hy
    obtain ⟨vy', hvy', e⟩ := Option.map_eq_some_iff.1 hy
    subst e
    rw [wval_back hy1 hf (fun d hd => (a1 d hd).1) vx (fun a hl e he => hoth e fun z hz => hfar _ rfl a hl e he z hz)] at hvy'
    obtain ⟨vy, hvy, rfl⟩ := Option.map_eq_some_iff.1 hvy'
    refine ⟨fun s2 e => ?_, fun v e => (by cases e)⟩
    cases e
    refine ⟨s.put y.dst vy, by rw [stO_w hy1, hvy]; rfl, ?_⟩
    rw [hall _ (Same.put (fun d hd => a2 d hd) vy)]
    have e1 : (⟨(s.put y.dst vy).t.map (AV.tok f), b'⟩ : St) = (⟨s.t.map (AV.tok f), b'⟩ : St).put y.dst (vy.tok f) := by
      cases y.dst with
      | none => rfl
      | some d =>
        show (⟨(s.t.set d vy).map (AV.tok f), b'⟩ : St) = ⟨(s.t.map (AV.tok f)).set d (vy.tok f), b'⟩
        rw [List.map_set]
    rw [e1, put_comm (fun c hc e => (a1 c e).2 hc)]
  · cases e
theorem storeAV_t {T : TypeId} {a x : AV} {s' : St} (h : storeAV P s T a x = some s') : ∃ f, s'.t = s.t.map (AV.tok f) := by
  unfold storeAV at h
  split at h
  · rename_i d off
    have h1 := Option.bind_eq_some_iff.1 h
    clear h
    obtain ⟨cs, _, h⟩ := h1
    have h1 := Option.bind_eq_some_iff.1 h
    clear h
    obtain ⟨ks, _, h⟩ := h1
    have h1 := Option.bind_eq_some_iff.1 h
    clear h
    obtain ⟨n, _, h⟩ := h1
    have h1 := bif_some h
    clear h
    obtain ⟨hcc, h⟩ := h1
    have ident : s.t = s.t.map (AV.tok id) := (congrArg St.t (tok_id (s := s) (f := id) (fun t => rfl))).symm
    split at h
    · rename_i m E l
      cases hm : m == sub d off <;> rw [hm] at h <;> simp only [cond_true, cond_false] at h
      · obtain ⟨c2, _, e⟩ := Option.map_eq_some_iff.1 h
        cases e
        refine ⟨_, congrArg St.t (tok_tok (s := s) (killF (sub d off)) (renF m (sub d off)))⟩
      · cases h
        exact ⟨id, ident⟩
    · obtain ⟨c2, _, e⟩ := Option.map_eq_some_iff.1 h
      cases e
      exact ⟨_, rfl⟩
  · cases h
theorem boxOf_keep {o : Oper} (ho : (wOp P o || xOp P o || (ptrCall P o).isSome || isStore o) = true) (h : stO P np true takes call ops o s = some (.inl s1)) {z : Operand} (hz : ∀ t, z = .tmp t → o.dst ≠ some t) : boxOf (s1.ev z) = boxOf (s.ev z) := by
  rw [Bool.or_eq_true, Bool.or_eq_true, Bool.or_eq_true] at ho
  rcases ho with ((hw | hx) | hp) | hst
  · rw [stO_w hw] at h
    obtain ⟨v, _, e⟩ := Option.map_eq_some_iff.1 h
    cases e
    rw [ev_put hz]
  · rcases xForm hx h with ⟨f, y, hf, e, _⟩ | ⟨v, e, _⟩
    · cases e
      rw [ev_put hz, tok_ev, boxOf_tok]
    · cases e
  · obtain ⟨xs, hxs⟩ := Option.isSome_iff_exists.1 hp
    rcases pForm hxs h with ⟨f, y, b', hf, e, _⟩ | ⟨v, e, _⟩
    · cases e
      rw [ev_put hz]
      have : (⟨s.t.map (AV.tok f), b'⟩ : St).ev z = (s.tok f).ev z := by cases z <;> rfl
      rw [this, tok_ev, boxOf_tok]
    · cases e
  · obtain ⟨dst, op, ty, pos, after, guard⟩ := o
    obtain ⟨T, a, x, rfl⟩ : ∃ T a x, op = .store T a x := by
      unfold isStore at hst
      dsimp only at hst
      split at hst
      · exact ⟨_, _, _, rfl⟩
      · cases hst
    unfold stO at h
    obtain ⟨wn, hw, h⟩ := Option.bind_eq_some_iff.1 h
    cases wn
    · simp only [cond_false] at h
      cases h
      exact congrArg boxOf (ev_put hz _)
    · simp only [cond_true] at h
      have nr : stE P np true takes call ⟨dst, .store T a x, ty, pos, after, guard⟩ s = evX P np takes call (fun v => some (.inr v)) ⟨dst, .store T a x, ty, pos, after, guard⟩ s (fun s => some (.inl s)) := rfl
      rw [nr] at h
      unfold evX at h
      dsimp only at h
      cases dst with
      | some d => cases h
      | none =>
        dsimp only at h
        obtain ⟨s', hs, h⟩ := Option.bind_eq_some_iff.1 h
        cases h
        obtain ⟨f, ht⟩ := storeAV_t hs
        have : s1.ev z = (s.tok f).ev z := by
          cases z with
          | tmp t => show s1.t.getD t .dead = (s.t.map (AV.tok f)).getD t .dead; rw [ht]
          | _ => rfl
        rw [this, tok_ev, boxOf_tok]
end
end Go.Proofs.YtckdgcpomkefpaaGreatDoor.En
end
section
set_option linter.unusedVariables false
namespace Go.Proofs.YtckdgcpomkefpaaGreatDoor.En
open Go
section
variable {P : Program} {ops : Array Oper} {md : Region.Mode}
def KeptT (ops : List Oper) (a a' : Act) : Prop := a'.tmps.size = a.tmps.size ∧ ∀ k, (∀ o ∈ ops, o.dst ≠ some k) → a'.tmps[k]? = a.tmps[k]?
def QK (ops : List Oper) (a0 : Act) (Q : Exit → Act → World → Prop) : Exit → Act → World → Prop := fun e a w => (e ≠ .outgrown → KeptT ops a0 a) → Q e a w
theorem KeptT.refl (ops : List Oper) (a : Act) : KeptT ops a a := ⟨rfl, fun _ _ => rfl⟩
theorem KeptT.put {l : List Oper} {a0 a a1 : Act} {o : Oper} {v : Value} (h : KeptT l a0 a) (ho : o ∈ l) (h1 : a1.tmps = a.tmps) : KeptT l a0 (a1.put o.dst v) := ⟨by
  rw [← h.1, ← h1]
  cases o.dst <;> simp [Act.put], fun k hk => by
  rw [← h.2 k hk, ← h1]
  have hd := hk o ho
  cases hod : o.dst with
  | none => rfl
  | some d =>
    have hdk : d ≠ k := fun e => hd (by rw [hod, e])
    show (a1.tmps.setIfInBounds d v)[k]? = a1.tmps[k]?
    rw [Array.getElem?_setIfInBounds, if_neg hdk]⟩
theorem LetsOut.qk {l : List Oper} {a0 : Act} {Q : Exit → Act → World → Prop} (h : LetsOut (QK l a0 Q)) : LetsOut Q := by
  obtain ⟨a, w, h⟩ := h
  exact ⟨a, w, h fun e => absurd rfl e⟩
theorem upon_keep {l : List Oper} {a0 a : Act} {w : World} {Q : Exit → Act → World → Prop} {o : Oper} {K K' : Act → World → Prop} (hm : o ∈ l) (ha : KeptT l a0 a)
    (hK : ∀ a' w', KeptT l a0 a' → K a' w' → K' a' w') (h : o.wp P a w K (QK l a0 Q)) : o.wp P a w K' Q := by
  unfold Oper.wp at *
  generalize (execOp a.eval o).run P w = r at *
  cases r with
  | ok n w' =>
    cases n <;> simp only [Oper.upon] at h ⊢ <;>
      first
        | exact hK _ _ (ha.put hm rfl) h
        | exact Calls.mono h (fun e w'' he => by
            cases e
            · exact hK _ _ (ha.put hm rfl) he
            · exact he fun _ => ha
            · exact LetsOut.qk he)
        | exact Rows.mono h (fun _ _ he => hK _ _ (ha.put hm rfl) he)
  | halt x w' => cases x <;> simp only [Oper.upon] at h ⊢ <;> exact h fun _ => ha
theorem wpOp_keep {a0 a : Act} {w : World} {Q : Exit → Act → World → Prop} {i : Nat} {K K' : Act → World → Prop} (ha : KeptT ops.toList a0 a)
    (hK : ∀ a' w', KeptT ops.toList a0 a' → K a' w' → K' a' w') (h : wpOp P ops (QK ops.toList a0 Q) i K a w) : wpOp P ops Q i K' a w := by
  unfold wpOp at *
  split
  · exact hK _ _ ha (by simpa [*] using h)
  · rename_i o ho
    have hm : o ∈ ops.toList := List.mem_of_getElem? (by rw [Array.getElem?_toList]; exact ho)
    simp only [ho] at h
    split
    · rename_i hw
      simp only [hw, if_true] at h
      exact h.imp (upon_keep hm ha hK) fun ⟨p, q⟩ => ⟨p, LetsOut.qk q⟩
    · rename_i hw
      simp only [hw] at h
      exact hK _ _ (ha.put hm rfl) h
theorem wpAny_keep {a0 : Act} {Q : Exit → Act → World → Prop} : ∀ (fuel : Nat) (listed : Array Bool) (a : Act) (w : World), KeptT ops.toList a0 a → wpAny P md ops (QK ops.toList a0 Q) fuel listed a w → wpAny P md ops Q fuel listed a w
  | 0, listed, a, w, ha, h => ⟨h.1, h.2 fun _ => ha⟩
  | fuel + 1, listed, a, w, ha, h => ⟨fun e => h.1 e fun _ => ha, fun i hi => wpOp_keep ha (fun a' w' ha' h' => wpAny_keep fuel _ a' w' ha' h') (h.2 i hi)⟩
theorem wpList_keep {a0 : Act} {Q : Exit → Act → World → Prop} : ∀ (l : List Oper) (a : Act) (w : World), (∀ o ∈ l, o ∈ ops.toList) → KeptT ops.toList a0 a → wpList P ops (QK ops.toList a0 Q) l a w → wpList P ops Q l a w
  | [], a, w, hl, ha, h => h fun _ => ha
  | o :: l, a, w, hl, ha, h => by
    have hm := hl o (by simp)
    have ih : ∀ a' w', KeptT ops.toList a0 a' → wpList P ops (QK ops.toList a0 Q) l a' w' → wpList P ops Q l a' w' := fun a' w' ha' h' => wpList_keep l a' w' (fun o ho => hl o (by simp [ho])) ha' h'
    simp only [wpList] at h ⊢
    split
    · rename_i hw
      simp only [hw, if_true] at h
      exact h.imp (upon_keep hm ha ih) fun ⟨p, q⟩ => ⟨p, LetsOut.qk q⟩
    · rename_i hw
      simp only [hw] at h
      exact ih _ _ (ha.put hm rfl) h
end
end Go.Proofs.YtckdgcpomkefpaaGreatDoor.En
end
