/- Part 3 of a proof: what it needs of the program's functions as plain Lean functions, with the proof that the machine's calls come to them, and of plain laws; put together out of smaller texts. No conditions besides those that each statement names. -/
import Derived.Orders
import Derived.Test.YtckdgcpomkefpaaGreatDoorOw2
section
set_option linter.unusedVariables false
set_option linter.unusedSimpArgs false
namespace Go.Proofs.YtckdgcpomkefpaaGreatDoor.En
open Go
section
variable {P : Program} {s : St} {np : Nat} {dr : Bool} {takes : FuncId → Option Nat} {call : CallF} {D : List Nat} {ops : List Oper}
theorem put_same {tj : Nat} {x : AV} (h : s.get tj = x) (hx : x ≠ .dead) : s.put (some tj) x = s := by
  have h1 := St.get_lt h hx
  obtain ⟨t, b⟩ := s
  show (⟨t.set tj x, b⟩ : St) = ⟨t, b⟩
  congr 1
  apply List.ext_getElem?
  intro i
  rw [List.getElem?_set]
  split
  · rename_i e
    subst e
    rw [if_pos (List.getElem?_eq_some_iff.1 h1).1, h1]
  · rfl
theorem yieldB_get {j tj : Nat} {b : Bool} (h : yieldB s ops j = some (some b)) (ht : tmpOf ops j = some tj) : s.get tj = B b := by
  unfold yieldB at h
  unfold tmpOf at ht
  rw [ht] at h
  dsimp only at h
  split at h
  · rename_i c hc; cases h; exact hc
  · cases h
  · cases h
theorem Agree.forget {E : List Nat} {s s' : St} (h : Agree E s s') : forget E (forget D s) = forget (E ++ D) s' := by
  unfold En.forget
  rw [h.b]
  congr 1
  apply List.ext_getElem?
  intro i
  rw [forgetL_get, forgetL_get, forgetL_get]
  simp only [Nat.zero_add]
  by_cases hi : i ∈ E
  · have e1 : E.contains i = true := by simpa using hi
    have e2 : (E ++ D).contains i = true := by simp [hi]
    rw [e1, e2]
    have hl := h.len
    by_cases hlt : i < s.t.length
    · rw [List.getElem?_eq_getElem hlt, List.getElem?_eq_getElem (show i < s'.t.length by omega)]; rfl
    · rw [List.getElem?_eq_none (Nat.le_of_not_lt hlt), List.getElem?_eq_none (show s'.t.length ≤ i by omega)]; rfl
  · rw [h.t i hi]
    have e1 : E.contains i = false := ncontains hi
    have e2 : (E ++ D).contains i = D.contains i := by
      rw [Bool.eq_iff_iff]; simp [hi]
    rw [e1, e2]
    cases s.t[i]? <;> rfl
theorem forget_ev_some {y : Operand} {x : AV} (h : (forget D s).ev y = x) (hx : x ≠ .dead) : s.ev y = x := by
  cases y with
  | tmp t =>
    by_cases ht : t ∈ D
    · exact absurd ((show (forget D s).get t = x from h).symm.trans (forget_get_in ht)) hx
    · exact (forget_get ht).symm.trans h
  | _ => exact h
theorem asB_eq {x : AV} {b : Bool} (h : asB x = some b) : x = B b := by
  unfold asB at h
  split at h
  · cases h; rfl
  · cases h
theorem pick_step {p : Oper} {c x y : Operand} {b t : Bool} (hp : p.op = .pick c x y) (hc : s.ev c = B b) (ht : s.ev (bif b then x else y) = B t) : stE P np dr takes call p s = some (.inl (s.put p.dst (B t))) := by
  obtain ⟨dst, op, ty, pos, after, guard⟩ := p
  dsimp only at hp
  subst hp
  unfold stE
  rw [evOp_def]
  unfold rhs
  dsimp only [reads, cond_true]
  rw [hc]
  dsimp only [B]
  cases b <;> dsimp only [cond_true, cond_false] at ht ⊢ <;> split <;> (try rw [ht]) <;> (try rfl)
  · rename_i h1 h2
    rw [h2] at ht; cases ht; rfl
  · rename_i h1 h2
    rw [h1] at ht; cases ht; rfl
theorem evOps_run : ∀ (m : Nat) {β : Type} (takes : FuncId → Option Nat) (call : CallF) (thr : Value → Option β) (l : List Oper) (s : St) (D : List Nat) (k : St → Option β) (out : β), okGroups ops l = true → (∀ o ∈ l, Avoids ops D o) →
    evOps P np dr takes call thr ops m l (forget D s) k = some out →
    ∃ r, runO P np dr takes call ops l s = some r ∧ (∀ s', r = .inl s' → ∃ D', k (forget D' s') = some out) ∧ (∀ v, r = .inr v → thr v = some out)
  | 0, β, takes, call, thr, l, s, D, k, out, hg, ha, h => by simp [evOps] at h
  | m + 1, β, takes, call, thr, [], s, D, k, out, hg, ha, h => ⟨.inl s, rfl, fun s' e => by cases e; exact ⟨D, h⟩, fun v e => by cases e⟩
  | m + 1, β, takes, call, thr, o :: l, s, D, k, out, hg, ha, h => by
    have hao := ha o (by simp)
    have hal : ∀ o ∈ l, Avoids ops D o := fun o ho => ha o (by simp [ho])
    have hgl : okGroups ops l = true := okGroups_suf (l := [o]) hg
    -- a plain step
    have plain : wantB s ops o.guard = some true → evOp P np dr takes call thr o (forget D s) (fun s => evOps P np dr takes call thr ops m l s k) = some out →
        ∃ r, runO P np dr takes call ops (o :: l) s = some r ∧ (∀ s', r = .inl s' → ∃ D', k (forget D' s') = some out) ∧ (∀ v, r = .inr v → thr v = some out) := fun hw he => by
      rw [evOp_st, stE_forget hao.opd hao.dst] at he
      unfold runO stO
      rw [hw]
      simp only [Option.bind_some, cond_true]
      cases hs : stE P np dr takes call o s with
      | none => rw [hs] at he; cases he
      | some r1 =>
        rw [hs] at he
        cases r1 with
        | inl s1 => exact evOps_run m takes call thr l s1 D k out hgl hal he
        | inr v => exact ⟨.inr v, rfl, fun s' e => (by cases e), fun v' e => (by cases e; exact he)⟩
    have skip : wantB s ops o.guard = some false → evOps P np dr takes call thr ops m l ((forget D s).put o.dst (.tup [])) k = some out →
        ∃ r, runO P np dr takes call ops (o :: l) s = some r ∧ (∀ s', r = .inl s' → ∃ D', k (forget D' s') = some out) ∧ (∀ v, r = .inr v → thr v = some out) := fun hw he => by
      rw [forget_put hao.dst] at he
      unfold runO stO
      rw [hw]
      simp only [Option.bind_some, cond_false]
      exact evOps_run m takes call thr l _ D k out hgl hal he
    unfold evOps at h
    cases hgd : o.guard with
    | none =>
      rw [hgd] at h
      exact plain (by rw [hgd]; rfl) h
    | some jw =>
      obtain ⟨j, want⟩ := jw
      rw [hgd] at h
      dsimp only at h
      cases hy : yieldB (forget D s) ops j with
      | none => rw [hy] at h; cases h
      | some yb =>
        rw [hy] at h
        obtain ⟨hy', hyD⟩ := yieldB_forget hy
        cases yb with
        | none =>
          refine skip ?_ h
          rw [hgd]
          unfold wantB
          dsimp only
          rw [hy']
        | some b =>
          dsimp only at h
          cases ht : tmpOf ops j with
          | none => rw [ht] at h; cases h
          | some tj =>
            rw [ht] at h
            dsimp only at h
            have hwant : wantB s ops o.guard = some (b == want) := by
              rw [hgd]; unfold wantB; dsimp only; rw [hy']
            have hgetF := yieldB_get hy ht
            have hget := yieldB_get hy' ht
            cases hj : join P takes tj (o :: l) with
            | none =>
              rw [hj] at h
              dsimp only at h
              cases hb : (b == want) <;> rw [hb] at h <;> simp only [cond_true, cond_false] at h
              · have e : (!want) = b := by cases b <;> cases want <;> first | rfl | cases hb
                rw [e, put_same hgetF (by intro e; cases e)] at h
                exact skip (by rw [hwant, hb]) h
              · have e : want = b := by cases b <;> cases want <;> first | rfl | cases hb
                rw [e, put_same hgetF (by intro e; cases e)] at h
                exact plain (by rw [hwant, hb]) h
            | some q =>
              obtain ⟨g, p, x, y, r'⟩ := q
              rw [hj] at h
              dsimp only at h
              obtain ⟨pw, hpw, h⟩ := Option.bind_eq_some_iff.1 h
              obtain ⟨t, hgt, h⟩ := Option.bind_eq_some_iff.1 h
              -- what is joined
              unfold join at hj
              obtain ⟨⟨g', p', r2⟩, hgr, hj⟩ := Option.bind_eq_some_iff.1 hj
              dsimp only at hj
              split at hj
              · rename_i c x' y' hop
                obtain ⟨hc, hj⟩ := bif_some hj
                cases hj
                simp only [Bool.and_eq_true, List.all_eq_true] at hc
                obtain ⟨⟨hq, hpd⟩, htj⟩ := hc
                obtain ⟨el, x2, y2, hop2⟩ := groupOf_spec hgr
                rw [hop] at hop2
                cases hop2
                have hgok : grpOk ops g p r' = true := by
                  unfold okGroups at hg
                  simp only [Bool.and_eq_true] at hg
                  have := hg.2
                  rw [hgd] at this
                  dsimp only at this
                  rw [ht] at this
                  dsimp only at this
                  rw [hgr] at this
                  exact this
                unfold grpOk at hgok
                simp only [Bool.and_eq_true, List.all_eq_true] at hgok
                obtain ⟨hr1, hp1⟩ := hgok
                have hgg : okGroups ops g = true := okGroups_pre (l2 := p :: r') (by rw [← el]; exact hg)
                have hgr' : okGroups ops r' = true := okGroups_suf (l := g ++ [p]) (by rw [List.append_assoc]; rw [show [p] ++ r' = p :: r' from rfl, ← el]; exact hg)
                have hag : ∀ o ∈ g, Avoids ops D o := fun o' ho' => ha o' (by rw [el]; simp [ho'])
                have hap : Avoids ops D p := ha p (by rw [el]; simp)
                have har : ∀ o ∈ r', Avoids ops D o := fun o' ho' => ha o' (by rw [el]; simp [ho'])
                -- the group's own run
                have hrun : ∃ s1, runO P np dr takes call ops g s = some (.inl s1) ∧ Agree (dstsOf g) s s1 ∧ s1.ev (bif b then x else y) = B t := by
                  have key : ∀ (z : Operand), evOps P np dr (fun _ => none) (quietC call) (fun _ => none) ops m g ((forget D s).put (some tj) (B b)) (fun s => asB (s.ev z)) = some t → ∃ s1, runO P np dr takes call ops g s = some (.inl s1) ∧ Agree (dstsOf g) s s1 ∧ s1.ev z = B t := fun z hz => by
                    rw [put_same hgetF (by intro e; cases e)] at hz
                    obtain ⟨r, hr, h1, h2⟩ := evOps_run m (fun _ => none) (quietC call) (fun _ => none) g s D _ t hgg hag hz
                    cases r with
                    | inr v => cases h2 v rfl
                    | inl s1 =>
                      obtain ⟨D', hD'⟩ := h1 s1 rfl
                      obtain ⟨e1, e2⟩ := quiet_run (P := P) (np := np) (takes := takes) (call := call) (ops := ops) (D := dstsOf g) g s s1 (fun o ho => hq o ho) (fun o ho e he => List.mem_filterMap.2 ⟨o, ho, he⟩) hr
                      exact ⟨s1, e1, e2, forget_ev_some (asB_eq hD') (by intro e; cases e)⟩
                  cases b
                  · exact key y hgt
                  · exact key x hgt
                obtain ⟨s1, hrun, hagree, hz⟩ := hrun
                have hF : deadAll g (forget D s) = forget (dstsOf g ++ D) s1 := hagree.forget
                rw [hF] at hpw h
                have hc1 : s1.ev (.tmp tj) = B b := by
                  show s1.get tj = B b
                  have hn : tj ∉ dstsOf g := fun hm => by
                    obtain ⟨o', ho', he'⟩ := List.mem_filterMap.1 hm
                    have := htj o' ho'
                    rw [he'] at this
                    simp at this
                  unfold St.get at hget ⊢
                  rw [List.getD_eq_getElem?_getD] at hget ⊢
                  rw [hagree.t tj hn]; exact hget
                have hpd' : ∀ e, p.dst = some e → e ∉ dstsOf g ++ D := fun e he hm => by
                  rcases List.mem_append.1 hm with hm | hm
                  · rw [he] at hp1
                    simp [hm] at hp1
                  · exact hap.dst e he hm
                rw [forget_put hpd'] at h
                obtain ⟨r, hr, h1, h2⟩ := evOps_run m takes call thr r' (s1.put p.dst (bif pw then B t else .tup [])) (dstsOf g ++ D) k out hgr' (fun o ho => (avoids_of (hr1 o ho)).app (har o ho)) h
                refine ⟨r, ?_, h1, h2⟩
                rw [el, runO_append, hrun]
                show runO P np dr takes call ops (p :: r') s1 = some r
                unfold runO stO
                rw [wantB_forget hpw]
                simp only [Option.bind_some]
                cases pw <;> simp only [cond_true, cond_false] at hr ⊢
                · exact hr
                · rw [pick_step hop hc1 hz]
                  exact hr
              · cases hj
end
end Go.Proofs.YtckdgcpomkefpaaGreatDoor.En
end
section
set_option linter.unusedVariables false
set_option linter.unusedSimpArgs false
namespace Go.Proofs.YtckdgcpomkefpaaGreatDoor.En
open Go
section
variable {P : Program} {s : St} {f : Option Nat → Option Nat}
theorem tok_ofV (x : Value) : (St.ofV x).tok f = St.ofV x := by
  cases x <;> first | rfl | skip
  case agg cs =>
    show AV.agg ((cs.toList.map AV.v).map (AV.tok1 f)) = _
    rw [List.map_map]; rfl
theorem tok_get (n : Nat) : (s.tok f).get n = (s.get n).tok f := by
  unfold St.get St.tok
  rw [List.getD_eq_getElem?_getD, List.getD_eq_getElem?_getD, List.getElem?_map]
  cases s.t[n]? <;> rfl
theorem tok_ev (y : Operand) : (s.tok f).ev y = (s.ev y).tok f := by
  cases y with
  | tmp t => exact tok_get t
  | const x => exact (tok_ofV x).symm
  | func g => rfl
  | global g => rfl
theorem tok_boxAt (d : Nat) : (s.tok f).boxAt d = (s.boxAt d).map (List.map (AV.tok1 f)) := by
  unfold St.boxAt St.tok
  rw [List.getD_eq_getElem?_getD, List.getD_eq_getElem?_getD, List.getElem?_map]
  cases s.b[d]? <;> rfl
theorem flat_tok {c : AV} (h : c.flat = true) : c.tok f = c.tok1 f := by cases c <;> first | rfl | cases h
theorem tok1_flat (c : AV) : (c.tok1 f).flat = c.flat := by cases c <;> rfl
theorem tok1_one (c : AV) : (c.tok1 f).one = c.one := by cases c <;> rfl
theorem bare_tok (hf : f none = none) (c : AV) : c.bare.tok1 f = c.bare := by cases c <;> first | rfl | (show AV.row (f none) _ _ = _; rw [hf]; rfl)
theorem cellsOf_tok (hf : f none = none) (x : AV) : (s.tok f).cellsOf (x.tok f) = (s.cellsOf x).map (List.map (AV.tok1 f)) := by
  cases x <;> first | rfl | skip
  case box d off =>
    show ((s.tok f).boxAt d).map _ = _
    rw [tok_boxAt]
    show Option.map _ (Option.map _ (s.boxAt d)) = Option.map _ (Option.map _ (s.boxAt d))
    cases s.boxAt d with
    | none => rfl
    | some cs =>
      simp only [Option.map_some, ← List.map_drop, List.map_map]
      congr 1
      refine List.map_congr_left fun c _ => ?_
      cases c <;> rfl
  case ro cs =>
    show some (cs.map AV.bare) = some ((cs.map AV.bare).map (AV.tok1 f))
    rw [List.map_map]
    congr 1
    exact List.map_congr_left fun c _ => (bare_tok hf c).symm
theorem partAV_tok (T : TypeId) (cs : List AV) (off : Nat) : partAV P T (cs.map (AV.tok1 f)) off = (partAV P T cs off).map (AV.tok f) := by
  unfold partAV
  cases aggT P T with
  | none => rfl
  | some ag =>
    simp only [Option.bind_some]
    cases ag
    · simp only [cond_false, List.getElem?_map]
      cases cs[off]? with
      | none => rfl
      | some c =>
        simp only [Option.map_some, Option.bind_some, tok1_flat]
        cases hc : c.flat
        · rfl
        · simp only [cond_true, Option.map_some, flat_tok hc]
    · simp only [cond_true]
      cases szT P T with
      | none => rfl
      | some n =>
        simp only [Option.bind_some, List.length_map]
        cases Nat.ble (off + n) cs.length
        · rfl
        · simp only [cond_true, Option.map_some, ← List.map_drop, ← List.map_take]; rfl
theorem bound_tok (o : Option Operand) (d : Nat) : bound (s.tok f) o d = bound s o d := by
  cases o with
  | none => rfl
  | some y =>
    simp only [bound, tok_ev]
    cases s.ev y <;> rfl
theorem cells_tok {x : AV} (h : x.cells.all AV.one = true) : (x.tok f).cells = x.cells.map (AV.tok1 f) := by
  cases x <;> first | rfl | skip
  case tup vs => simp [AV.cells, AV.one] at h
theorem cells_one (x : AV) : (x.tok f).cells.all AV.one = x.cells.all AV.one := by
  cases x <;> first | rfl | skip
  case agg cs =>
    show (cs.map (AV.tok1 f)).all AV.one = cs.all AV.one
    rw [List.all_map]
    congr 1
    funext c
    exact tok1_one c
theorem cells_len (x : AV) : (x.tok f).cells.length = x.cells.length := by
  cases x <;> first | rfl | skip
  case agg cs => simp [AV.cells, AV.tok, AV.tok2]
def tok3 (f : Option Nat → Option Nat) (p : Nat × Nat × AV) : Nat × Nat × AV := (p.1, p.2.1, p.2.2.tok f)
theorem partsAV_tok (T : TypeId) : ∀ (ps : List (Nat × Operand)), partsAV P (s.tok f) T ps = (partsAV P s T ps).map (List.map (tok3 f))
  | [] => rfl
  | (i, x) :: r => by
    simp only [partsAV, partsAV_tok T r, tok_ev]
    cases fieldOf P T i with
    | none => rfl
    | some ou =>
      obtain ⟨off, U⟩ := ou
      simp only [Option.bind_some]
      cases szT P U with
      | none => rfl
      | some n =>
        simp only [Option.bind_some]
        cases partsAV P s T r <;> rfl
theorem fillAV_tok : ∀ (l : List (Nat × Nat × AV)) (cs : List AV), fillAV (cs.map (AV.tok1 f)) (l.map (tok3 f)) = (fillAV cs l).map (List.map (AV.tok1 f))
  | [], cs => rfl
  | (off, n, x) :: r, cs => by
    simp only [List.map_cons, tok3, fillAV, cells_len, cells_one, List.length_map]
    cases hc : Nat.beq x.cells.length n && Nat.ble (off + n) cs.length && x.cells.all AV.one
    · rfl
    · simp only [Bool.and_eq_true] at hc
      simp only [cond_true]
      rw [cells_tok hc.2, ← List.map_take, ← List.map_drop, ← List.map_append, ← List.map_append]
      exact fillAV_tok r _
theorem plainL_tok : ∀ (cs : List AV), plainL (cs.map (AV.tok1 f)) = plainL cs
  | [] => rfl
  | c :: cs => by
    cases c <;> first | rfl | skip
    case v x =>
      show (plainL (cs.map (AV.tok1 f))).bind _ = (plainL cs).bind _
      rw [plainL_tok cs]
theorem rhs_tok (hf : f none = none) (o : Oper) : rhs P o (s.tok f) = (rhs P o s).map (AV.tok f) := by
  obtain ⟨dst, op, ty, pos, after, guard⟩ := o
  unfold rhs
  dsimp only
  split
  case h_1 x => rw [tok_ev]; rfl
  case h_2 c a b =>
    rw [tok_ev, tok_ev, tok_ev]
    cases s.ev c <;> first | rfl | skip
    rename_i cv
    cases cv <;> first | rfl | skip
    rename_i cb
    have key : ∀ (A B' : AV), (match A.tok f, B'.tok f with
        | .v (.bool x), .v (.bool y) => some (B (bif cb then x else y))
        | x, y => some (bif cb then x else y)) = Option.map (AV.tok f) (match A, B' with
        | .v (.bool x), .v (.bool y) => some (B (bif cb then x else y))
        | x, y => some (bif cb then x else y)) := fun A B' => by
      have hA : (∃ x, A = .v (.bool x)) ∨ ∀ x, A ≠ .v (.bool x) := by
        by_cases h : ∃ x, A = .v (.bool x)
        · exact .inl h
        · exact .inr fun x e => h ⟨x, e⟩
      have hB : (∃ x, B' = .v (.bool x)) ∨ ∀ x, B' ≠ .v (.bool x) := by
        by_cases h : ∃ x, B' = .v (.bool x)
        · exact .inl h
        · exact .inr fun x e => h ⟨x, e⟩
      have inv : ∀ (C : AV) x, C.tok f = .v (.bool x) → C = .v (.bool x) := fun C x e => by cases C <;> first | exact e | cases e
      rcases hA with ⟨x, rfl⟩ | hA
      · rcases hB with ⟨y, rfl⟩ | hB
        · rfl
        · split
          · rename_i h1 h2; exact absurd (inv _ _ h2) (hB _)
          · split
            · rename_i h1 h2; exact absurd rfl (hB _)
            · cases cb <;> rfl
      · split
        · rename_i h1 h2; exact absurd (inv _ _ h1) (hA _)
        · split
          · rename_i h1 h2; exact absurd rfl (hA _)
          · cases cb <;> rfl
    exact key _ _
  case h_3 T ps =>
    rw [partsAV_tok]
    cases hz : zeroCells P T with
    | none => rfl
    | some z =>
      simp only [Option.bind_some]
      cases fieldsOk P T
      · rfl
      simp only [cond_true]
      cases partsAV P s T ps.toList with
      | none => rfl
      | some l =>
        simp only [Option.bind_some, Option.map_some]
        have hz' : z.map (AV.tok1 f) = z := by
          unfold zeroCells at hz
          obtain ⟨zv, _, hz⟩ := Option.bind_eq_some_iff.1 hz
          obtain ⟨_, hz⟩ := bif_some hz
          cases hz
          rw [List.map_map]; rfl
        have := fillAV_tok (f := f) l z
        rw [hz'] at this
        rw [this]
        cases fillAV z l <;> rfl
  case h_4 T a =>
    rw [tok_ev, cellsOf_tok hf]
    cases s.cellsOf (s.ev a) with
    | none => rfl
    | some cs => exact partAV_tok T cs 0
  case h_5 x => rw [tok_ev]; cases s.ev x <;> rfl
  case h_6 op T x y _ =>
    rw [tok_ev, tok_ev]
    cases s.ev x <;> cases s.ev y <;> first | rfl | skip
    rename_i a b
    show (bif boolOk P T y a then (pureOp op a b).map AV.v else none) = Option.map _ (bif boolOk P T y a then (pureOp op a b).map AV.v else none)
    cases boolOk P T y a
    · rfl
    · cases pureOp op a b <;> rfl
  case h_7 op _ x =>
    rw [tok_ev]
    cases s.ev x <;> first | rfl | skip
    rename_i a
    show (unOpV op a).map AV.v = Option.map _ ((unOpV op a).map AV.v)
    cases unOpV op a <;> rfl
  case h_8 src dst x =>
    rw [tok_ev]
    cases s.ev x <;> first | rfl | skip
    · rename_i a
      show (convV P src dst a).map AV.v = Option.map _ ((convV P src dst a).map AV.v)
      cases convV P src dst a <;> rfl
    · rename_i t E l
      show (match P.underlying src, P.underlying dst with
        | some (.slice E'), some .string => _
        | _, _ => _) = Option.map (AV.tok f) (match P.underlying src, P.underlying dst with
        | some (.slice E'), some .string => _
        | _, _ => _)
      split
      · split
        · cases E == _ <;> rfl
        · rfl
      · rfl
  case h_9 T x =>
    rw [tok_ev]
    split
    · rfl
    · rfl
    · cases s.ev x <;> first | rfl | skip
      rename_i cs
      show (plainL (cs.map (AV.tok1 f))).bind _ = Option.map _ ((plainL cs).bind _)
      rw [plainL_tok]
      cases plainL cs <;> rfl
  case h_10 T x lo hi =>
    simp only [tok_ev, bound_tok]
    cases s.ev x <;> first | rfl | skip
    · rename_i v
      cases v <;> first | rfl | skip
      rename_i str
      show (bound s hi str.size).bind _ = Option.map _ ((bound s hi str.size).bind _)
      cases bound s hi str.size with
      | none => rfl
      | some h =>
        simp only [Option.bind_some]
        cases bound s lo 0 with
        | none => rfl
        | some l =>
          simp only [Option.bind_some]
          cases strT P T && decide (0 ≤ h) && decide (h ≤ str.size) && decide (0 ≤ l) && decide (l ≤ h) <;> rfl
    · rename_i t E r
      show (bound s hi r.length).bind _ = Option.map _ ((bound s hi r.length).bind _)
      cases bound s hi r.length with
      | none => rfl
      | some h =>
        simp only [Option.bind_some]
        cases bound s lo 0 with
        | none => rfl
        | some l =>
          simp only [Option.bind_some]
          cases kinds P E with
          | none => rfl
          | some ks =>
            simp only [Option.bind_some]
            cases elemT P T == some E && szT P E == some ks.length && decide (0 ≤ h) && decide (h ≤ r.length) && decide (0 ≤ l) && decide (l ≤ h)
            · rfl
            · show some (AV.row none E _) = some (AV.row (f none) E _)
              rw [hf]
  case h_11 T x g =>
    rw [tok_ev]
    cases fieldOf P T g with
    | none => rfl
    | some ou =>
      obtain ⟨off, U⟩ := ou
      simp only [Option.bind_some]
      cases szT P U with
      | none => rfl
      | some n =>
        simp only [Option.bind_some]
        cases n == 0
        · cases s.ev x <;> rfl
        · rfl
  case h_12 T x g =>
    rw [tok_ev]
    cases fieldOf P T g with
    | none => rfl
    | some ou =>
      obtain ⟨off, U⟩ := ou
      simp only [Option.bind_some]
      cases s.ev x <;> first | rfl | skip
      rename_i cs
      exact partAV_tok U cs off
  case h_13 T x i =>
    rw [tok_ev, tok_ev]
    cases s.ev x <;> cases s.ev i <;> first | rfl | skip
    rename_i t E l v
    cases v <;> first | rfl | skip
    rename_i k n
    show (bif elemT P T == some E then (kinds P E).bind _ else none) = Option.map _ (bif elemT P T == some E then (kinds P E).bind _ else none)
    cases elemT P T == some E
    · rfl
    simp only [cond_true]
    cases kinds P E with
    | none => rfl
    | some ks =>
      simp only [Option.bind_some]
      cases szT P E == some ks.length
      · rfl
      · simp only [cond_true]
        cases idx l n <;> rfl
  case h_14 T x i =>
    rw [tok_ev, tok_ev]
    cases s.ev x <;> first | rfl | skip
    rename_i v
    cases v <;> first | rfl | skip
    rename_i str
    cases s.ev i <;> first | rfl | skip
    rename_i u
    cases u <;> first | rfl | skip
    rename_i k n
    show (bif strT P T && decide (0 ≤ n) && decide (n < str.size) then _ else _) = Option.map _ (bif strT P T && decide (0 ≤ n) && decide (n < str.size) then _ else _)
    cases strT P T && decide (0 ≤ n) && decide (n < str.size) <;> rfl
  case h_15 x i =>
    rw [tok_ev]
    cases s.ev x <;> first | rfl | skip
    rename_i vs
    show ((vs.map (AV.tok2 f))[i]?).bind _ = Option.map _ ((vs[i]?).bind _)
    rw [List.getElem?_map]
    cases vs[i]? with
    | none => rfl
    | some c => cases c <;> rfl
  case h_16 g xs cs =>
    have hh : ∀ x : AV, (x.tok f).held = x.held := fun x => by cases x <;> rfl
    have hi : ∀ x : AV, x.held = true → x.tok f = x := fun x hx => by cases x <;> first | rfl | cases hx
    have hm : ∀ ys : List Operand, (ys.map (s.tok f).ev).all AV.held = (ys.map s.ev).all AV.held ∧ ((ys.map s.ev).all AV.held = true → ys.map (s.tok f).ev = ys.map s.ev) := fun ys => by
      refine ⟨?_, fun h => List.map_congr_left fun y hy => ?_⟩
      · rw [List.all_map, List.all_map]
        congr 1
        funext y
        show ((s.tok f).ev y).held = (s.ev y).held
        rw [tok_ev, hh]
      · rw [tok_ev]
        exact hi _ (List.all_eq_true.1 h _ (List.mem_map_of_mem hy))
    rw [(hm xs.toList).1, (hm cs.toList).1]
    cases hx : (xs.toList.map s.ev).all AV.held
    · rfl
    cases hc : (cs.toList.map s.ev).all AV.held
    · rfl
    rw [(hm xs.toList).2 hx, (hm cs.toList).2 hc]
    rfl
  case h_17 xs Ts =>
    split
    · rename_i x T hx hT
      rw [tok_ev]
      cases s.ev x <;> first | rfl | skip
      · rename_i v
        cases v <;> first | rfl | skip
        · rename_i str
          show (bif strT P T then _ else _) = Option.map _ (bif strT P T then _ else _)
          cases strT P T <;> rfl
        · rename_i A n c
          cases A <;> cases n <;> cases c <;> first | rfl | skip
          show (bif (elemT P T).isSome then _ else _) = Option.map _ (bif (elemT P T).isSome then _ else _)
          cases (elemT P T).isSome <;> rfl
      · show (bif (elemT P T).isSome then _ else _) = Option.map _ (bif (elemT P T).isSome then _ else _)
        cases (elemT P T).isSome <;> rfl
    · rfl
  case h_18 => rfl
theorem packC_tok (k : CK) (c : AV) : packC k (c.tok1 f) = packC k c := by cases c <;> first | rfl | (cases k <;> rfl)
theorem packL_tok : ∀ (ks : List CK) (cs : List AV), packL ks (cs.map (AV.tok1 f)) = packL ks cs
  | [], [] => rfl
  | [], _ :: _ => rfl
  | _ :: _, [] => rfl
  | k :: ks, c :: cs => by simp only [List.map_cons, packL, packC_tok, packL_tok ks cs]
theorem pack_tok (ks : List CK) (x : AV) : pack ks (x.tok f) = pack ks x := by
  cases x <;> first | rfl | skip
  case agg cs =>
    show (packL ks (cs.map (AV.tok1 f))).bind _ = (packL ks cs).bind _
    rw [packL_tok]
  all_goals (cases ks <;> first | rfl | (rename_i k ks; cases ks <;> cases k <;> rfl))
theorem partsF_tok (ks : List CK) : ∀ (l : List (Nat × AV)) (n : Nat), partsF ks (l.map fun p => (p.1, p.2.tok f)) n = partsF ks l n
  | [], n => rfl
  | (i, x) :: r, n => by
    simp only [List.map_cons, partsF, pack_tok, partsF_tok ks r (n + 1)]
theorem rhsB_tok (hf : f none = none) (o : Oper) : rhsB P o (s.tok f) = (rhsB P o s).map (AV.tok f) := by
  obtain ⟨dst, op, ty, pos, after, guard⟩ := o
  unfold rhsB
  dsimp only
  split
  · rename_i T n ps d
    have h1 : (ps.toList.map fun (i, x) => (i, (s.tok f).ev x)) = (ps.toList.map fun (i, x) => (i, s.ev x)).map fun p => (p.1, p.2.tok f) := by
      rw [List.map_map]
      refine List.map_congr_left fun p _ => ?_
      obtain ⟨i, x⟩ := p
      show (i, (s.tok f).ev x) = (i, (s.ev x).tok f)
      rw [tok_ev]
    have h2 : (ps.toList.all fun p => ((s.tok f).ev p.2).cells.all AV.one) = ps.toList.all fun p => (s.ev p.2).cells.all AV.one := by
      congr 1
      funext p
      rw [tok_ev, cells_one]
    have h3 : (s.tok f).t.length = s.t.length := by simp [St.tok]
    rw [h1, h2, h3]
    cases elemT P T with
    | none => rfl
    | some E =>
      simp only [Option.bind_some]
      cases kinds P E with
      | none => rfl
      | some ks =>
        simp only [Option.bind_some, partsF_tok]
        cases partsF ks (ps.toList.map fun (i, x) => (i, s.ev x)) 0 with
        | none => rfl
        | some l =>
          simp only [Option.bind_some]
          cases Nat.beq l.length n && szT P E == some ks.length && (zeroCells P E).isSome && Nat.ble (n * ks.length) 16777216 && Nat.blt 0 ks.length && Nat.blt d s.t.length && ps.toList.all (fun p => (s.ev p.2).cells.all AV.one)
          · rfl
          · show some (AV.row none E l) = some (AV.row (f none) E l)
            rw [hf]
  · rename_i src dst' x d
    rw [tok_ev]
    cases s.ev x <;> first | rfl | skip
    rename_i v
    cases v <;> first | rfl | skip
    rename_i str
    show (match P.underlying src, P.underlying dst' with
        | some .string, some (.slice E) => _
        | _, _ => _) = Option.map (AV.tok f) (match P.underlying src, P.underlying dst' with
        | some .string, some (.slice E) => _
        | _, _ => _)
    split
    · split
      · rename_i E _ _ _ _
        cases Nat.ble str.size fitsN && szT P _ == some 1
        · rfl
        · show some (AV.row none _ _) = some (AV.row (f none) _ _)
          rw [hf]
      · rfl
    · rfl
  · rfl
end
end Go.Proofs.YtckdgcpomkefpaaGreatDoor.En
end
section
set_option linter.unusedVariables false
set_option linter.unusedSimpArgs false
namespace Go.Proofs.YtckdgcpomkefpaaGreatDoor.En
open Go
section
variable {P : Program} {s s1 s2 : St} {np : Nat} {takes : FuncId → Option Nat} {call : CallF} {ops : List Oper}
structure Same (ops : List Oper) (o : Oper) (s s2 : St) : Prop where
  b : s2.b = s.b
  len : s2.t.length = s.t.length
  t : ∀ t ∈ looks ops o, s2.get t = s.get t
theorem Same.ev {o : Oper} (h : Same ops o s s2) (y : Operand) (hy : y ∈ o.op.operands.toList) : s2.ev y = s.ev y := by
  cases y with
  | tmp t => exact h.t t (by unfold looks; exact List.mem_append.2 (.inl (List.mem_filterMap.2 ⟨_, hy, rfl⟩)))
  | _ => rfl
theorem Same.wantB {o : Oper} (h : Same ops o s s2) : wantB s2 ops o.guard = wantB s ops o.guard := by
  unfold En.wantB
  cases hg : o.guard with
  | none => rfl
  | some jw =>
    obtain ⟨j, want⟩ := jw
    dsimp only
    have : yieldB s2 ops j = yieldB s ops j := by
      unfold yieldB
      cases hd : (ops[j]?).bind (·.dst) with
      | none => rfl
      | some d =>
        dsimp only
        rw [h.t d (by unfold looks; exact List.mem_append.2 (.inr (by rw [hg]; simp [tmpOf, hd])))]
    rw [this]
theorem Same.symm {o : Oper} (h : Same ops o s s2) : Same ops o s2 s := ⟨h.b.symm, h.len.symm, fun t ht => (h.t t ht).symm⟩
theorem get_put {d : Option Nat} {t : Nat} (h : d ≠ some t) (x : AV) : (s.put d x).get t = s.get t := by
  cases d with
  | none => rfl
  | some d =>
    unfold St.get St.put
    rw [List.getD_eq_getElem?_getD, List.getD_eq_getElem?_getD, List.getElem?_set, if_neg (by rintro rfl; exact h rfl)]
theorem Same.put {o : Oper} {d : Option Nat} (h : ∀ e, d = some e → e ∉ looks ops o) (x : AV) : Same ops o s (s.put d x) := by
  refine ⟨?_, ?_, fun t ht => get_put (fun e => h t e ht) x⟩
  · cases d <;> rfl
  · cases d <;> simp [St.put]
theorem wantB_tok {f : Option Nat → Option Nat} (gd : Option (Nat × Bool)) : wantB (s.tok f) ops gd = wantB s ops gd := by
  unfold wantB
  cases gd with
  | none => rfl
  | some jw =>
    obtain ⟨j, want⟩ := jw
    dsimp only
    have : yieldB (s.tok f) ops j = yieldB s ops j := by
      unfold yieldB
      cases hd : (ops[j]?).bind (·.dst) with
      | none => rfl
      | some d =>
        dsimp only
        rw [tok_get]
        cases s.get d <;> first | rfl | skip
        rename_i vs
        cases vs <;> rfl
    rw [this]
theorem put_comm {d e : Option Nat} (h : ∀ c, d = some c → e ≠ some c) (x y : AV) : (s.put d x).put e y = (s.put e y).put d x := by
  cases d with
  | none => rfl
  | some d =>
    cases e with
    | none => rfl
    | some e =>
      show (⟨(s.t.set d x).set e y, s.b⟩ : St) = ⟨(s.t.set e y).set d x, s.b⟩
      rw [List.set_comm _ _ (by rintro rfl; exact h _ rfl rfl)]
theorem tok_put {f : Option Nat → Option Nat} (d : Option Nat) (x : AV) : (s.put d x).tok f = (s.tok f).put d (x.tok f) := by
  cases d with
  | none => rfl
  | some d =>
    show (⟨(s.t.set d x).map (AV.tok f), _⟩ : St) = ⟨(s.t.map (AV.tok f)).set d (x.tok f), _⟩
    rw [List.map_set]; rfl
def wval (P : Program) (ops : List Oper) (o : Oper) (s : St) : Option AV := (wantB s ops o.guard).bind fun wn => bif wn then (bif reads P o.op then rhs P o s else rhsB P o s) else some (.tup [])
theorem stO_w {o : Oper} (h : wOp P o = true) : stO P np true takes call ops o s = (wval P ops o s).map fun x => .inl (s.put o.dst x) := by
  unfold stO wval
  cases wantB s ops o.guard with
  | none => rfl
  | some wn =>
    simp only [Option.bind_some]
    cases wn
    · rfl
    · simp only [cond_true]
      unfold stE
      simp only [evOp_def]
      unfold wOp at h
      cases hr : reads P o.op <;> rw [hr] at h
      · have : bsOp o = true := h
        rw [this]
        simp only [cond_false, Bool.and_self, cond_true]
        cases rhsB P o s <;> rfl
      · simp only [cond_true]
        cases rhs P o s <;> rfl
theorem wval_same {o : Oper} (h : Same ops o s s2) : wval P ops o s2 = wval P ops o s := by
  unfold wval
  rw [h.wantB, rhs_congr h.b h.ev, rhsB_congr h.len h.ev]
theorem wval_tok {o : Oper} {f : Option Nat → Option Nat} (hf : f none = none) : wval P ops o (s.tok f) = (wval P ops o s).map (AV.tok f) := by
  unfold wval
  rw [wantB_tok, rhs_tok hf, rhsB_tok hf]
  cases wantB s ops o.guard with
  | none => rfl
  | some wn =>
    cases wn
    · rfl
    · simp only [Option.bind_some, cond_true]
      cases reads P o.op <;> rfl
def XForm (P : Program) (np : Nat) (takes : FuncId → Option Nat) (call : CallF) (ops : List Oper) (o : Oper) (s : St) (r : St ⊕ Value) : Prop :=
  (∃ (f : Option Nat → Option Nat) (y : AV), f none = none ∧ r = .inl ((s.tok f).put o.dst y) ∧ ∀ s2, Same ops o s s2 → stO P np true takes call ops o s2 = some (.inl ((s2.tok f).put o.dst y))) ∨
  (∃ v, r = .inr v ∧ ∀ s2, Same ops o s s2 → stO P np true takes call ops o s2 = some (.inr v))
theorem argsFor_noPtr {take : Option Nat} {s : St} : ∀ (Ts : List TypeId) (xs : List AV) (i : Nat) (p : Pass), (Ts.all fun T => (ptrOf P T).isNone) = true → argsFor P take s Ts xs i = some p → ∀ l ∈ p.ls, l = none
  | [], [], i, p, _, h => by cases h; exact fun l hl => by cases hl
  | T :: Ts, x :: xs, i, p, hn, h => by
    simp only [argsFor] at h
    have h' := Option.bind_eq_some_iff.1 h
    clear h
    obtain ⟨q, hq, h⟩ := h'
    simp only [List.all_cons, Bool.and_eq_true] at hn
    have ih := argsFor_noPtr Ts xs (i + 1) q hn.2 hq
    have mk : p.ls = none :: q.ls → ∀ l ∈ p.ls, l = none := fun e l hl => by
      rw [e] at hl
      rcases List.mem_cons.1 hl with rfl | hl
      · rfl
      · exact ih l hl
    split at h
    · split at h
      · rename_i E hu
        have := hn.1
        rw [hu] at this
        cases this
      · cases h
    · rename_i t E l
      cases t with
      | some n =>
        dsimp only at h
        cases hc : (take == some i && Nat.blt n 1024) <;> rw [hc] at h <;> cases h <;> exact mk rfl
      | none => cases h; exact mk rfl
    · split at h
      · cases h; exact mk rfl
      · cases h
    · cases h; exact mk rfl
    · cases h; exact mk rfl
    · cases h
  | [], _ :: _, i, p, _, h => by simp [argsFor] at h
  | _ :: _, [], i, p, _, h => by simp [argsFor] at h
theorem backS_any : ∀ (ls : List (Option Nat)) (i : Nat) (bs : Bx) (s s' : St), (∀ l ∈ ls, l = none) → backS i ls bs s = some s' → ∀ s2, backS i ls bs s2 = some s2
  | [], i, bs, s, s', _, h => fun s2 => rfl
  | none :: ls, i, _ :: bs, s, s', hl, h => fun s2 => backS_any ls (i + 1) bs s s' (fun l hm => hl l (by simp [hm])) h s2
  | none :: ls, i, [], s, s', _, h => by cases h
  | some d :: ls, i, bs, s, s', hl, h => by have := hl (some d) (by simp); cases this
theorem kill2 (n d : Nat) : (s.kill n).kill d = s.tok (fun t => killF d (killF n t)) := tok_tok _ _
theorem assign_form (P : Program) (T : TypeId) (d : Nat) (x : AV) : ∃ (f : Option Nat → Option Nat) (y : AV), f none = none ∧ ∀ s : St, s.assign P T d x = (s.tok f).put (some d) y := by
  have plain : ∀ y : AV, ∃ (f : Option Nat → Option Nat) (z : AV), f none = none ∧ ∀ s : St, s.put (some d) y = (s.tok f).put (some d) z := fun y => ⟨id, y, rfl, fun s => by rw [tok_id (f := id) (fun t => rfl)]⟩
  unfold St.assign
  split
  · rename_i n E l
    cases n == d
    · exact ⟨fun t => renF n d (killF d t), .row (some d) E l, rfl, fun s => by
        simp only [cond_false, St.kill, tok_tok]⟩
    · exact plain _
  · split
    · rename_i E _
      exact ⟨killF d, .row (some d) E [], rfl, fun s => rfl⟩
    · exact plain _
  · exact plain _
theorem appendAV_form {Ts : Array TypeId} {xs : List AV} {d : Nat} {s' : St} (h : appendAV P Ts xs s d = some s') : ∃ (f : Option Nat → Option Nat) (y : AV), f none = none ∧ s' = (s.tok f).put (some d) y ∧ ∀ s2 : St, appendAV P Ts xs s2 d = some ((s2.tok f).put (some d) y) := by
  unfold appendAV at h ⊢
  split at h
  · rename_i n E l y
    cases hok : appOk P Ts E <;> rw [hok] at h
    · cases h
    simp only [cond_true] at h ⊢
    split at h
    · rename_i t E' m
      obtain ⟨hc, h⟩ := bif_some h
      cases h
      refine ⟨fun t => killF d (killF n t), _, rfl, by rw [kill2], fun s2 => ?_⟩
      rw [hc, kill2]; rfl
    · obtain ⟨hc, h⟩ := bif_some h
      cases h
      refine ⟨fun t => killF d (killF n t), _, rfl, by rw [kill2], fun s2 => ?_⟩
      rw [hc, kill2]; rfl
    · rename_i str
      split at h
      · obtain ⟨hc, h⟩ := bif_some h
        cases h
        refine ⟨fun t => killF d (killF n t), _, rfl, by rw [kill2], fun s2 => ?_⟩
        rw [hc, kill2]; rfl
      · cases h
    · cases h
  · split at h
    · rename_i E hE
      obtain ⟨hok, h⟩ := bif_some h
      obtain ⟨hc, h⟩ := bif_some h
      cases h
      refine ⟨killF d, _, rfl, rfl, fun s2 => ?_⟩
      rw [hok, hc]; rfl
    · cases h
  · cases h
theorem xForm {o : Oper} (hx : xOp P o = true) {r : St ⊕ Value} (h : stO P np true takes call ops o s = some r) : XForm P np takes call ops o s r := by
  unfold stO at h
  have h' := Option.bind_eq_some_iff.1 h
  clear h
  obtain ⟨wn, hw, h⟩ := h'
  cases wn
  · simp only [cond_false] at h
    cases h
    refine .inl ⟨id, .tup [], rfl, by rw [tok_id (f := id) (fun t => rfl)], fun s2 h2 => ?_⟩
    unfold stO
    rw [h2.wantB, hw, tok_id (f := id) (fun t => rfl)]
    rfl
  · simp only [cond_true] at h
    have go : ∀ s2, Same ops o s s2 → stO P np true takes call ops o s2 = stE P np true takes call o s2 := fun s2 h2 => by
      unfold stO
      rw [h2.wantB, hw]
      rfl
    obtain ⟨dst, op, ty, pos, after, guard⟩ := o
    unfold xOp at hx
    dsimp only at hx
    split at hx
    · rename_i xs Ts
      have nr : ∀ s2, stE P np true takes call ⟨dst, .call { callee := .builtin .append, args := xs, argTypes := Ts }, ty, pos, after, guard⟩ s2 =
          evX P np takes call (fun v => some (.inr v)) ⟨dst, .call { callee := .builtin .append, args := xs, argTypes := Ts }, ty, pos, after, guard⟩ s2 (fun s => some (.inl s)) := fun s2 => rfl
      rw [nr] at h
      unfold evX at h
      simp only [appendK_eq] at h
      cases dst with
      | none => cases h
      | some d =>
        dsimp only at h
        obtain ⟨hd, h⟩ := bif_some h
        obtain ⟨s', hs', h⟩ := Option.bind_eq_some_iff.1 h
        cases h
        obtain ⟨f, y, hf, rfl, hall⟩ := appendAV_form hs'
        refine .inl ⟨f, y, hf, rfl, fun s2 h2 => ?_⟩
        rw [go s2 h2, nr]
        unfold evX
        simp only [appendK_eq]
        (try dsimp only)
        rw [ev_map (s := s) (s' := s2) (fun z hz => h2.ev z (by simp [Op.operands, Call.operands]; simpa using hz)), h2.len, hd, hall s2]
        rfl
    · rename_i f xs Ts
      have nr : ∀ s2, stE P np true takes call ⟨dst, .call { callee := .value (.func f), args := xs, argTypes := Ts }, ty, pos, after, guard⟩ s2 =
          evX P np takes call (fun v => some (.inr v)) ⟨dst, .call { callee := .value (.func f), args := xs, argTypes := Ts }, ty, pos, after, guard⟩ s2 (fun s => some (.inl s)) := fun s2 => rfl
      rw [nr] at h
      unfold evX at h
      dsimp only at h
      unfold callK at h
      obtain ⟨hsz, h⟩ := bif_some h
      obtain ⟨p, hp, h⟩ := Option.bind_eq_some_iff.1 h
      obtain ⟨hd, h⟩ := bif_some h
      obtain ⟨⟨qb, q⟩, hq, h⟩ := Option.bind_eq_some_iff.1 h
      obtain ⟨hqb, h⟩ := bif_some h
      dsimp only at hqb h
      subst hqb
      have hls := argsFor_noPtr _ _ _ _ hx hp
      have run : ∀ s2, Same ops ⟨dst, .call { callee := .value (.func f), args := xs, argTypes := Ts }, ty, pos, after, guard⟩ s s2 → stE P np true takes call ⟨dst, .call { callee := .value (.func f), args := xs, argTypes := Ts }, ty, pos, after, guard⟩ s2 =
          (match q with
          | .thr v => some (.inr v)
          | .ret v bs => (backS 0 p.ls bs (s2.tok (lostF p (dstN v dst)))).bind fun s => (newTok dst v).bind fun x => some (.inl (s.put dst x))) := fun s2 h2 => by
        rw [nr]
        unfold evX
        dsimp only
        rw [ev_map (s := s) (s' := s2) (fun z hz => h2.ev z (by simp [Op.operands, Call.operands]; exact .inr (by simpa using hz)))]
        unfold callK
        rw [argsFor_congr (s := s) (s' := s2) h2.b, hsz, hp]
        simp only [cond_true, Option.bind_some, hd, hq]
        cases q <;> rfl
      cases q with
      | thr v =>
        cases h
        refine .inr ⟨v, rfl, fun s2 h2 => ?_⟩
        rw [go s2 h2, run s2 h2]
      | ret v bs =>
        dsimp only at h
        obtain ⟨s3, hb, h⟩ := Option.bind_eq_some_iff.1 h
        obtain ⟨y, hy, h⟩ := Option.bind_eq_some_iff.1 h
        cases h
        have e3 := backS_none _ _ _ _ _ hls hb
        subst e3
        refine .inl ⟨lostF p (dstN v dst), y, rfl, rfl, fun s2 h2 => ?_⟩
        rw [go s2 h2, run s2 h2]
        dsimp only
        rw [backS_any _ _ _ _ _ hls hb, hy]
        rfl
    · rename_i x
      have nr : ∀ s2, stE P np true takes call ⟨dst, .assign x, ty, pos, after, guard⟩ s2 = evX P np takes call (fun v => some (.inr v)) ⟨dst, .assign x, ty, pos, after, guard⟩ s2 (fun s => some (.inl s)) := fun s2 => rfl
      rw [nr] at h
      unfold evX at h
      cases dst with
      | none => cases h
      | some d =>
        dsimp only at h
        cases h
        obtain ⟨f, y, hf, hall⟩ := assign_form P ty d (s.ev x)
        refine .inl ⟨f, y, hf, by rw [hall], fun s2 h2 => ?_⟩
        rw [go s2 h2, nr]
        unfold evX
        dsimp only
        rw [h2.ev x (by simp [Op.operands]), hall]
    · cases hx
theorem diamond {x y : Oper} (hp : pairOk P ops x y = true) (hx : stO P np true takes call ops x s = some (.inl s1)) {r : St ⊕ Value} (hy : stO P np true takes call ops y s1 = some r) :
    (∀ s2, r = .inl s2 → ∃ s3, stO P np true takes call ops y s = some (.inl s3) ∧ stO P np true takes call ops x s3 = some (.inl s2)) ∧ (∀ v, r = .inr v → stO P np true takes call ops y s = some (.inr v)) := by
  unfold pairOk at hp
  simp only [Bool.and_eq_true, Bool.or_eq_true] at hp
  obtain ⟨ha, hk⟩ := hp
  unfold apartB at ha
  simp only [Bool.and_eq_true] at ha
  have a1 : ∀ d, x.dst = some d → d ∉ looks ops y ∧ y.dst ≠ some d := fun d hd => by
    have := ha.1
    rw [hd] at this
    simpa using this
  have a2 : ∀ d, y.dst = some d → d ∉ looks ops x := fun d hd => by
    have := ha.2
    rw [hd] at this
    simpa using this
  rcases hk with (⟨wx, wy⟩ | ⟨wx, xy⟩) | ⟨xx, wy⟩
  · rw [stO_w wx] at hx
    obtain ⟨vx, hvx, e⟩ := Option.map_eq_some_iff.1 hx
    cases e
    rw [stO_w wy, wval_same (Same.put (s := s) (fun d hd => (a1 d hd).1) vx)] at hy
    obtain ⟨vy, hvy, e⟩ := Option.map_eq_some_iff.1 hy
    subst e
    refine ⟨fun s2 e => ?_, fun v e => (by cases e)⟩
    cases e
    refine ⟨s.put y.dst vy, by rw [stO_w wy, hvy]; rfl, ?_⟩
    rw [stO_w wx, wval_same (Same.put (s := s) (fun d hd => a2 d hd) vy), hvx]
    show some (Sum.inl _) = _
    rw [put_comm (fun c hc e => (a1 c e).2 hc)]
  · rw [stO_w wx] at hx
    obtain ⟨vx, hvx, e⟩ := Option.map_eq_some_iff.1 hx
    cases e
    have hS := Same.put (s := s) (o := y) (ops := ops) (fun d hd => (a1 d hd).1) vx
    rcases xForm xy hy with ⟨f, vy, hf, rfl, hall⟩ | ⟨v, rfl, hall⟩
    · refine ⟨fun s2 e => ?_, fun v e => (by cases e)⟩
      cases e
      refine ⟨_, hall s hS.symm, ?_⟩
      rw [stO_w wx, wval_same (Same.put (s := s.tok f) (fun d hd => a2 d hd) vy), wval_tok hf, hvx]
      show some (Sum.inl _) = _
      rw [tok_put, put_comm (fun c hc e => (a1 c e).2 hc)]
    · exact ⟨fun s2 e => (by cases e), fun v' e => (by cases e; exact hall s hS.symm)⟩
  · rcases xForm xx hx with ⟨f, vx, hf, e, hall⟩ | ⟨v, e, hall⟩
    · cases e
      rw [stO_w wy, wval_same (Same.put (s := s.tok f) (fun d hd => (a1 d hd).1) vx), wval_tok hf] at hy
      obtain ⟨vy', hvy', e⟩ := Option.map_eq_some_iff.1 hy
      obtain ⟨vy, hvy, rfl⟩ := Option.map_eq_some_iff.1 hvy'
      subst e
      refine ⟨fun s2 e => ?_, fun v e => (by cases e)⟩
      cases e
      refine ⟨s.put y.dst vy, by rw [stO_w wy, hvy]; rfl, ?_⟩
      rw [hall _ (Same.put (fun d hd => a2 d hd) vy), tok_put, put_comm (fun c hc e => (a1 c e).2 hc)]
    · cases e
def boxOf : AV → Option Nat | .box d _ => some d | _ => none
theorem boxOf_tok {f : Option Nat → Option Nat} (x : AV) : boxOf (x.tok f) = boxOf x := by cases x <;> rfl
theorem backS_b : ∀ (ls : List (Option Nat)) (i : Nat) (bs : Bx) (t : List AV) (b : Bx) (s' : St), backS i ls bs ⟨t, b⟩ = some s' → ∃ b', s' = ⟨t, b'⟩ ∧ (∀ t2, backS i ls bs ⟨t2, b⟩ = some ⟨t2, b'⟩) ∧ ∀ d, some d ∉ ls → b'[d]? = b[d]?
  | [], i, bs, t, b, s', h => by cases h; exact ⟨b, rfl, fun t2 => rfl, fun d _ => rfl⟩
  | none :: ls, i, _ :: bs, t, b, s', h => by
    obtain ⟨b', e, h1, h2⟩ := backS_b ls (i + 1) bs t b s' h
    exact ⟨b', e, h1, fun d hd => h2 d fun hm => hd (by simp [hm])⟩
  | none :: ls, i, [], t, b, s', h => by cases h
  | some d :: ls, i, none :: bs, t, b, s', h => by cases h
  | some d :: ls, i, [], t, b, s', h => by cases h
  | some d :: ls, i, some cs :: bs, t, b, s', h => by
    have h' : ((b.getD d none).bind fun old => bif Nat.beq cs.length old.length then backS (i + 1) ls bs ⟨t, b.set d (some (giveL i d 0 cs))⟩ else none) = some s' := h
    obtain ⟨old, ho, h2⟩ := Option.bind_eq_some_iff.1 h'
    obtain ⟨hc, h3⟩ := bif_some h2
    obtain ⟨b', e, h4, h5⟩ := backS_b ls (i + 1) bs t _ s' h3
    refine ⟨b', e, fun t2 => ?_, fun e' he => ?_⟩
    · show ((b.getD d none).bind fun old => bif Nat.beq cs.length old.length then backS (i + 1) ls bs ⟨t2, b.set d (some (giveL i d 0 cs))⟩ else none) = _
      rw [ho, Option.bind_some, hc]
      exact h4 t2
    · rw [h5 e' fun hm => he (by simp [hm]), List.getElem?_set, if_neg (by rintro rfl; exact he (by simp))]
theorem argsFor_ls {take : Option Nat} {s : St} : ∀ (Ts : List TypeId) (xs : List AV) (i : Nat) (p : Pass), argsFor P take s Ts xs i = some p → ∀ d, some d ∈ p.ls → ∃ x ∈ xs, boxOf x = some d
  | [], [], i, p, h => by cases h; exact fun d hd => by cases hd
  | T :: Ts, x :: xs, i, p, h => by
    simp only [argsFor] at h
    have h' := Option.bind_eq_some_iff.1 h
    clear h
    obtain ⟨q, hq, h⟩ := h'
    have ih := argsFor_ls Ts xs (i + 1) q hq
    have mk : p.ls = none :: q.ls → ∀ d, some d ∈ p.ls → ∃ y ∈ x :: xs, boxOf y = some d := fun e d hd => by
      rw [e] at hd
      rcases List.mem_cons.1 hd with h0 | hd
      · cases h0
      · obtain ⟨y, hy, hb⟩ := ih d hd
        exact ⟨y, by simp [hy], hb⟩
    split at h
    · rename_i d' off
      split at h
      · obtain ⟨cs, hcs, h⟩ := Option.bind_eq_some_iff.1 h
        obtain ⟨_, h⟩ := bif_some h
        cases h
        intro d hd
        rcases List.mem_cons.1 hd with h0 | hd
        · cases h0; exact ⟨.box d' off, by simp, rfl⟩
        · obtain ⟨y, hy, hb⟩ := ih d hd
          exact ⟨y, by simp [hy], hb⟩
      · cases h
    · rename_i t E l
      cases t with
      | some n =>
        dsimp only at h
        cases hc : (take == some i && Nat.blt n 1024) <;> rw [hc] at h <;> cases h <;> exact mk rfl
      | none => cases h; exact mk rfl
    · split at h
      · cases h; exact mk rfl
      · cases h
    · cases h; exact mk rfl
    · cases h; exact mk rfl
    · cases h
  | [], _ :: _, i, p, h => by simp [argsFor] at h
  | _ :: _, [], i, p, h => by simp [argsFor] at h
theorem ptrCall_eq {o : Oper} {xs : List Operand} (h : ptrCall P o = some xs) : (∃ (f : FuncId) (ys : Array Operand) (Ts : Array TypeId), o.op = .call { callee := .value (.func f), args := ys, argTypes := Ts } ∧ xs = ys.toList) ∨ ∃ (T : TypeId) (a x : Operand), o.op = .store T a x ∧ xs = [a] := by
  obtain ⟨dst, op, ty, pos, after, guard⟩ := o
  unfold ptrCall at h
  dsimp only at h
  split at h
  · rename_i f ys Ts
    cases hn : noPtr P f Ts <;> rw [hn] at h <;> cases h
    exact .inl ⟨f, ys, Ts, rfl, rfl⟩
  · cases h
    exact .inr ⟨_, _, _, rfl, rfl⟩
  · cases h
theorem ptr_looks {o : Oper} {xs : List Operand} (h : ptrCall P o = some xs) {z : Operand} (hz : z ∈ xs) {t : Nat} (e : z = .tmp t) : t ∈ looks ops o := by
  unfold looks
  refine List.mem_append.2 (.inl (List.mem_filterMap.2 ⟨z, ?_, by rw [e]⟩))
  rcases ptrCall_eq h with ⟨f, ys, Ts, h1, rfl⟩ | ⟨T, a, x, h1, rfl⟩
  · rw [h1]
    simp [Op.operands, Call.operands]
    exact .inr (by simpa using hz)
  · rw [h1]
    simp at hz
    subst hz
    simp [Op.operands]
theorem ptr_load {o : Oper} {xs : List Operand} (h : ptrCall P o = some xs) : loadOf o = none := by
  unfold loadOf
  rcases ptrCall_eq h with ⟨f, ys, Ts, h1, rfl⟩ | ⟨T, a, x, h1, rfl⟩ <;> rw [h1]
theorem tokl_id (t : List AV) : t.map (AV.tok id) = t := congrArg St.t (tok_id (s := ⟨t, []⟩) (f := id) (fun t => rfl))
theorem storeAV_form {T : TypeId} {d off : Nat} {x : AV} {s' : St} (h : storeAV P s T (.box d off) x = some s') : ∃ (f : Option Nat → Option Nat) (b' : Bx), f none = none ∧ s' = ⟨s.t.map (AV.tok f), b'⟩ ∧ (∀ t2, storeAV P ⟨t2, s.b⟩ T (.box d off) x = some ⟨t2.map (AV.tok f), b'⟩) ∧ ∀ e, e ≠ d → b'[e]? = (s.tok f).b[e]? := by
  unfold storeAV at h ⊢
  dsimp only at h ⊢
  obtain ⟨cs, h1, h2⟩ := Option.bind_eq_some_iff.1 h
  obtain ⟨ks, h3, h4⟩ := Option.bind_eq_some_iff.1 h2
  obtain ⟨n, h5, h6⟩ := Option.bind_eq_some_iff.1 h4
  obtain ⟨h7, h8⟩ := bif_some h6
  clear h h2 h4 h6
  have hbx : ∀ t2, (⟨t2, s.b⟩ : St).boxAt d = some cs := fun t2 => h1
  simp only [hbx, h3, h5, h7, Option.bind_some, cond_true]
  have setb : ∀ (b : Bx) (c : List AV) e, e ≠ d → (b.set d (some c))[e]? = b[e]? := fun b c e he => by
    rw [List.getElem?_set, if_neg (fun h => he h.symm)]
  split at h8
  · rename_i m E l
    cases hm : (m == sub d off)
    · rw [hm] at h8
      simp only [cond_false] at h8 ⊢
      obtain ⟨c2, e1, e2⟩ := Option.map_eq_some_iff.1 h8
      have et : ∀ t2, (((⟨t2, s.b⟩ : St).kill (sub d off)).tok (renF m (sub d off))) = ⟨t2.map (AV.tok fun z => renF m (sub d off) (killF (sub d off) z)), (s.tok fun z => renF m (sub d off) (killF (sub d off) z)).b⟩ := fun t2 => tok_tok _ _
      refine ⟨fun z => renF m (sub d off) (killF (sub d off) z), ((s.tok fun z => renF m (sub d off) (killF (sub d off) z)).b).set d (some (c2.set off (.row (some (sub d off)) E l))), rfl, ?_, fun t2 => ?_, fun e he => setb _ _ e he⟩
      · rw [← e2]
        have := et s.t
        have es : (⟨s.t, s.b⟩ : St) = s := rfl
        rw [es] at this
        rw [this]; rfl
      · have hb2 : (((⟨t2, s.b⟩ : St).kill (sub d off)).tok (renF m (sub d off))).boxAt d = some c2 := by
          rw [et t2]
          have := et s.t
          have es : (⟨s.t, s.b⟩ : St) = s := rfl
          rw [es] at this
          rw [this] at e1
          exact e1
        rw [hb2, Option.map_some, et t2]; rfl
    · rw [hm] at h8
      simp only [cond_true] at h8 ⊢
      cases h8
      refine ⟨id, s.b.set d (some (cs.set off (.row (some m) E l))), rfl, by rw [tokl_id]; rfl, fun t2 => by rw [tokl_id]; rfl, fun e he => ?_⟩
      rw [setb _ _ e he, tok_id (f := id) (fun t => rfl)]
  · rename_i hne
    obtain ⟨c2, e1, e2⟩ := Option.map_eq_some_iff.1 h8
    refine ⟨moveF d off (off + n) (uniqT [] x.cells), ((s.tok (moveF d off (off + n) (uniqT [] x.cells))).b).set d (some (c2.take off ++ (intoL d off (uniqT [] x.cells) (cellsAt none d off ks x.cells) ++ c2.drop (off + n)))), rfl, e2.symm, fun t2 => ?_, fun e he => setb _ _ e he⟩
    have hb2 : ((⟨t2, s.b⟩ : St).tok (moveF d off (off + n) (uniqT [] x.cells))).boxAt d = some c2 := e1
    rw [hb2]; rfl
def PForm (P : Program) (np : Nat) (takes : FuncId → Option Nat) (call : CallF) (ops : List Oper) (o : Oper) (xs : List Operand) (s : St) (r : St ⊕ Value) : Prop :=
  (∃ (f : Option Nat → Option Nat) (y : AV) (b' : Bx), f none = none ∧ r = .inl ((⟨s.t.map (AV.tok f), b'⟩ : St).put o.dst y) ∧ (∀ s2, Same ops o s s2 → stO P np true takes call ops o s2 = some (.inl ((⟨s2.t.map (AV.tok f), b'⟩ : St).put o.dst y))) ∧
    ∀ d, (∀ x ∈ xs, boxOf (s.ev x) ≠ some d) → b'[d]? = (s.tok f).b[d]?) ∨
  (∃ v, r = .inr v ∧ ∀ s2, Same ops o s s2 → stO P np true takes call ops o s2 = some (.inr v))
theorem pForm {o : Oper} {xs : List Operand} (hx : ptrCall P o = some xs) {r : St ⊕ Value} (h : stO P np true takes call ops o s = some r) : PForm P np takes call ops o xs s r := by
  rcases ptrCall_eq hx with ⟨fid, ys, Ts, hop, rfl⟩ | ⟨T, a, x, hop, rfl⟩
  case inr =>
    obtain ⟨dst, op, ty, pos, after, guard⟩ := o
    dsimp only at hop
    subst hop
    unfold stO at h
    obtain ⟨wn, hw, h⟩ := Option.bind_eq_some_iff.1 h
    have idb : ∀ s2 : St, Same ops ⟨dst, .store T a x, ty, pos, after, guard⟩ s s2 → (⟨s2.t.map (AV.tok id), (s.tok id).b⟩ : St) = s2 := fun s2 h2 => by
      have : (s.tok id).b = (s2.tok id).b := by unfold St.tok; rw [h2.b]
      rw [this]
      exact tok_id (s := s2) (f := id) (fun t => rfl)
    cases wn
    · simp only [cond_false] at h
      cases h
      refine .inl ⟨id, .tup [], (s.tok id).b, rfl, ?_, fun s2 h2 => ?_, fun d _ => rfl⟩
      · show Sum.inl (s.put dst (.tup [])) = Sum.inl ((s.tok id).put dst (.tup []))
        rw [tok_id (f := id) (fun t => rfl)]
      · unfold stO
        rw [h2.wantB, hw, idb s2 h2]
        rfl
    · simp only [cond_true] at h
      have go : ∀ s2, Same ops ⟨dst, .store T a x, ty, pos, after, guard⟩ s s2 → stO P np true takes call ops ⟨dst, .store T a x, ty, pos, after, guard⟩ s2 = stE P np true takes call ⟨dst, .store T a x, ty, pos, after, guard⟩ s2 := fun s2 h2 => by
        unfold stO
        rw [h2.wantB, hw]
        rfl
      have nr : ∀ s2, stE P np true takes call ⟨dst, .store T a x, ty, pos, after, guard⟩ s2 = evX P np takes call (fun v => some (.inr v)) ⟨dst, .store T a x, ty, pos, after, guard⟩ s2 (fun s => some (.inl s)) := fun s2 => rfl
      rw [nr] at h
      unfold evX at h
      dsimp only at h
      cases dst with
      | some d => cases h
      | none =>
        dsimp only at h
        obtain ⟨s', hs, h⟩ := Option.bind_eq_some_iff.1 h
        cases h
        cases ha : s.ev a <;> first | (rw [ha] at hs; unfold storeAV at hs; cases hs; done) | skip
        rename_i d off
        rw [ha] at hs
        obtain ⟨f, b', hf, rfl, hall, hoth⟩ := storeAV_form hs
        refine .inl ⟨f, .dead, b', hf, rfl, fun s2 h2 => ?_, fun e he => hoth e fun hde => he a (by simp) (by rw [ha, hde]; rfl)⟩
        rw [go s2 h2, nr]
        unfold evX
        dsimp only
        have ea : s2.ev a = .box d off := by rw [h2.ev a (by simp [Op.operands]), ha]
        have ex : s2.ev x = s.ev x := h2.ev x (by simp [Op.operands])
        have es : s2 = ⟨s2.t, s.b⟩ := by rw [← h2.b]
        rw [ea, ex]
        have h3 := hall s2.t
        rw [← es] at h3
        rw [h3]
        rfl
  case inl =>
  obtain ⟨dst, op, ty, pos, after, guard⟩ := o
  dsimp only at hop
  subst hop
  unfold stO at h
  have h' := Option.bind_eq_some_iff.1 h
  clear h
  obtain ⟨wn, hw, h⟩ := h'
  cases wn
  · simp only [cond_false] at h
    cases h
    refine .inl ⟨id, .tup [], (s.tok id).b, rfl, ?_, fun s2 h2 => ?_, fun d _ => rfl⟩
    · show Sum.inl (s.put dst (.tup [])) = Sum.inl ((s.tok id).put dst (.tup []))
      rw [tok_id (f := id) (fun t => rfl)]
    · unfold stO
      rw [h2.wantB, hw]
      have e : (⟨s2.t.map (AV.tok id), (s.tok id).b⟩ : St) = s2 := by
        have : (s.tok id).b = (s2.tok id).b := by unfold St.tok; rw [h2.b]
        rw [this]
        exact tok_id (s := s2) (f := id) (fun t => rfl)
      rw [e]
      rfl
  · simp only [cond_true] at h
    have go : ∀ s2, Same ops ⟨dst, .call { callee := .value (.func fid), args := ys, argTypes := Ts }, ty, pos, after, guard⟩ s s2 → stO P np true takes call ops ⟨dst, .call { callee := .value (.func fid), args := ys, argTypes := Ts }, ty, pos, after, guard⟩ s2 = stE P np true takes call ⟨dst, .call { callee := .value (.func fid), args := ys, argTypes := Ts }, ty, pos, after, guard⟩ s2 := fun s2 h2 => by
      unfold stO
      rw [h2.wantB, hw]
      rfl
    have nr : ∀ s2, stE P np true takes call ⟨dst, .call { callee := .value (.func fid), args := ys, argTypes := Ts }, ty, pos, after, guard⟩ s2 =
        evX P np takes call (fun v => some (.inr v)) ⟨dst, .call { callee := .value (.func fid), args := ys, argTypes := Ts }, ty, pos, after, guard⟩ s2 (fun s => some (.inl s)) := fun s2 => rfl
    rw [nr] at h
    unfold evX at h
    dsimp only at h
    unfold callK at h
    obtain ⟨hsz, h⟩ := bif_some h
    obtain ⟨p, hp, h⟩ := Option.bind_eq_some_iff.1 h
    obtain ⟨hd, h⟩ := bif_some h
    obtain ⟨⟨qb, q⟩, hq, h⟩ := Option.bind_eq_some_iff.1 h
    obtain ⟨hqb, h⟩ := bif_some h
    dsimp only at hqb h
    subst hqb
    have hls := argsFor_ls _ _ _ _ hp
    have run : ∀ s2, Same ops ⟨dst, .call { callee := .value (.func fid), args := ys, argTypes := Ts }, ty, pos, after, guard⟩ s s2 → stE P np true takes call ⟨dst, .call { callee := .value (.func fid), args := ys, argTypes := Ts }, ty, pos, after, guard⟩ s2 =
        (match q with
        | .thr v => some (.inr v)
        | .ret v bs => (backS 0 p.ls bs (s2.tok (lostF p (dstN v dst)))).bind fun s => (newTok dst v).bind fun x => some (.inl (s.put dst x))) := fun s2 h2 => by
      rw [nr]
      unfold evX
      dsimp only
      rw [ev_map (s := s) (s' := s2) (fun z hz => h2.ev z (by simp [Op.operands, Call.operands]; exact .inr (by simpa using hz)))]
      unfold callK
      rw [argsFor_congr (s := s) (s' := s2) h2.b, hsz, hp]
      simp only [cond_true, Option.bind_some, hd, hq]
      cases q <;> rfl
    cases q with
    | thr v =>
      cases h
      refine .inr ⟨v, rfl, fun s2 h2 => ?_⟩
      rw [go s2 h2, run s2 h2]
    | ret v bs =>
      dsimp only at h
      obtain ⟨s3, hb, h⟩ := Option.bind_eq_some_iff.1 h
      obtain ⟨y, hy, h⟩ := Option.bind_eq_some_iff.1 h
      cases h
      obtain ⟨b', rfl, hall, hoth⟩ := backS_b _ _ _ _ _ _ hb
      refine .inl ⟨lostF p (dstN v dst), y, b', rfl, rfl, fun s2 h2 => ?_, fun d hd => hoth d fun hm => ?_⟩
      · rw [go s2 h2, run s2 h2]
        dsimp only
        have : s2.tok (lostF p (dstN v dst)) = ⟨s2.t.map (AV.tok (lostF p (dstN v dst))), (s.tok (lostF p (dstN v dst))).b⟩ := by
          unfold St.tok; rw [h2.b]
        rw [this]
        have h3 := hall (s2.t.map (AV.tok (lostF p (dstN v dst))))
        have h4 : backS 0 p.ls bs ⟨s2.t.map (AV.tok (lostF p (dstN v dst))), (s.tok (lostF p (dstN v dst))).b⟩ = some ⟨s2.t.map (AV.tok (lostF p (dstN v dst))), b'⟩ := h3
        rw [h4, Option.bind_some, hy]
        rfl
      · obtain ⟨x, hx, hxb⟩ := hls d hm
        obtain ⟨z, hz, rfl⟩ := List.mem_map.1 hx
        exact hd z hz hxb
theorem ev_put {d : Option Nat} {y : Operand} (h : ∀ t, y = .tmp t → d ≠ some t) (x : AV) : (s.put d x).ev y = s.ev y := by
  cases y with
  | tmp t => exact get_put (h t rfl) x
  | _ => rfl
theorem looks_of {o : Oper} {t : Nat} (h : Operand.tmp t ∈ o.op.operands.toList) : t ∈ looks ops o := by
  unfold looks
  exact List.mem_append.2 (.inl (List.mem_filterMap.2 ⟨_, h, rfl⟩))
theorem wval_back {x : Oper} (hw : wOp P x = true) {f : Option Nat → Option Nat} (hf : f none = none) {d : Option Nat} (hd : ∀ e, d = some e → e ∉ looks ops x) (y : AV) {b' : Bx} (hb : ∀ a, loadOf x = some a → ∀ e, boxOf (s.ev a) = some e → b'[e]? = (s.tok f).b[e]?) :
    wval P ops x ((⟨s.t.map (AV.tok f), b'⟩ : St).put d y) = (wval P ops x s).map (AV.tok f) := by
  have h4 : wval P ops x ((s.tok f).put d y) = (wval P ops x s).map (AV.tok f) := by
    rw [wval_same (Same.put (s := s.tok f) hd y), wval_tok hf]
  rw [← h4]
  have et : ((⟨s.t.map (AV.tok f), b'⟩ : St).put d y).t = ((s.tok f).put d y).t := by cases d <;> rfl
  have eg : ∀ t, ((⟨s.t.map (AV.tok f), b'⟩ : St).put d y).get t = ((s.tok f).put d y).get t := fun t => by unfold St.get; rw [et]
  have ee : ∀ z, ((⟨s.t.map (AV.tok f), b'⟩ : St).put d y).ev z = ((s.tok f).put d y).ev z := fun z => by cases z <;> first | exact eg _ | rfl
  have ew : wantB ((⟨s.t.map (AV.tok f), b'⟩ : St).put d y) ops x.guard = wantB ((s.tok f).put d y) ops x.guard := by
    unfold wantB
    cases x.guard with
    | none => rfl
    | some jw =>
      obtain ⟨j, want⟩ := jw
      dsimp only
      have : yieldB ((⟨s.t.map (AV.tok f), b'⟩ : St).put d y) ops j = yieldB ((s.tok f).put d y) ops j := by
        unfold yieldB
        cases hd : (ops[j]?).bind (·.dst) with
        | none => rfl
        | some e => dsimp only; rw [eg]
      rw [this]
  have er : rhs P x ((⟨s.t.map (AV.tok f), b'⟩ : St).put d y) = rhs P x ((s.tok f).put d y) := by
    refine rhs_congr' (fun T a e => ?_) fun z _ => ee z
    have hl : loadOf x = some a := by unfold loadOf; rw [e]
    rw [ee]
    have hva : ((s.tok f).put d y).ev a = (s.ev a).tok f := by
      rw [ev_put (fun t et hdt => hd t hdt (looks_of (by subst et; rw [e]; simp [Op.operands]))), tok_ev]
    cases hq : ((s.tok f).put d y).ev a <;> first | rfl | skip
    rename_i e' off
    have hbx : boxOf (s.ev a) = some e' := by
      rw [← boxOf_tok (f := f), ← hva, hq]; rfl
    show ((St.put _ d y).boxAt e').map _ = (((s.tok f).put d y).boxAt e').map _
    congr 1
    have e1 : (St.put (⟨s.t.map (AV.tok f), b'⟩ : St) d y).b = b' := by cases d <;> rfl
    have e2 : ((s.tok f).put d y).b = (s.tok f).b := by cases d <;> rfl
    unfold St.boxAt
    rw [e1, e2, List.getD_eq_getElem?_getD, List.getD_eq_getElem?_getD, hb a hl e' hbx]
  have eB : rhsB P x ((⟨s.t.map (AV.tok f), b'⟩ : St).put d y) = rhsB P x ((s.tok f).put d y) := rhsB_congr (by rw [et]) fun z _ => ee z
  unfold wval
  rw [ew, er, eB]
def Far (s : St) (p : Operand × List Operand) : Prop := ∀ d, boxOf (s.ev p.1) = some d → ∀ x ∈ p.2, boxOf (s.ev x) ≠ some d
theorem far_of {s : St} {p : Operand × List Operand} (h : aparts s p = true) : Far s p := by
  intro d hd
  unfold aparts at h
  have key : ∀ xs, farFrom s d xs = true → ∀ x ∈ xs, boxOf (s.ev x) ≠ some d := fun xs => by
    induction xs with
    | nil => intro _ x hx; cases hx
    | cons x xs ih =>
      intro h y hy
      unfold farFrom at h
      rw [Bool.and_eq_true] at h
      rcases List.mem_cons.1 hy with rfl | hy
      · intro e
        have h1 := h.1
        cases hq : s.ev y <;> rw [hq] at e h1 <;> cases e
        simp at h1
      · exact ih h.2 y hy
  cases hq : s.ev p.1 <;> rw [hq] at hd h <;> cases hd
  exact key _ h
theorem wOp_load {x : Oper} {a : Operand} (hx : loadOf x = some a) : wOp P x = true := by
  obtain ⟨dst, op, ty, pos, after, guard⟩ := x
  unfold loadOf at hx
  dsimp only at hx
  split at hx
  · rfl
  · cases hx
theorem diamond_wp {x y : Oper} {xs : List Operand} (hx1 : wOp P x = true) (hy1 : ptrCall P y = some xs) (ha : apartB ops x y = true) {r : St ⊕ Value} (hfar : ∀ s2, r = .inl s2 → ∀ a, loadOf x = some a → Far s (a, xs)) (hx : stO P np true takes call ops x s = some (.inl s1)) (hy : stO P np true takes call ops y s1 = some r) :
    (∀ s2, r = .inl s2 → ∃ s3, stO P np true takes call ops y s = some (.inl s3) ∧ stO P np true takes call ops x s3 = some (.inl s2)) ∧ (∀ v, r = .inr v → stO P np true takes call ops y s = some (.inr v)) := by
  unfold apartB at ha
  simp only [Bool.and_eq_true] at ha
  have a1 : ∀ d, x.dst = some d → d ∉ looks ops y ∧ y.dst ≠ some d := fun d hd => by
    have := ha.1
    rw [hd] at this
    simpa using this
  have a2 : ∀ d, y.dst = some d → d ∉ looks ops x := fun d hd => by
    have := ha.2
    rw [hd] at this
    simpa using this
  rw [stO_w hx1] at hx
  obtain ⟨vx, hvx, e⟩ := Option.map_eq_some_iff.1 hx
  cases e
  have hS := Same.put (s := s) (o := y) (ops := ops) (fun d hd => (a1 d hd).1) vx
  have hev : ∀ z ∈ xs, (s.put x.dst vx).ev z = s.ev z := fun z hz => ev_put (fun t e hdt => (a1 t hdt).1 (ptr_looks hy1 hz e)) vx
  rcases pForm hy1 hy with ⟨f, vy, b', hf, rfl, hall, hoth⟩ | ⟨v, rfl, hall⟩
  · refine ⟨fun s2 e => ?_, fun v e => (by cases e)⟩
    cases e
    refine ⟨_, hall s hS.symm, ?_⟩
    rw [stO_w hx1, wval_back hx1 hf (fun d hd => a2 d hd) vy (fun a hl e he => ?_), hvx]
    · show some (Sum.inl _) = _
      have e1 : (⟨(s.put x.dst vx).t.map (AV.tok f), b'⟩ : St) = (⟨s.t.map (AV.tok f), b'⟩ : St).put x.dst (vx.tok f) := by
        cases x.dst with
        | none => rfl
        | some d =>
          show (⟨(s.t.set d vx).map (AV.tok f), b'⟩ : St) = ⟨(s.t.map (AV.tok f)).set d (vx.tok f), b'⟩
          rw [List.map_set]
      rw [e1, put_comm (fun c hc e => (a1 c e).2 hc)]
    · have h1 := hoth e (fun z hz => by rw [hev z hz]; exact hfar _ rfl a hl e he z hz)
      rw [h1]
      have : ((s.put x.dst vx).tok f).b = (s.tok f).b := by
        unfold St.tok St.put
        cases x.dst <;> rfl
      rw [this]
  · exact ⟨fun s2 e => (by cases e), fun v' e => (by cases e; exact hall s hS.symm)⟩
theorem diamond_pw {x y : Oper} {xs : List Operand} (hx1 : ptrCall P x = some xs) (hy1 : wOp P y = true) (ha : apartB ops x y = true) {r : St ⊕ Value} (hfar : ∀ s2, r = .inl s2 → ∀ a, loadOf y = some a → Far s (a, xs)) (hx : stO P np true takes call ops x s = some (.inl s1)) (hy : stO P np true takes call ops y s1 = some r) :
    (∀ s2, r = .inl s2 → ∃ s3, stO P np true takes call ops y s = some (.inl s3) ∧ stO P np true takes call ops x s3 = some (.inl s2)) ∧ (∀ v, r = .inr v → stO P np true takes call ops y s = some (.inr v)) := by
  unfold apartB at ha
  simp only [Bool.and_eq_true] at ha
  have a1 : ∀ d, x.dst = some d → d ∉ looks ops y ∧ y.dst ≠ some d := fun d hd => by
    have := ha.1
    rw [hd] at this
    simpa using this
  have a2 : ∀ d, y.dst = some d → d ∉ looks ops x := fun d hd => by
    have := ha.2
    rw [hd] at this
    simpa using this
  rcases pForm hx1 hx with ⟨f, vx, b', hf, e, hall, hoth⟩ | ⟨v, e, hall⟩
  · cases e
    rw [stO_w hy1] at hy
    obtain ⟨vy', hvy', e⟩ := Option.map_eq_some_iff.1 hy
    subst e
    rw [wval_back hy1 hf (fun d hd => (a1 d hd).1) vx (fun a hl e he => hoth e fun z hz => hfar _ rfl a hl e he z hz)] at hvy'
    obtain ⟨vy, hvy, rfl⟩ := Option.map_eq_some_iff.1 hvy'
    refine ⟨fun s2 e => ?_, fun v e => (by cases e)⟩
    cases e
    refine ⟨s.put y.dst vy, by rw [stO_w hy1, hvy]; rfl, ?_⟩
    rw [hall _ (Same.put (fun d hd => a2 d hd) vy)]
    have e1 : (⟨(s.put y.dst vy).t.map (AV.tok f), b'⟩ : St) = (⟨s.t.map (AV.tok f), b'⟩ : St).put y.dst (vy.tok f) := by
      cases y.dst with
      | none => rfl
      | some d =>
        show (⟨(s.t.set d vy).map (AV.tok f), b'⟩ : St) = ⟨(s.t.map (AV.tok f)).set d (vy.tok f), b'⟩
        rw [List.map_set]
    rw [e1, put_comm (fun c hc e => (a1 c e).2 hc)]
  · cases e
theorem storeAV_t {T : TypeId} {a x : AV} {s' : St} (h : storeAV P s T a x = some s') : ∃ f, s'.t = s.t.map (AV.tok f) := by
  unfold storeAV at h
  split at h
  · rename_i d off
    have h1 := Option.bind_eq_some_iff.1 h
    clear h
    obtain ⟨cs, _, h⟩ := h1
    have h1 := Option.bind_eq_some_iff.1 h
    clear h
    obtain ⟨ks, _, h⟩ := h1
    have h1 := Option.bind_eq_some_iff.1 h
    clear h
    obtain ⟨n, _, h⟩ := h1
    have h1 := bif_some h
    clear h
    obtain ⟨hcc, h⟩ := h1
    have ident : s.t = s.t.map (AV.tok id) := (congrArg St.t (tok_id (s := s) (f := id) (fun t => rfl))).symm
    split at h
    · rename_i m E l
      cases hm : m == sub d off <;> rw [hm] at h <;> simp only [cond_true, cond_false] at h
      · obtain ⟨c2, _, e⟩ := Option.map_eq_some_iff.1 h
        cases e
        refine ⟨_, congrArg St.t (tok_tok (s := s) (killF (sub d off)) (renF m (sub d off)))⟩
      · cases h
        exact ⟨id, ident⟩
    · obtain ⟨c2, _, e⟩ := Option.map_eq_some_iff.1 h
      cases e
      exact ⟨_, rfl⟩
  · cases h
theorem boxOf_keep {o : Oper} (ho : (wOp P o || xOp P o || (ptrCall P o).isSome || isStore o) = true) (h : stO P np true takes call ops o s = some (.inl s1)) {z : Operand} (hz : ∀ t, z = .tmp t → o.dst ≠ some t) : boxOf (s1.ev z) = boxOf (s.ev z) := by
  rw [Bool.or_eq_true, Bool.or_eq_true, Bool.or_eq_true] at ho
  rcases ho with ((hw | hx) | hp) | hst
  · rw [stO_w hw] at h
    obtain ⟨v, _, e⟩ := Option.map_eq_some_iff.1 h
    cases e
    rw [ev_put hz]
  · rcases xForm hx h with ⟨f, y, hf, e, _⟩ | ⟨v, e, _⟩
    · cases e
      rw [ev_put hz, tok_ev, boxOf_tok]
    · cases e
  · obtain ⟨xs, hxs⟩ := Option.isSome_iff_exists.1 hp
    rcases pForm hxs h with ⟨f, y, b', hf, e, _⟩ | ⟨v, e, _⟩
    · cases e
      rw [ev_put hz]
      have : (⟨s.t.map (AV.tok f), b'⟩ : St).ev z = (s.tok f).ev z := by cases z <;> rfl
      rw [this, tok_ev, boxOf_tok]
    · cases e
  · obtain ⟨dst, op, ty, pos, after, guard⟩ := o
    obtain ⟨T, a, x, rfl⟩ : ∃ T a x, op = .store T a x := by
      unfold isStore at hst
      dsimp only at hst
      split at hst
      · exact ⟨_, _, _, rfl⟩
      · cases hst
    unfold stO at h
    obtain ⟨wn, hw, h⟩ := Option.bind_eq_some_iff.1 h
    cases wn
    · simp only [cond_false] at h
      cases h
      exact congrArg boxOf (ev_put hz _)
    · simp only [cond_true] at h
      have nr : stE P np true takes call ⟨dst, .store T a x, ty, pos, after, guard⟩ s = evX P np takes call (fun v => some (.inr v)) ⟨dst, .store T a x, ty, pos, after, guard⟩ s (fun s => some (.inl s)) := rfl
      rw [nr] at h
      unfold evX at h
      dsimp only at h
      cases dst with
      | some d => cases h
      | none =>
        dsimp only at h
        obtain ⟨s', hs, h⟩ := Option.bind_eq_some_iff.1 h
        cases h
        obtain ⟨f, ht⟩ := storeAV_t hs
        have : s1.ev z = (s.tok f).ev z := by
          cases z with
          | tmp t => show s1.t.getD t .dead = (s.t.map (AV.tok f)).getD t .dead; rw [ht]
          | _ => rfl
        rw [this, tok_ev, boxOf_tok]
end
end Go.Proofs.YtckdgcpomkefpaaGreatDoor.En
end
section
set_option linter.unusedVariables false
set_option linter.unusedSimpArgs false
namespace Go.Proofs.YtckdgcpomkefpaaGreatDoor.En
open Go
def drawnOk (P : Program) (ops : List Oper) : Bool :=
  let ms := masks ops []
  (List.range ops.length).all fun j => match ops[j]? with
    | some y => y.after.toList.all (fun e => !Region.binds .any e || Nat.blt e.on j) &&
        (List.range j).all fun i => (ms.getD j 0).testBit i || (match ops[i]? with | some x => pairOk P ops x y || pairDyn P ops i j x y | none => true)
    | none => true
section
variable {P : Program} {F : Fx} {np : Nat} {takes : FuncId → Option Nat} {call : CallF} {ops : List Oper}
theorem masks_spec : ∀ (l : List Oper) (ms : List Nat), ∃ ext, masks l ms = ms ++ ext ∧ ext.length = l.length ∧ ∀ (k : Nat) o, l[k]? = some o → (masks l ms)[ms.length + k]? = some (maskOf o ((masks l ms).take (ms.length + k)))
  | [], ms => ⟨[], by simp [masks], rfl, fun k o h => by simp at h⟩
  | o :: l, ms => by
    obtain ⟨ext, h1, h2, h3⟩ := masks_spec l (ms ++ [maskOf o ms])
    have he : masks (o :: l) ms = ms ++ (maskOf o ms :: ext) := by
      show masks l (ms ++ [maskOf o ms]) = _
      rw [h1]; simp
    refine ⟨maskOf o ms :: ext, he, by simp [h2], fun k o' hk => ?_⟩
    cases k with
    | zero =>
      simp at hk
      subst hk
      rw [he]
      simp
    | succ k =>
      have := h3 k o' (by simpa using hk)
      rw [show (ms ++ [maskOf o ms]).length + k = ms.length + (k + 1) by simp; omega] at this
      exact this
theorem mask_bits {o : Oper} {ms : List Nat} {i : Nat} (h : (maskOf o ms).testBit i = true) : ∃ e ∈ o.after.toList, Region.binds .any e = true ∧ (i = e.on ∨ (ms.getD e.on 0).testBit i = true) := by
  unfold maskOf at h
  have gen : ∀ (l : List Edge) (m : Nat), (l.foldl (fun m e => bif Region.binds .any e then m ||| (2 ^ e.on ||| ms.getD e.on 0) else m) m).testBit i = true →
      m.testBit i = true ∨ ∃ e ∈ l, Region.binds .any e = true ∧ (i = e.on ∨ (ms.getD e.on 0).testBit i = true) := by
    intro l
    induction l with
    | nil => intro m h; exact .inl h
    | cons e l ih =>
      intro m h
      rw [List.foldl_cons] at h
      rcases ih _ h with h1 | ⟨e', he', h2⟩
      · cases hb : Region.binds .any e <;> rw [hb] at h1 <;> simp only [cond_true, cond_false] at h1
        · exact .inl h1
        · rw [Nat.testBit_or, Nat.testBit_or, Bool.or_eq_true, Bool.or_eq_true] at h1
          rcases h1 with h1 | h1 | h1
          · exact .inl h1
          · rw [Nat.testBit_two_pow] at h1
            exact .inr ⟨e, by simp, hb, .inl (show e.on = i by simpa using h1).symm⟩
          · exact .inr ⟨e, by simp, hb, .inr h1⟩
      · exact .inr ⟨e', by simp [he'], h2⟩
  rcases gen _ 0 h with h1 | h1
  · simp at h1
  · exact h1
def Closed (ops : List Oper) (listed : Array Bool) : Prop := ∀ (k : Nat) o, ops[k]? = some o → listed.getD k false = true → ∀ e ∈ o.after.toList, Region.binds .any e = true → listed.getD e.on false = true
theorem waits_listed {listed : Array Bool} (hs : ∀ (j : Nat) o, ops[j]? = some o → ∀ e ∈ o.after.toList, Region.binds .any e = true → e.on < j) (hc : Closed ops listed) :
    ∀ (j : Nat) o, ops[j]? = some o → (∀ e ∈ o.after.toList, Region.binds .any e = true → listed.getD e.on false = true) → ∀ i, ((masks ops []).getD j 0).testBit i = true → listed.getD i false = true := by
  intro j
  induction j using Nat.strongRecOn with
  | _ j ih =>
    intro o ho hd i hi
    obtain ⟨ext, h1, h2, h3⟩ := masks_spec ops []
    have hj := h3 j o ho
    rw [List.length_nil, Nat.zero_add] at hj
    rw [List.getD_eq_getElem?_getD, hj, Option.getD_some] at hi
    obtain ⟨e, he, hb, hi⟩ := mask_bits hi
    rcases hi with rfl | hi
    · exact hd e he hb
    · have hlt := hs j o ho e he hb
      have hjl := (List.getElem?_eq_some_iff.1 ho).1
      obtain ⟨o', ho'⟩ : ∃ o', ops[e.on]? = some o' := ⟨_, List.getElem?_eq_getElem (by omega)⟩
      refine ih e.on hlt o' ho' (fun e' he' hb' => hc e.on o' ho' (hd e he hb) e' he' hb') i ?_
      rw [List.getD_eq_getElem?_getD, List.getElem?_take, if_pos hlt] at hi
      rw [List.getD_eq_getElem?_getD]
      exact hi
def stI (P : Program) (np : Nat) (takes : FuncId → Option Nat) (call : CallF) (ops : List Oper) (i : Nat) (s : St) : Option (St ⊕ Value) := match ops[i]? with | some o => stO P np true takes call ops o s | none => some (.inl s)
def runI (P : Program) (np : Nat) (takes : FuncId → Option Nat) (call : CallF) (ops : List Oper) : List Nat → St → Option (St ⊕ Value)
  | [], s => some (.inl s)
  | i :: l, s => thenR (stI P np takes call ops i s) (runI P np takes call ops l)
theorem runI_range : ∀ (l : List Oper) (k : Nat) (s : St), (∀ j, j < l.length → l[j]? = ops[k + j]?) → runI P np takes call ops (List.range' k l.length) s = runO P np true takes call ops l s
  | [], k, s, _ => rfl
  | o :: l, k, s, h => by
    have h0 : ops[k]? = some o := by simpa using (h 0 (by simp)).symm
    simp only [List.length_cons, List.range'_succ, runI, runO, stI, h0]
    congr 1
    funext s'
    exact runI_range l (k + 1) s' (fun j hj => by have := h (j + 1) (by simp; omega); simpa [Nat.add_assoc, Nat.add_comm 1 j] using this)
theorem evX_thr {β : Type} {thr thr' : Value → Option β} {o : Oper} {s : St} {k : St → Option β} (h : isThr o = false) : evX P np takes call thr o s k = evX P np takes call thr' o s k := by
  obtain ⟨dst, op, ty, pos, after, guard⟩ := o
  unfold evX
  simp only [appendK_eq]
  (try dsimp only)
  split <;> first | rfl | (exact Bool.noConfusion h)
theorem stO_thr {o : Oper} {s : St} {v : Value} (h : stO P np true takes call ops o s = some (.inr v)) : isThr o = true := by
  cases hi : isThr o with
  | true => rfl
  | false =>
    unfold stO at h
    have h' := Option.bind_eq_some_iff.1 h
    clear h
    obtain ⟨wn, _, h⟩ := h'
    cases wn
    · cases h
    · simp only [cond_true] at h
      unfold stE at h
      rw [evOp_def] at h
      cases hr : reads P o.op <;> rw [hr] at h <;> simp only [cond_true, cond_false] at h
      · cases hb : true && bsOp o <;> rw [hb] at h <;> simp only [cond_true, cond_false] at h
        · have e1 := evX_st (P := P) (np := np) (takes := takes) (call := call) (β := St ⊕ Value) (fun _ => none) o s (fun s => some (.inl s))
          rw [h] at e1
          rw [evX_thr (thr' := fun _ => none) hi] at h
          rw [h] at e1
          cases e1
        · obtain ⟨x, _, e⟩ := Option.bind_eq_some_iff.1 h
          cases e
      · obtain ⟨x, _, e⟩ := Option.bind_eq_some_iff.1 h
        cases e
theorem runI_thr : ∀ (l : List Nat) (s : St) (v : Value), runI P np takes call ops l s = some (.inr v) → ∃ i ∈ l, thrAt ops i = true
  | [], s, v, h => by cases h
  | i :: l, s, v, h => by
    simp only [runI] at h
    cases hi : stI P np takes call ops i s with
    | none => rw [hi] at h; cases h
    | some r1 =>
      rw [hi] at h
      cases r1 with
      | inr v' =>
        refine ⟨i, by simp, ?_⟩
        unfold stI at hi
        unfold thrAt
        cases ho : ops[i]? with
        | none => rw [ho] at hi; cases hi
        | some o => rw [ho] at hi; exact stO_thr hi
      | inl s1 =>
        obtain ⟨k, hk, ht⟩ := runI_thr l s1 v h
        exact ⟨k, by simp [hk], ht⟩
theorem runI_keep {z : Operand} (ha : ops.all (fun o => wOp P o || xOp P o || (ptrCall P o).isSome || isStore o) = true) : ∀ (l : List Nat) (s s' : St), (∀ k ∈ l, ∀ o, ops[k]? = some o → ∀ t, z = .tmp t → o.dst ≠ some t) → runI P np takes call ops l s = some (.inl s') → boxOf (s'.ev z) = boxOf (s.ev z)
  | [], s, s', _, h => by cases h; rfl
  | i :: l, s, s', hk, h => by
    simp only [runI] at h
    cases hi : stI P np takes call ops i s with
    | none => rw [hi] at h; cases h
    | some r1 =>
      rw [hi] at h
      cases r1 with
      | inr v' => cases h
      | inl s1 =>
        rw [runI_keep ha l s1 s' (fun k hm => hk k (by simp [hm])) h]
        unfold stI at hi
        cases ho : ops[i]? with
        | none => rw [ho] at hi; cases hi; rfl
        | some o =>
          rw [ho] at hi
          exact boxOf_keep (List.all_eq_true.1 ha o (List.mem_of_getElem? ho)) hi (hk i (by simp) o ho)
theorem lc_looks {x y : Oper} {p : Operand × List Operand} (h : lcOf P x y = some p) : (loadOf x = some p.1 ∧ ptrCall P y = some p.2) ∨ (loadOf y = some p.1 ∧ ptrCall P x = some p.2) := by
  unfold lcOf at h
  cases hx : loadOf x with
  | some a =>
    rw [hx] at h
    obtain ⟨xs, h1, rfl⟩ := Option.map_eq_some_iff.1 h
    exact .inl ⟨rfl, h1⟩
  | none =>
    rw [hx] at h
    obtain ⟨a, h1, h2⟩ := Option.bind_eq_some_iff.1 h
    obtain ⟨xs, h3, rfl⟩ := Option.map_eq_some_iff.1 h2
    exact .inr ⟨h1, h3⟩
theorem load_looks {x : Oper} {a : Operand} (h : loadOf x = some a) {t : Nat} (e : a = .tmp t) : t ∈ looks ops x := by
  obtain ⟨dst, op, ty, pos, after, guard⟩ := x
  unfold loadOf at h
  dsimp only at h
  split at h
  · cases h; subst e; exact looks_of (by simp [Op.operands])
  · cases h
theorem call_looks {y : Oper} {xs : List Operand} (h : ptrCall P y = some xs) {z : Operand} (hz : z ∈ xs) {t : Nat} (e : z = .tmp t) : t ∈ looks ops y := ptr_looks h hz e
theorem apart_of {i j : Nat} {x y : Oper} (h : pairOk P ops x y = true ∨ pairDyn P ops i j x y = true) : apartB ops x y = true := by
  rcases h with h | h
  · unfold pairOk at h
    rw [Bool.and_eq_true] at h
    exact h.1
  · unfold pairDyn at h
    simp only [Bool.and_eq_true] at h
    exact h.1.1
theorem bubble {j : Nat} {y : Oper} (hy : ops[j]? = some y) (C : List Nat) (r : St ⊕ Value) (hC : ∀ k ∈ C, j < k) (hend : ∀ s', r = .inl s' → ∀ i x p, i < j → ops[i]? = some x → ((masks ops []).getD j 0).testBit i = false → pairOk P ops x y = false → lcOf P x y = some p → aparts s' p = true) : ∀ (A : List Nat) (s : St), A.Pairwise (· < ·) →
    (∀ i ∈ A, i < j ∧ ((masks ops []).getD j 0).testBit i = false ∧ ∃ x, ops[i]? = some x ∧ (pairOk P ops x y = true ∨ pairDyn P ops i j x y = true)) →
    (∀ v, r = .inr v → ∀ i ∈ A, thrAt ops i = false) → runI P np takes call ops (A ++ j :: C) s = some r → runI P np takes call ops (j :: (A ++ C)) s = some r
  | [], s, _, _, _, h => h
  | i :: A, s, hpw, hp, ht, h => by
    obtain ⟨hij, hmk, x, hx, hxy⟩ := hp i (by simp)
    have h0 := h
    simp only [List.cons_append, runI] at h
    rw [List.pairwise_cons] at hpw
    cases hi : stI P np takes call ops i s with
    | none => rw [hi] at h; cases h
    | some r1 =>
      rw [hi] at h
      cases r1 with
      | inr v =>
        cases h
        have h1 := ht v rfl i (by simp)
        unfold thrAt at h1
        unfold stI at hi
        rw [hx] at h1 hi
        have h2 := stO_thr hi
        dsimp only at h1
        rw [h1] at h2
        cases h2
      | inl s1 =>
        have ih := bubble hy C r hC hend A s1 hpw.2 (fun i hi => hp i (by simp [hi])) (fun v e i hi => ht v e i (by simp [hi])) h
        simp only [runI] at ih
        have hi' : stO P np true takes call ops x s = some (.inl s1) := by unfold stI at hi; rw [hx] at hi; exact hi
        have ej : ∀ s, stI P np takes call ops j s = stO P np true takes call ops y s := fun s => by unfold stI; rw [hy]
        have ei : ∀ s, stI P np takes call ops i s = stO P np true takes call ops x s := fun s => by unfold stI; rw [hx]
        rw [ej] at ih
        cases hj : stO P np true takes call ops y s1 with
        | none => rw [hj] at ih; cases ih
        | some r2 =>
          rw [hj] at ih
          have hD : (∀ s2, r2 = .inl s2 → ∃ s3, stO P np true takes call ops y s = some (.inl s3) ∧ stO P np true takes call ops x s3 = some (.inl s2)) ∧ (∀ v, r2 = .inr v → stO P np true takes call ops y s = some (.inr v)) := by
            cases hpo : pairOk P ops x y with
            | true => exact diamond hpo hi' hj
            | false =>
              have hdy : pairDyn P ops i j x y = true := by
                rcases hxy with h1 | h1
                · rw [hpo] at h1; cases h1
                · exact h1
              have hap := apart_of (P := P) (.inr hdy)
              unfold pairDyn at hdy
              simp only [Bool.and_eq_true, Bool.or_eq_true] at hdy
              obtain ⟨⟨_, hdw⟩, hrest⟩ := hdy
              unfold dynW at hdw
              simp only [Bool.and_eq_true, Bool.or_eq_true] at hdw
              cases hlc : lcOf P x y with
              | none =>
                rcases hdw with ⟨w1, w2⟩ | ⟨w1, w2⟩
                · obtain ⟨xs, hxs⟩ := Option.isSome_iff_exists.1 w2
                  refine diamond_wp w1 hxs hap (fun s2 e a ha => ?_) hi' hj
                  unfold lcOf at hlc
                  rw [ha, hxs] at hlc
                  cases hlc
                · obtain ⟨xs, hxs⟩ := Option.isSome_iff_exists.1 w2
                  refine diamond_pw hxs w1 hap (fun s2 e a ha => ?_) hi' hj
                  unfold lcOf at hlc
                  rw [ptr_load hxs, ha, hxs] at hlc
                  cases hlc
              | some p =>
              rw [hlc] at hrest
              have hrest := hrest.resolve_left (by simp)
              obtain ⟨⟨⟨hfi, hfj⟩, hcalm⟩, hnost⟩ := hrest
              unfold calm at hcalm
              rw [Bool.and_eq_true] at hcalm
              obtain ⟨hall, huniq⟩ := hcalm
              have fixed : ∀ (m : Nat) (o : Oper), fixedAt ops m o = true → ∀ k, m ≤ k → ∀ o', ops[k]? = some o' → ∀ t, t ∈ looks ops o → o'.dst ≠ some t := fun m o hf k hk o' ho' t ht e => by
                unfold fixedAt at hf
                have := List.all_eq_true.1 hf k (List.mem_range.2 (List.getElem?_eq_some_iff.1 ho').1)
                rw [ho'] at this
                have hb : Nat.blt k m = false := by
                  cases hb : Nat.blt k m
                  · rfl
                  · have := Nat.le_of_ble_eq_true hb; omega
                rw [hb] at this
                simp only [Option.bind_some, e, Bool.false_or, Bool.not_eq_true'] at this
                have hc : (looks ops o).contains t = true := by simpa using ht
                rw [hc] at this
                cases this
              have far : ∀ s', r = .inl s' → Far s p := fun s' e => by
                have hf := far_of (hend s' e i x p hij hx hmk hpo hlc)
                subst e
                have hge : ∀ k ∈ i :: (A ++ j :: C), i ≤ k := fun k hk => by
                  rcases List.mem_cons.1 hk with rfl | hk
                  · exact Nat.le_refl _
                  · rcases List.mem_append.1 hk with hk | hk
                    · exact Nat.le_of_lt (hpw.1 k hk)
                    · rcases List.mem_cons.1 hk with rfl | hk
                      · exact Nat.le_of_lt hij
                      · have := hC k hk; omega
                have keepx : ∀ z, (∀ t, z = Operand.tmp t → t ∈ looks ops x) → boxOf (s'.ev z) = boxOf (s.ev z) := fun z hz => runI_keep hall _ s s' (fun k hk o ho t et => fixed i x hfi k (hge k hk) o ho t (hz t et)) h0
                have keepy : ∀ z, (∀ t, z = Operand.tmp t → t ∈ looks ops y) → boxOf (s'.ev z) = boxOf (s.ev z) := fun z hz => runI_keep hall _ s s' (fun k hk o ho t et e => by
                  have low : k ∈ i :: A → False := fun hk => by
                    obtain ⟨_, _, o', ho', hpair⟩ := hp k hk
                    rw [ho] at ho'
                    cases ho'
                    have hapk := apart_of hpair
                    unfold apartB at hapk
                    simp only [Bool.and_eq_true] at hapk
                    have h1 := hapk.1
                    rw [e] at h1
                    have hc : (looks ops y).contains t = true := by simpa using hz t et
                    simp [hz t et] at h1
                  rcases List.mem_cons.1 hk with rfl | hk
                  · exact low (by simp)
                  · rcases List.mem_append.1 hk with hk | hk
                    · exact low (by simp [hk])
                    · refine fixed j y hfj k ?_ o ho t (hz t et) e
                      rcases List.mem_cons.1 hk with rfl | hk
                      · exact Nat.le_refl _
                      · exact Nat.le_of_lt (hC k hk)) h0
                rcases lc_looks hlc with ⟨l1, l2⟩ | ⟨l1, l2⟩
                · intro d hd z hz e
                  refine hf d ?_ z hz ?_
                  · rw [keepx p.1 (fun t et => load_looks l1 et)]; exact hd
                  · rw [keepy z (fun t et => call_looks l2 hz et)]; exact e
                · intro d hd z hz e
                  refine hf d ?_ z hz ?_
                  · rw [keepy p.1 (fun t et => load_looks l1 et)]; exact hd
                  · rw [keepx z (fun t et => call_looks l2 hz et)]; exact e
              have noThr : ∀ k m, k ≠ m → thrAt ops k = true → thrAt ops m = true → False := by
                have key : ∀ k m, m < k → thrAt ops k = true → thrAt ops m = true → False := fun k m hm hk1 hm1 => by
                  have hkl : k < ops.length := by
                    cases hk2 : ops[k]? with
                    | none => unfold thrAt at hk1; rw [hk2] at hk1; cases hk1
                    | some o => exact (List.getElem?_eq_some_iff.1 hk2).1
                  have := List.all_eq_true.1 huniq k (List.mem_range.2 hkl)
                  have := List.all_eq_true.1 this m (List.mem_range.2 hm)
                  rw [hk1, hm1] at this
                  cases this
                intro k m hne hk1 hm1
                rcases Nat.lt_or_gt_of_ne hne with h1 | h1
                · exact key m k h1 hm1 hk1
                · exact key k m h1 hk1 hm1
              have callThr : ∀ {o : Oper} {xs : List Operand}, ptrCall P o = some xs → isThr o = true ∨ isStore o = true := fun h => by
                rcases ptrCall_eq h with ⟨f, ys, Ts, h1, _⟩ | ⟨T, a, z, h1, _⟩
                · left; unfold isThr; rw [h1]
                · right; unfold isStore; rw [h1]
              have noneThr : (isStore x = true ∨ isStore y = true) → ∀ k, thrAt ops k = false := fun hs k => by
                rcases hnost with h1 | h1
                · rw [Bool.not_eq_true', Bool.or_eq_false_iff] at h1
                  rcases hs with h2 | h2
                  · rw [h1.1] at h2; cases h2
                  · rw [h1.2] at h2; cases h2
                · unfold thrAt
                  cases hk : ops[k]? with
                  | none => rfl
                  | some o => simpa using List.all_eq_true.1 h1 o (List.mem_of_getElem? hk)
              rcases lc_looks hlc with ⟨l1, l2⟩ | ⟨l1, l2⟩
              · refine diamond_wp (xs := p.2) (wOp_load l1) l2 hap (fun s2 e a ha => ?_) hi' hj
                rw [l1] at ha
                cases ha
                subst e
                cases r with
                | inl s' => exact far s' rfl
                | inr v =>
                  obtain ⟨k, hk, hkt⟩ := runI_thr _ _ _ ih
                  rcases callThr l2 with hct | hst
                  case inr =>
                    have := noneThr (.inr hst) k
                    rw [hkt] at this
                    cases this
                  have hjt : thrAt ops j = true := by unfold thrAt; rw [hy]; exact hct
                  refine (noThr k j (fun e => ?_) hkt hjt).elim
                  subst e
                  rcases List.mem_append.1 hk with hk | hk
                  · have := (hp k (by simp [hk])).1; omega
                  · have := hC k hk; omega
              · cases r with
                | inl s' =>
                  refine diamond_pw (xs := p.2) l2 (wOp_load l1) hap (fun s2 e a ha => ?_) hi' hj
                  rw [l1] at ha
                  cases ha
                  exact far s' rfl
                | inr v =>
                  have h1 := ht v rfl i (by simp)
                  unfold thrAt at h1
                  rw [hx] at h1
                  dsimp only at h1
                  rcases callThr l2 with hct | hst
                  · rw [hct] at h1; cases h1
                  · cases r2 with
                    | inr v' =>
                      have hyt := stO_thr hj
                      have := noneThr (.inl hst) j
                      unfold thrAt at this
                      rw [hy] at this
                      dsimp only at this
                      rw [this] at hyt
                      cases hyt
                    | inl s2 =>
                      obtain ⟨k, hk, hkt⟩ := runI_thr _ _ _ ih
                      have := noneThr (.inl hst) k
                      rw [hkt] at this
                      cases this
          obtain ⟨d1, d2⟩ := hD
          simp only [List.cons_append, runI]
          rw [ej]
          cases r2 with
          | inr v =>
            rw [d2 v rfl]
            exact ih
          | inl s2 =>
            obtain ⟨s3, e1, e2⟩ := d1 s2 rfl
            rw [e1]
            show thenR (stI P np takes call ops i s3) _ = _
            rw [ei, e2]
            exact ih
theorem needs_mem {i j : Nat} {x y : Oper} {p : Operand × List Operand} (hij : i < j) (hx : ops[i]? = some x) (hy : ops[j]? = some y) (hm : ((masks ops []).getD j 0).testBit i = false) (hpo : pairOk P ops x y = false) (hlc : lcOf P x y = some p) : p ∈ needs P ops := by
  have hany : (ops.any (fun o => (loadOf o).isSome) && ops.any (fun o => (ptrCall P o).isSome)) = true := by
    rw [Bool.and_eq_true, List.any_eq_true, List.any_eq_true]
    rcases lc_looks hlc with ⟨l1, l2⟩ | ⟨l1, l2⟩
    · exact ⟨⟨x, List.mem_of_getElem? hx, by rw [l1]; rfl⟩, ⟨y, List.mem_of_getElem? hy, by rw [l2]; rfl⟩⟩
    · exact ⟨⟨y, List.mem_of_getElem? hy, by rw [l1]; rfl⟩, ⟨x, List.mem_of_getElem? hx, by rw [l2]; rfl⟩⟩
  unfold needs
  rw [hany]
  refine List.mem_flatMap.2 ⟨j, List.mem_range.2 (List.getElem?_eq_some_iff.1 hy).1, List.mem_filterMap.2 ⟨i, List.mem_range.2 hij, ?_⟩⟩
  rw [hm, hx, hy]
  simp only [cond_false, hpo, hlc]
def pend (n : Nat) (listed : Array Bool) : List Nat := (List.range' 0 n).filter fun i => !listed.getD i true
theorem getD_set_self {n j : Nat} {listed : Array Bool} (hsz : listed.size = n) (hj : j < n) : (listed.setIfInBounds j true).getD j true = true := by
  subst hsz; simp [hj]
theorem pend_split {n j : Nat} {listed : Array Bool} (hj : j < n) (hl : listed.getD j true = false) (hsz : listed.size = n) : ∃ A C, pend n listed = A ++ j :: C ∧ (∀ i ∈ A, i < j ∧ listed.getD i true = false) ∧ pend n (listed.setIfInBounds j true) = A ++ C ∧ A.Pairwise (· < ·) ∧ ∀ k ∈ C, j < k := by
  have hr : List.range' 0 n = List.range' 0 j ++ j :: List.range' (j + 1) (n - j - 1) := by
    obtain ⟨m, hm⟩ : ∃ m, n = j + (m + 1) := ⟨n - j - 1, by omega⟩
    have e : n - j - 1 = m := by omega
    rw [e, hm, ← List.range'_append_1, Nat.zero_add, List.range'_succ]
  refine ⟨(List.range' 0 j).filter fun i => !listed.getD i true, (List.range' (j + 1) (n - j - 1)).filter fun i => !listed.getD i true, ?_, fun i hi => ?_, ?_, List.Pairwise.filter _ List.pairwise_lt_range', fun k hk => by
    obtain ⟨h1, _⟩ := List.mem_filter.1 hk
    rw [List.mem_range'_1] at h1
    omega⟩
  · unfold pend
    rw [hr, List.filter_append, List.filter_cons, if_pos (by rw [hl]; rfl)]
  · obtain ⟨h1, h2⟩ := List.mem_filter.1 hi
    rw [List.mem_range'_1] at h1
    exact ⟨by omega, by simpa using h2⟩
  · unfold pend
    rw [hr, List.filter_append, List.filter_cons, if_neg (by
      have : (listed.setIfInBounds j true).getD j true = true := getD_set_self hsz hj
      rw [this]; simp)]
    congr 1
    · refine List.filter_congr fun i hi => ?_
      rw [List.mem_range'_1] at hi
      rw [getD_set_ne true (by omega)]
    · refine List.filter_congr fun i hi => ?_
      rw [List.mem_range'_1] at hi
      rw [getD_set_ne true (by omega)]
theorem any_sound {opsA : Array Oper} (hst : drawnOk P opsA.toList = true) (hok : ∀ o ∈ opsA.toList, okOp o = true) (hcall : SoundCall P call) {Q : Exit → Act → World → Prop} (r : St ⊕ Value) (hthr : ∀ v, r = .inr v → thrOk opsA.toList = true) (hend : ∀ s', r = .inl s' → endOk P opsA.toList s' = true)
    (hk : ∀ g' s' a' w', r = .inl s' → Inv P F g' s' a' w' → Q .normal a' w') (ht : ∀ v a' w', r = .inr v → a'.defers = F.ds → Fr F.T F.w0 w' → Q (.panic [{ v := v, recovered := false }]) a' w') :
    ∀ (fuel : Nat) (listed : Array Bool) (g : Gh) (s : St) (a : Act) (w : World), listed.size = opsA.size → Closed opsA.toList listed → Inv P F g s a w → (pend opsA.size listed).length ≤ fuel →
      runI P F.np takes call opsA.toList (pend opsA.size listed) s = some r → wpAny P .any opsA Q fuel listed a w := by
  have hstat : ∀ (j : Nat) y, opsA.toList[j]? = some y → (∀ e ∈ y.after.toList, Region.binds .any e = true → e.on < j) ∧ ∀ i, i < j → ((masks opsA.toList []).getD j 0).testBit i = true ∨ ∀ x, opsA.toList[i]? = some x → pairOk P opsA.toList x y = true ∨ pairDyn P opsA.toList i j x y = true := fun j y hy => by
    unfold drawnOk at hst
    have := List.all_eq_true.1 hst j (List.mem_range.2 (List.getElem?_eq_some_iff.1 hy).1)
    rw [hy] at this
    simp only [Bool.and_eq_true, List.all_eq_true] at this
    refine ⟨fun e he hb => ?_, fun i hi => ?_⟩
    · have h1 := this.1 e he
      rw [hb] at h1
      have h2 : Nat.blt e.on j = true := h1
      exact Nat.le_of_ble_eq_true h2
    · have := this.2 i (List.mem_range.2 hi)
      rw [Bool.or_eq_true] at this
      refine this.imp id fun h x hx => ?_
      rw [hx] at h
      exact (Bool.or_eq_true _ _).mp h
  have hmin : ∀ listed : Array Bool, listed.size = opsA.size → Region.ready .any opsA listed = [] → pend opsA.size listed = [] := fun listed hsz hr => by
    cases hp : pend opsA.size listed with
    | nil => rfl
    | cons i l =>
      have hi : i ∈ pend opsA.size listed := by rw [hp]; simp
      obtain ⟨h1, h2⟩ := List.mem_filter.1 hi
      rw [List.mem_range'_1] at h1
      have hlt : i < opsA.size := by omega
      obtain ⟨A, C, e1, e2, e3, e4, e5⟩ := pend_split hlt (by simpa using h2) hsz
      have hA : A = [] := by
        cases A with
        | nil => rfl
        | cons k A =>
          rw [hp] at e1
          cases e1
          exact absurd (e2 i (by simp)).1 (Nat.lt_irrefl _)
      have hbelow : ∀ k, k < i → listed.getD k true = true := fun k hk => by
        cases hkl : listed.getD k true with
        | true => rfl
        | false =>
          obtain ⟨A', C', e1', e2', e3', _, _⟩ := pend_split (n := opsA.size) (j := k) (by omega) hkl hsz
          rw [hp] at e1'
          cases A' with
          | nil => cases e1'; exact absurd hk (Nat.lt_irrefl _)
          | cons q A' => cases e1'; exact absurd (e2' i (by simp)).1 (by omega)
      have hrdy : i ∈ Region.ready .any opsA listed := by
        rw [mem_ready]
        refine ⟨by simpa using h2, opsA[i], Array.getElem?_eq_getElem hlt, fun e he hb => ?_⟩
        have hon := (hstat i opsA[i] (by simp [hlt])).1 e (by simpa using he) hb
        have := hbelow e.on hon
        rw [Array.getD_eq_getD_getElem?] at this ⊢
        rw [Array.getElem?_eq_getElem (by omega)] at this ⊢
        exact this
      rw [hr] at hrdy
      cases hrdy
  intro fuel
  induction fuel with
  | zero =>
    intro listed g s a w hsz hcl h hlen hrun
    have hnil : pend opsA.size listed = [] := List.length_eq_zero_iff.1 (by omega)
    rw [hnil] at hrun
    cases hrun
    refine ⟨?_, hk g s a w rfl h⟩
    cases hr : Region.ready .any opsA listed with
    | nil => rfl
    | cons j l =>
      have hj : j ∈ Region.ready .any opsA listed := by rw [hr]; simp
      rw [mem_ready] at hj
      obtain ⟨h1, o, ho, _⟩ := hj
      obtain ⟨A, C, e1, _, _, _, _⟩ := pend_split (Array.getElem?_eq_some_iff.1 ho).1 h1 hsz
      rw [hnil] at e1
      cases A <;> cases e1
  | succ fuel ih =>
    intro listed g s a w hsz hcl h hlen hrun
    refine ⟨fun hr => ?_, fun j hj => ?_⟩
    · rw [hmin listed hsz hr] at hrun
      cases hrun
      exact hk g s a w rfl h
    · rw [mem_ready] at hj
      obtain ⟨h1, o, ho, hdeps⟩ := hj
      have hlt := (Array.getElem?_eq_some_iff.1 ho).1
      have ho' : opsA.toList[j]? = some o := by rw [Array.getElem?_toList]; exact ho
      obtain ⟨A, C, e1, e2, e3, e4, e5⟩ := pend_split hlt h1 hsz
      have hnw : ∀ i, i ∈ A → ((masks opsA.toList []).getD j 0).testBit i = true → False := fun i hi hw => by
        have := waits_listed (fun j o ho => (hstat j o ho).1) hcl j o ho' (fun e he hb => hdeps e (by simpa using he) hb) i hw
        have h2 := (e2 i hi).2
        rw [Array.getD_eq_getD_getElem?] at this h2
        cases hq : listed[i]? with
        | none => rw [hq] at this; cases this
        | some b => rw [hq] at this h2; simp at this h2; rw [this] at h2; cases h2
      rw [e1] at hrun
      have hmf : ∀ i, i ∈ A → ((masks opsA.toList []).getD j 0).testBit i = false := fun i hi => by
        cases hq : ((masks opsA.toList []).getD j 0).testBit i
        · rfl
        · exact (hnw i hi hq).elim
      have hb := bubble (P := P) (np := F.np) (takes := takes) (call := call) ho' C r e5 (fun s' e i x p hij hx hm hpo hlc => List.all_eq_true.1 (hend s' e) p (needs_mem hij hx ho' hm hpo hlc)) A s e4 (fun i hi => by
        have hij := (e2 i hi).1
        have hil : i < opsA.size := by omega
        have hx : opsA.toList[i]? = some opsA[i] := by simp [hil]
        refine ⟨hij, hmf i hi, opsA[i], hx, ?_⟩
        rcases (hstat j o ho').2 i hij with hw | hw
        · exact (hnw i hi hw).elim
        · exact hw _ hx) (fun v hv i hi => by
        have hij := (e2 i hi).1
        have hil : i < opsA.size := by omega
        have hx : opsA.toList[i]? = some opsA[i] := by simp [hil]
        cases hisT : thrAt opsA.toList i with
        | false => rfl
        | true =>
        unfold thrAt at hisT
        rw [hx] at hisT
        dsimp only at hisT
        have hT := hthr v hv
        unfold thrOk at hT
        have := List.all_eq_true.1 hT i (List.mem_range.2 (by simpa using hil))
        rw [hx] at this
        dsimp only at this
        have hall : ((List.range opsA.toList.length).all fun j => Nat.ble j i || ((masks opsA.toList []).getD j 0).testBit i) = true := by
          unfold isThr at hisT
          split at hisT
          · rename_i hop; rw [hop] at this; exact this
          · rename_i hop; rw [hop] at this; exact this
          · rename_i hop; rw [hop] at this; exact this
          · cases hisT
        have := List.all_eq_true.1 hall j (List.mem_range.2 (by simpa using hlt))
        rw [Bool.or_eq_true] at this
        rcases this with h3 | h3
        · have := Nat.le_of_ble_eq_true h3; omega
        · exact (hnw i hi h3).elim) hrun
      simp only [runI] at hb
      unfold stI at hb
      rw [ho'] at hb
      dsimp only at hb
      unfold wpOp
      rw [ho]
      cases hs : stO P F.np true takes call opsA.toList o s with
      | none => rw [hs] at hb; cases hb
      | some r1 =>
        rw [hs] at hb
        refine stO_sound hcall h (hok o (List.mem_of_getElem? ho')) hs (fun g' s' a' w' e hI => ?_) (fun v a' w' e hd hf => ?_)
        · subst e
          refine ih (listed.setIfInBounds j true) g' s' a' w' (by simp [hsz]) (fun k o2 hk2 hl2 e he hbd => ?_) hI ?_ ?_
          · by_cases hkj : j = k
            · subst hkj
              rw [ho'] at hk2
              cases hk2
              exact getD_set_true (hdeps e (by simpa using he) hbd)
            · rw [getD_set_ne false hkj] at hl2
              exact getD_set_true (hcl k o2 hk2 hl2 e he hbd)
          · rw [e3]
            rw [e1] at hlen
            simp at hlen ⊢
            omega
          · rw [e3]; exact hb
        · subst e
          cases hb
          exact ht v a' w' rfl hd hf
theorem region_drawn {id : Nat} {opsA : Array Oper} {g : Gh} {s : St} {a : Act} {w : World} (hm : P.follows .mixedOrders = true) (hst : drawnOk P opsA.toList = true) (hok : ∀ o ∈ opsA.toList, okOp o = true) (hcall : SoundCall P call) {Q : Exit → Act → World → Prop} (r : St ⊕ Value) (hthr : ∀ v, r = .inr v → thrOk opsA.toList = true) (hend : ∀ s', r = .inl s' → endOk P opsA.toList s' = true)
    (h : Inv P F g s a w) (hrun : runO P F.np true takes call opsA.toList opsA.toList s = some r)
    (hk : ∀ g' s' a' w', r = .inl s' → Inv P F g' s' a' w' → Q .normal a' w') (ht : ∀ v a' w', r = .inr v → a'.defers = F.ds → Fr F.T F.w0 w' → Q (.panic [{ v := v, recovered := false }]) a' w') : (Code.region id opsA true).wp P Q a w := by
  have hp : pend opsA.size (Array.replicate opsA.size false) = List.range' 0 opsA.size := by
    unfold pend
    rw [List.filter_eq_self]
    intro i hi
    rw [List.mem_range'_1] at hi
    have : i < opsA.size := by omega
    simp [this]
  refine wp_region_any hm (any_sound (takes := takes) hst hok hcall r hthr hend hk ht opsA.size _ g s a _ (by simp) (fun k o hk hl => ?_) h.drew (by rw [hp]; simp) ?_)
  · by_cases hlt : k < opsA.size <;> simp [hlt] at hl
  · rw [hp]
    have := runI_range (P := P) (np := F.np) (takes := takes) (call := call) (ops := opsA.toList) opsA.toList 0 s (fun j _ => by rw [Nat.zero_add])
    rw [Array.length_toList] at this
    rw [this]; exact hrun
def plainRead (o : Oper) : Bool := match o.op with
  | .move _ | .fieldAddr .. | .load .. | .indexAddr .. | .binOp .. => true
  | .call { callee := .builtin .len, .. } => true
  | _ => false
def dstFree (o : Oper) (d : Nat) : Bool := !(o.dst == some d)
def hoistOk (P : Program) (ops : List Oper) : Bool :=
  let l := ops.map nopped
  let ms := masks l []
  drawnOk P l && (l.all okOp && ops.all (fun o => o.guard.isNone)) && (List.range ops.length).all fun j => match ops[j]? with
    | some o => bif isAlloc o then (match o.dst with | some d => (List.range ops.length).all fun i => Nat.beq i j || (match ops[i]? with | some x => dstFree x d | none => true) | none => false)
      else (plainRead o && (List.range ops.length).all (fun i => match ops[i]? with | some x => !isAlloc x || ((ms.getD j 0).testBit i || (match x.dst with | some d => !(looks ops o).contains d | none => true)) | none => true)) ||
        (List.range ops.length).all (fun i => match ops[i]? with | some x => !isAlloc x || (ms.getD j 0).testBit i | none => true)
    | none => true
def FreeC (d : Nat) (c : AV) : Prop := c.nobox1 d = c ∧ c.tok1 (killsF d 0 1024) = c
def FreeB (d : Nat) (c : AV) : Prop := c.nobox2 d = c ∧ c.tok2 (killsF d 0 1024) = c
def FreeA (d : Nat) (c : AV) : Prop := c.nobox d = c ∧ c.tok (killsF d 0 1024) = c
structure FreeS (d : Nat) (s : St) : Prop where
  t : ∀ x ∈ s.t, FreeA d x
  b : ∀ cs, some cs ∈ s.b → ∀ c ∈ cs, FreeC d c
theorem map_same {α : Type} {f : α → α} : ∀ {l : List α}, (∀ x ∈ l, f x = x) → l.map f = l
  | [], _ => rfl
  | x :: l, h => by rw [List.map_cons, h x (by simp), map_same fun y hy => h y (by simp [hy])]
theorem frC_sound {d : Nat} {c : AV} (h : frC d c = true) : FreeC d c := by
  have hb : ∀ e o, Nat.beq e d = false → (bif e == d then AV.dead else AV.box e o) = AV.box e o := fun e o he => by
    have : (e == d) = false := by
      rw [beq_eq_false_iff_ne]
      intro e2
      subst e2
      rw [Nat.beq_refl] at he
      cases he
    rw [this]; rfl
  cases c <;> first | exact ⟨rfl, rfl⟩ | skip
  case box e o =>
    exact ⟨hb e o (by simpa [frC] using h), rfl⟩
  case row t E l =>
    cases t with
    | none => exact ⟨rfl, rfl⟩
    | some m =>
      refine ⟨rfl, ?_⟩
      have h1 : (m / 1024 == d + 1) = false := by
        rw [beq_eq_false_iff_ne]
        intro e2
        have h : (!Nat.beq (m / 1024) (d + 1)) = true := h
        rw [e2, Nat.beq_refl] at h
        cases h
      show AV.row (bif m / 1024 == d + 1 && Nat.ble 0 (m % 1024) && Nat.blt (m % 1024) 1024 then none else some m) E l = _
      rw [h1]; rfl
  case fn f xs cs =>
    refine ⟨?_, rfl⟩
    have h1 : ∀ x ∈ xs ++ cs, AV.nobox0 d x = x := fun x hx => by
      have := List.all_eq_true.1 h x hx
      cases x <;> first | rfl | skip
      case box e o => exact hb e o (by simpa using this)
    show AV.fn f (xs.map _) (cs.map _) = _
    rw [map_same fun x hx => h1 x (by simp [hx]), map_same fun x hx => h1 x (by simp [hx])]
theorem frB_sound {d : Nat} {c : AV} (h : frB d c = true) : FreeB d c := by
  cases c <;> first | exact ⟨rfl, rfl⟩ | skip
  case box e o => exact frC_sound (c := .box e o) h
  case row t E l => exact frC_sound (c := .row t E l) h
  case fn f xs cs => exact frC_sound (c := .fn f xs cs) h
  case agg vs =>
    have h1 : ∀ x ∈ vs, FreeC d x := fun x hx => frC_sound (List.all_eq_true.1 h x hx)
    refine ⟨?_, ?_⟩
    · show AV.agg (vs.map _) = _
      rw [map_same fun x hx => (h1 x hx).1]
    · show AV.agg (vs.map _) = _
      rw [map_same fun x hx => (h1 x hx).2]
theorem frA_sound {d : Nat} {c : AV} (h : frA d c = true) : FreeA d c := by
  cases c <;> first | exact ⟨rfl, rfl⟩ | skip
  case box e o => exact frB_sound (c := .box e o) h
  case row t E l => exact frB_sound (c := .row t E l) h
  case fn f xs cs => exact frB_sound (c := .fn f xs cs) h
  case agg vs => exact frB_sound (c := .agg vs) h
  case tup vs =>
    have h1 : ∀ x ∈ vs, FreeB d x := fun x hx => frB_sound (List.all_eq_true.1 h x hx)
    refine ⟨?_, ?_⟩
    · show AV.tup (vs.map _) = _
      rw [map_same fun x hx => (h1 x hx).1]
    · show AV.tup (vs.map _) = _
      rw [map_same fun x hx => (h1 x hx).2]
theorem fresh_sound {s : St} {d : Nat} (h : s.fresh d = true) : FreeS d s := by
  unfold St.fresh at h
  rw [Bool.and_eq_true] at h
  exact ⟨fun x hx => frA_sound (List.all_eq_true.1 h.1 x hx), fun cs hcs c hc => frC_sound (List.all_eq_true.1 (List.all_eq_true.1 h.2 _ hcs) c hc)⟩
theorem newBox_free {s : St} {d : Nat} (h : FreeS d s) (cs : List AV) : s.newBox d cs = s.addBox d (cs.map (AV.nobox1 d)) := by
  have e1 : s.tok (killsF d 0 1024) = s := by
    obtain ⟨t, b⟩ := s
    show St.mk _ _ = _
    rw [map_same fun x hx => (h.t x hx).2, map_same fun x hx => ?_]
    cases x with
    | none => rfl
    | some cs => exact congrArg some (map_same fun c hc => (h.b cs hx c hc).2)
  unfold St.newBox St.addBox
  rw [e1]
  dsimp only
  rw [map_same fun x hx => (h.t x hx).1, map_same fun x hx => ?_]
  cases x with
  | none => rfl
  | some cs => exact congrArg some (map_same fun c hc => (h.b cs hx c hc).1)
theorem free_ofV {d : Nat} (x : Value) : FreeA d (St.ofV x) := by
  cases x <;> first | exact ⟨rfl, rfl⟩ | skip
  case agg cs =>
    refine ⟨?_, ?_⟩
    · show AV.agg ((cs.toList.map AV.v).map _) = AV.agg (cs.toList.map AV.v)
      rw [map_same fun x hx => by obtain ⟨y, _, rfl⟩ := List.mem_map.1 hx; rfl]
    · show AV.agg ((cs.toList.map AV.v).map _) = AV.agg (cs.toList.map AV.v)
      rw [map_same fun x hx => by obtain ⟨y, _, rfl⟩ := List.mem_map.1 hx; rfl]
theorem free_ev {s : St} {d : Nat} (h : FreeS d s) (y : Operand) : FreeA d (s.ev y) := by
  cases y with
  | tmp t =>
    show FreeA d (s.t.getD t .dead)
    rw [List.getD_eq_getElem?_getD]
    cases hq : s.t[t]? with
    | none => exact ⟨rfl, rfl⟩
    | some x => exact h.t x (List.mem_of_getElem? hq)
  | const x => exact free_ofV x
  | func g => exact ⟨rfl, rfl⟩
  | global g => exact ⟨rfl, rfl⟩
theorem free_cells {s : St} {d : Nat} (h : FreeS d s) {x : AV} {cs : List AV} (hc : s.cellsOf x = some cs) : ∀ c ∈ cs, FreeC d c := by
  cases x <;> first | cases hc | skip
  case box e off =>
    obtain ⟨l, hl, e2⟩ := Option.map_eq_some_iff.1 hc
    subst e2
    intro c hc
    obtain ⟨c0, h0, rfl⟩ := List.mem_map.1 hc
    have hm : some l ∈ s.b := by
      unfold St.boxAt at hl
      rw [List.getD_eq_getElem?_getD] at hl
      cases hq : s.b[e]? with
      | none => rw [hq] at hl; cases hl
      | some o => rw [hq] at hl; have : o = some l := hl; subst this; exact List.mem_of_getElem? hq
    have := h.b l hm c0 (List.mem_of_mem_drop h0)
    cases c0 <;> first | exact this | exact ⟨rfl, rfl⟩
  case ro l =>
    intro c hc
    obtain ⟨c0, h0, rfl⟩ := List.mem_map.1 hc
    cases c0 <;> exact ⟨rfl, rfl⟩
theorem free_part {P : Program} {d off : Nat} {T : TypeId} {cs : List AV} {v : AV} (h : ∀ c ∈ cs, FreeC d c) (hv : partAV P T cs off = some v) : FreeA d v := by
  unfold partAV at hv
  obtain ⟨ag, _, hv⟩ := Option.bind_eq_some_iff.1 hv
  cases ag
  · rw [cond_false] at hv
    obtain ⟨c, hc, hv⟩ := Option.bind_eq_some_iff.1 hv
    obtain ⟨hf, hv⟩ := bif_some hv
    have hv := Option.some.inj hv
    subst hv
    have := h c (List.mem_of_getElem? hc)
    cases c <;> first | exact this | cases hf
  · rw [cond_true] at hv
    obtain ⟨n, _, hv⟩ := Option.bind_eq_some_iff.1 hv
    obtain ⟨_, hv⟩ := bif_some hv
    cases hv
    have h1 : ∀ c ∈ (cs.drop off).take n, FreeC d c := fun c hc => h c (List.mem_of_mem_drop (List.mem_of_mem_take hc))
    refine ⟨?_, ?_⟩
    · show AV.agg (((cs.drop off).take n).map _) = _
      rw [map_same fun x hx => (h1 x hx).1]
    · show AV.agg (((cs.drop off).take n).map _) = _
      rw [map_same fun x hx => (h1 x hx).2]
theorem plain_free {P : Program} {s : St} {d : Nat} {o : Oper} {v : AV} (h : plainRead o = true) (hs : FreeS d s) (hv : rhs P o s = some v) : FreeA d v := by
  obtain ⟨dst, op, ty, pos, after, guard⟩ := o
  unfold plainRead at h
  dsimp only at h
  split at h
  · rename_i x
    have hv : some (s.ev x) = some v := hv
    cases hv
    exact free_ev hs x
  · rename_i T x f
    have hv : (fieldOf P T f).bind (fun (off, U) => (szT P U).bind fun n => bif n == 0 then none else
      (match s.ev x with | .box d o => some (.box d (o + off)) | .ro cs => some (.ro (cs.drop off)) | _ => none)) = some v := hv
    obtain ⟨⟨off, U⟩, _, hv⟩ := Option.bind_eq_some_iff.1 hv
    obtain ⟨n, _, hv⟩ := Option.bind_eq_some_iff.1 hv
    have hx := free_ev hs x
    cases hn : n == 0 <;> rw [hn] at hv
    · rw [cond_false] at hv
      split at hv
      · rename_i e o he
        cases hv
        rw [he] at hx
        refine ⟨?_, rfl⟩
        have h1 : (bif e == d then AV.dead else AV.box e o) = AV.box e o := hx.1
        show (bif e == d then AV.dead else AV.box e (o + off)) = AV.box e (o + off)
        cases hq : e == d <;> rw [hq] at h1
        · rfl
        · cases h1
      · cases hv; exact ⟨rfl, rfl⟩
      · cases hv
    · cases hv
  · rename_i T a
    have hv : (s.cellsOf (s.ev a)).bind (fun cs => partAV P T cs 0) = some v := hv
    obtain ⟨cs, hc, hv⟩ := Option.bind_eq_some_iff.1 hv
    exact free_part (free_cells hs hc) hv
  · rename_i T x i
    have hv : (match s.ev x, s.ev i with
      | .row _ E l, .v (.int _ i) => bif elemT P T == some E then (kinds P E).bind fun ks => bif szT P E == some ks.length then (idx l i).bind fun d => some (.ro (expand d ks 0)) else none else none
      | _, _ => none) = some v := hv
    split at hv
    · obtain ⟨_, hv⟩ := bif_some hv
      obtain ⟨ks, _, hv⟩ := Option.bind_eq_some_iff.1 hv
      obtain ⟨_, hv⟩ := bif_some hv
      obtain ⟨q, _, hv⟩ := Option.bind_eq_some_iff.1 hv
      cases hv
      exact ⟨rfl, rfl⟩
    · cases hv
  · rename_i op T x y b
    have hv : (match s.ev x, s.ev y with | .v a, .v b => bif boolOk P T y a then (pureOp op a b).map AV.v else none | _, _ => none) = some v := hv
    split at hv
    · obtain ⟨_, hv⟩ := bif_some hv
      obtain ⟨q, _, e⟩ := Option.map_eq_some_iff.1 hv
      subst e
      exact ⟨rfl, rfl⟩
    · cases hv
  · rename_i xs Ts
    have hv : (match xs.toList, Ts[0]? with
    | [x], some T => (match s.ev x with
      | .row _ _ l => bif (elemT P T).isSome then some (I l.length) else none
      | .v (.string x) => bif strT P T then some (I x.size) else none
      | .v (.slice none 0 0) => bif (elemT P T).isSome then some (I 0) else none
      | _ => none)
    | _, _ => none) = some v := hv
    split at hv
    · split at hv
      · obtain ⟨_, hv⟩ := bif_some hv; cases hv; exact ⟨rfl, rfl⟩
      · obtain ⟨_, hv⟩ := bif_some hv; cases hv; exact ⟨rfl, rfl⟩
      · obtain ⟨_, hv⟩ := bif_some hv; cases hv; exact ⟨rfl, rfl⟩
      · cases hv
    · cases hv
  · cases h
theorem plain_w {P : Program} {o : Oper} (h : plainRead o = true) : reads P o.op = true := by
  obtain ⟨dst, op, ty, pos, after, guard⟩ := o
  unfold plainRead at h
  dsimp only at h
  split at h <;> first | rfl | cases h
structure NewAt (P : Program) (np : Nat) (takes : FuncId → Option Nat) (call : CallF) (o : Oper) (d : Nat) (cs : List AV) (n : Nat) : Prop where
  run : ∀ s : St, s.t.length = n → FreeS d s → stE P np true takes call o s = some (.inl (s.addBox d cs))
theorem addBox_free {s : St} {d e : Nat} {cs : List AV} (h : FreeS e s) (hde : d ≠ e) (hc : ∀ c ∈ cs, FreeC e c) : FreeS e (s.addBox d cs) := by
  refine ⟨fun x hx => ?_, fun l hl c hcl => ?_⟩
  · rcases List.mem_or_eq_of_mem_set hx with h1 | h1
    · exact h.t x h1
    · subst h1
      refine ⟨?_, rfl⟩
      show (bif d == e then AV.dead else AV.box d 0) = _
      rw [beq_eq_false_iff_ne.2 hde]; rfl
  · rcases List.mem_or_eq_of_mem_set hl with h1 | h1
    · exact h.b l h1 c hcl
    · cases h1
      exact hc c hcl
theorem allocs_spec {ds : List Nat} : ∀ (r : List Oper) (s sh : St), allocsS P np ds r s = some sh → s.b.length = s.t.length →
    sh.t.length = s.t.length ∧ sh.b.length = s.b.length ∧ (∀ k, k ∉ allocDs r → sh.t[k]? = s.t[k]? ∧ sh.b[k]? = s.b[k]?) ∧
      ∀ o ∈ r, isAlloc o = true → ∀ d, o.dst = some d → ∃ cs, NewAt P np takes call o d cs s.t.length ∧ sh.t[d]? = some (.box d 0) ∧ sh.b[d]? = some (some cs) ∧ ∀ e ∈ ds, d ≠ e → ∀ c ∈ cs, FreeC e c
  | [], s, sh, h, hl => by
    cases h
    exact ⟨rfl, rfl, fun k _ => ⟨rfl, rfl⟩, fun o ho => by cases ho⟩
  | o :: r, s, sh, h, hl => by
    unfold allocsS at h
    split at h
    · rename_i T d hop hd
      obtain ⟨z, hz, h⟩ := Option.bind_eq_some_iff.1 h
      obtain ⟨ks, hk, h⟩ := Option.bind_eq_some_iff.1 h
      obtain ⟨hc, h⟩ := bif_some h
      simp only [Bool.and_eq_true] at hc
      obtain ⟨⟨⟨⟨⟨c1, c2⟩, c3⟩, c4⟩, c5⟩, c6⟩ := hc
      have hal : isAlloc o = true := by unfold isAlloc; rw [hop]
      have hlt : d < s.t.length := Nat.le_of_ble_eq_true c4
      have hnd : d ∉ allocDs r := by simpa using c5
      obtain ⟨e1, e2, e3, e4⟩ := allocs_spec r _ sh h (by show (s.b.set d _).length = (s.t.set d _).length; rw [List.length_set, List.length_set]; exact hl)
      have l1 : (s.addBox d ((cellsAt (some T) d 0 ks z).map (AV.nobox1 d))).t.length = s.t.length := List.length_set ..
      have l2 : (s.addBox d ((cellsAt (some T) d 0 ks z).map (AV.nobox1 d))).b.length = s.b.length := List.length_set ..
      have hds : allocDs (o :: r) = d :: allocDs r := by
        unfold allocDs
        rw [List.filterMap_cons, hal]
        simp [hd]
      refine ⟨e1.trans l1, e2.trans l2, fun k hk => ?_, fun o' ho' hal' d' hd' => ?_⟩
      · rw [hds] at hk
        simp at hk
        obtain ⟨f1, f2⟩ := e3 k hk.2
        rw [f1, f2]
        exact ⟨List.getElem?_set_ne (Ne.symm hk.1), List.getElem?_set_ne (Ne.symm hk.1)⟩
      · rcases List.mem_cons.1 ho' with h1 | h1
        · subst h1
          have hdd : d' = d := Option.some.inj (hd'.symm.trans hd)
          subst hdd
          obtain ⟨f1, f2⟩ := e3 d' hnd
          refine ⟨_, ⟨fun s2 hs2 hf2 => ?_⟩, f1.trans (List.getElem?_set_self (l := s.t) hlt), f2.trans (show (s.b.set d' _)[d']? = _ from List.getElem?_set_self (by rw [hl]; exact hlt)), fun e he hne c hcm => ?_⟩
          · have nr : stE P np true takes call o' s2 = evX P np takes call (fun v => some (.inr v)) o' s2 (fun s => some (.inl s)) := by
              obtain ⟨dst, op, ty, pos, after, guard⟩ := o'
              dsimp only at hop
              subst hop
              rfl
            rw [nr]
            unfold evX
            rw [hop, hd]
            dsimp only
            rw [hz, Option.bind_some, hk, Option.bind_some, c1, c2, c3, hs2, c4]
            simp only [Bool.and_self, cond_true]
            rw [newBox_free hf2]
          · have h5 := List.all_eq_true.1 (List.all_eq_true.1 c6 c hcm) e he
            rw [Bool.or_eq_true] at h5
            rcases h5 with h5 | h5
            · exact absurd (Nat.eq_of_beq_eq_true h5).symm hne
            · exact frC_sound h5
        · obtain ⟨cs, g1, g2, g3, g4⟩ := e4 o' h1 hal' d' hd'
          rw [l1] at g1
          exact ⟨cs, g1, g2, g3, g4⟩
    · rename_i hno
      obtain ⟨e1, e2, e3, e4⟩ := allocs_spec r _ sh h hl
      have hds : ∀ d, isAlloc o = true → o.dst = some d → False := fun d ha hd => by
        unfold isAlloc at ha
        split at ha
        · rename_i T hop
          exact hno T d hop hd
        · cases ha
      have hds2 : allocDs (o :: r) = allocDs r := by
        unfold allocDs
        rw [List.filterMap_cons]
        cases ha : isAlloc o
        · rfl
        · cases hd : o.dst with
          | none => simp [hd]
          | some d => exact (hds d ha hd).elim
      refine ⟨e1, e2, fun k hk => e3 k (by rwa [hds2] at hk), fun o' ho' hal' d' hd' => ?_⟩
      rcases List.mem_cons.1 ho' with h1 | h1
      · subst h1
        exact (hds d' hal' hd').elim
      · exact e4 o' h1 hal' d' hd'
def Pnd (ops : List Oper) (listed : Array Bool) (d : Nat) : Prop := ∃ (i : Nat) (o : Oper), ops[i]? = some o ∧ isAlloc o = true ∧ o.dst = some d ∧ listed.getD i true = false
structure Hst (P : Program) (np : Nat) (takes : FuncId → Option Nat) (call : CallF) (ops : List Oper) (listed : Array Bool) (sa sh : St) : Prop where
  lt : sa.t.length = sh.t.length
  lb : sa.b.length = sh.b.length
  t : ∀ k, ¬ Pnd ops listed k → sa.t[k]? = sh.t[k]?
  b : ∀ k, ¬ Pnd ops listed k → sa.b[k]? = sh.b[k]?
  new : ∀ (i : Nat) (o : Oper) d, ops[i]? = some o → isAlloc o = true → o.dst = some d → listed.getD i true = false →
    ∃ cs, NewAt P np takes call o d cs sh.t.length ∧ sh.t[d]? = some (.box d 0) ∧ sh.b[d]? = some (some cs) ∧ ∀ e, Pnd ops listed e → d ≠ e → ∀ c ∈ cs, FreeC e c
  free : ∀ d, Pnd ops listed d → FreeS d sa
theorem hst_same {listed : Array Bool} {sa sh : St} (h : Hst P np takes call ops listed sa sh) (hn : ∀ d, ¬ Pnd ops listed d) : sa = sh := by
  obtain ⟨t, b⟩ := sa
  obtain ⟨t', b'⟩ := sh
  have e1 : t = t' := List.ext_getElem? fun k => h.t k (hn k)
  have e2 : b = b' := List.ext_getElem? fun k => h.b k (hn k)
  rw [e1, e2]
theorem nop_after (o : Oper) : (nopped o).after = o.after := by unfold nopped; cases isAlloc o <;> rfl
theorem nop_keep {o : Oper} (h : isAlloc o = false) : nopped o = o := by unfold nopped; rw [h]; rfl
theorem nop_run {o : Oper} (h : isAlloc o = true) {l : List Oper} (s : St) : stO P np true takes call l (nopped o) s = some (.inl s) := by
  have e : nopped o = { o with dst := none, op := .move (.const (.bool false)), guard := none } := by unfold nopped; rw [h]; rfl
  rw [e]
  rfl
theorem stO_plain {o : Oper} (h : o.guard = none) {l : List Oper} (s : St) : stO P np true takes call l o s = stE P np true takes call o s := by
  unfold stO
  rw [h]
  rfl
theorem any_hoist {opsA : Array Oper} (hst : hoistOk P opsA.toList = true) (hok : ∀ o ∈ opsA.toList, okOp o = true) (hcall : SoundCall P call) {Q : Exit → Act → World → Prop} (r : St ⊕ Value) (hthr : ∀ v, r = .inr v → thrOk (opsA.toList.map nopped) = true) (hend : ∀ s', r = .inl s' → endOk P (opsA.toList.map nopped) s' = true)
    (hk : ∀ g' s' a' w', r = .inl s' → Inv P F g' s' a' w' → Q .normal a' w') (ht : ∀ v a' w', r = .inr v → a'.defers = F.ds → Fr F.T F.w0 w' → Q (.panic [{ v := v, recovered := false }]) a' w') :
    ∀ (fuel : Nat) (listed : Array Bool) (g : Gh) (s sh : St) (a : Act) (w : World), listed.size = opsA.size → Closed (opsA.toList.map nopped) listed → Inv P F g s a w → Hst P F.np takes call opsA.toList listed s sh → (pend opsA.size listed).length ≤ fuel →
      runI P F.np takes call (opsA.toList.map nopped) (pend opsA.size listed) sh = some r → wpAny P .any opsA Q fuel listed a w := by
  unfold hoistOk at hst
  simp only [Bool.and_eq_true] at hst
  obtain ⟨⟨hdr, hokl, hgd⟩, hall⟩ := hst
  have hgd : ∀ o ∈ opsA.toList, o.guard = none := fun o ho => by
    have := List.all_eq_true.1 hgd o ho
    cases hq : o.guard with
    | none => rfl
    | some q => rw [hq] at this; cases this
  generalize hL : opsA.toList.map nopped = l at *
  have hlen : l.length = opsA.size := by rw [← hL, List.length_map, Array.length_toList]
  have hget : ∀ (j : Nat) o, opsA.toList[j]? = some o → l[j]? = some (nopped o) := fun j o h => by rw [← hL, List.getElem?_map, h]; rfl
  have hdr2 : ∀ (j : Nat) y, l[j]? = some y → (∀ e ∈ y.after.toList, Region.binds .any e = true → e.on < j) ∧ ∀ i, i < j → ((masks l []).getD j 0).testBit i = true ∨ ∀ x, l[i]? = some x → pairOk P l x y = true ∨ pairDyn P l i j x y = true := by
    intro j y hy
    unfold drawnOk at hdr
    have := List.all_eq_true.1 hdr j (List.mem_range.2 (List.getElem?_eq_some_iff.1 hy).1)
    rw [hy] at this
    simp only [Bool.and_eq_true, List.all_eq_true] at this
    refine ⟨fun e he hb => ?_, fun i hi => ?_⟩
    · have h1 := this.1 e he
      rw [hb] at h1
      have h2 : Nat.blt e.on j = true := h1
      exact Nat.le_of_ble_eq_true h2
    · have := this.2 i (List.mem_range.2 hi)
      rw [Bool.or_eq_true] at this
      refine this.imp id fun h x hx => ?_
      rw [hx] at h
      exact (Bool.or_eq_true _ _).mp h
  -- what is asked of each
  have hA : ∀ (j : Nat) o, opsA.toList[j]? = some o → isAlloc o = true → ∃ d, o.dst = some d ∧ ∀ (i : Nat) x, opsA.toList[i]? = some x → i ≠ j → x.dst ≠ some d := fun j o ho ha => by
    have hlt := (List.getElem?_eq_some_iff.1 ho).1
    have := List.all_eq_true.1 hall j (List.mem_range.2 hlt)
    rw [ho] at this
    dsimp only at this
    rw [ha, cond_true] at this
    cases hd : o.dst with
    | none => rw [hd] at this; cases this
    | some d =>
      rw [hd] at this
      refine ⟨d, rfl, fun i x hx hij e => ?_⟩
      have h1 := List.all_eq_true.1 this i (List.mem_range.2 (List.getElem?_eq_some_iff.1 hx).1)
      rw [hx, Bool.or_eq_true] at h1
      rcases h1 with h1 | h1
      · exact hij (Nat.eq_of_beq_eq_true h1)
      · dsimp only at h1
        unfold dstFree at h1
        rw [e] at h1
        simp at h1
  have hN : ∀ (j : Nat) o, opsA.toList[j]? = some o → isAlloc o = false → (plainRead o = true ∧ ∀ (i : Nat) x d, opsA.toList[i]? = some x → isAlloc x = true → x.dst = some d → ((masks l []).getD j 0).testBit i = true ∨ d ∉ looks opsA.toList o) ∨
      (∀ (i : Nat) x, opsA.toList[i]? = some x → isAlloc x = true → ((masks l []).getD j 0).testBit i = true) := fun j o ho ha => by
    have hlt := (List.getElem?_eq_some_iff.1 ho).1
    have := List.all_eq_true.1 hall j (List.mem_range.2 hlt)
    rw [ho] at this
    dsimp only at this
    rw [ha, cond_false, Bool.or_eq_true, Bool.and_eq_true] at this
    refine this.imp (fun h => ⟨h.1, fun i x d hx hax hd => ?_⟩) fun h i x hx hax => ?_
    · have h1 := List.all_eq_true.1 h.2 i (List.mem_range.2 (List.getElem?_eq_some_iff.1 hx).1)
      rw [hx] at h1
      dsimp only at h1
      rw [hax, hd] at h1
      simpa using h1
    · have h1 := List.all_eq_true.1 h i (List.mem_range.2 (List.getElem?_eq_some_iff.1 hx).1)
      rw [hx] at h1
      dsimp only at h1
      rw [hax] at h1
      simpa using h1
  have hmin : ∀ listed : Array Bool, listed.size = opsA.size → Region.ready .any opsA listed = [] → pend opsA.size listed = [] := fun listed hsz hr => by
    cases hp : pend opsA.size listed with
    | nil => rfl
    | cons i r2 =>
      have hi : i ∈ pend opsA.size listed := by rw [hp]; simp
      obtain ⟨h1, h2⟩ := List.mem_filter.1 hi
      rw [List.mem_range'_1] at h1
      have hlt : i < opsA.size := by omega
      obtain ⟨A, C, e1, e2, e3, e4, e5⟩ := pend_split hlt (by simpa using h2) hsz
      have hA0 : A = [] := by
        cases A with
        | nil => rfl
        | cons k A =>
          rw [hp] at e1
          cases e1
          exact absurd (e2 i (by simp)).1 (Nat.lt_irrefl _)
      have hbelow : ∀ k, k < i → listed.getD k true = true := fun k hk => by
        cases hkl : listed.getD k true with
        | true => rfl
        | false =>
          obtain ⟨A', C', e1', e2', e3', _, _⟩ := pend_split (n := opsA.size) (j := k) (by omega) hkl hsz
          rw [hp] at e1'
          cases A' with
          | nil => cases e1'; exact absurd hk (Nat.lt_irrefl _)
          | cons q A' => cases e1'; exact absurd (e2' i (by simp)).1 (by omega)
      have hrdy : i ∈ Region.ready .any opsA listed := by
        rw [mem_ready]
        refine ⟨by simpa using h2, opsA[i], Array.getElem?_eq_getElem hlt, fun e he hb => ?_⟩
        have hon := (hdr2 i (nopped opsA[i]) (hget i opsA[i] (by simp [hlt]))).1 e (by rw [nop_after]; simpa using he) hb
        have := hbelow e.on hon
        rw [Array.getD_eq_getD_getElem?] at this ⊢
        rw [Array.getElem?_eq_getElem (by omega)] at this ⊢
        exact this
      rw [hr] at hrdy
      cases hrdy
  have hnone : ∀ listed : Array Bool, listed.size = opsA.size → pend opsA.size listed = [] → ∀ d, ¬ Pnd opsA.toList listed d := fun listed hsz hp d ⟨i, o, ho, _, _, hl⟩ => by
    have hlt : i < opsA.size := by simpa using (List.getElem?_eq_some_iff.1 ho).1
    obtain ⟨A, C, e1, _⟩ := pend_split (n := opsA.size) (j := i) hlt hl hsz
    rw [hp] at e1
    cases A <;> cases e1
  intro fuel
  induction fuel with
  | zero =>
    intro listed g s sh a w hsz hcl h hH hlen2 hrun
    have hnil : pend opsA.size listed = [] := List.length_eq_zero_iff.1 (by omega)
    rw [hnil] at hrun
    cases hrun
    have hs := hst_same hH (hnone listed hsz hnil)
    subst hs
    refine ⟨?_, hk g s a w rfl h⟩
    cases hr : Region.ready .any opsA listed with
    | nil => rfl
    | cons j r2 =>
      have hj : j ∈ Region.ready .any opsA listed := by rw [hr]; simp
      rw [mem_ready] at hj
      obtain ⟨h1, o, ho, _⟩ := hj
      obtain ⟨A, C, e1, _, _, _, _⟩ := pend_split (Array.getElem?_eq_some_iff.1 ho).1 h1 hsz
      rw [hnil] at e1
      cases A <;> cases e1
  | succ fuel ih =>
    intro listed g s sh a w hsz hcl h hH hlen2 hrun
    refine ⟨fun hr => ?_, fun j hj => ?_⟩
    · have hnil := hmin listed hsz hr
      rw [hnil] at hrun
      cases hrun
      have hs := hst_same hH (hnone listed hsz hnil)
      subst hs
      exact hk g s a w rfl h
    · rw [mem_ready] at hj
      obtain ⟨h1, o, ho, hdeps⟩ := hj
      have hlt := (Array.getElem?_eq_some_iff.1 ho).1
      have ho' : opsA.toList[j]? = some o := by rw [Array.getElem?_toList]; exact ho
      have hy := hget j o ho'
      have hdeps' : ∀ e ∈ (nopped o).after.toList, Region.binds .any e = true → listed.getD e.on false = true := fun e he hb => by
        rw [nop_after] at he
        exact hdeps e (by simpa using he) hb
      obtain ⟨A, C, e1, e2, e3, e4, e5⟩ := pend_split hlt h1 hsz
      have hwl : ∀ i, ((masks l []).getD j 0).testBit i = true → listed.getD i false = true := fun i hw => waits_listed (fun j o ho => (hdr2 j o ho).1) hcl j _ hy hdeps' i hw
      have hTF : ∀ i, listed.getD i false = true → listed.getD i true = false → False := fun i g1 g2 => by
        rw [Array.getD_eq_getD_getElem?] at g1 g2
        cases hq : listed[i]? with
        | none => rw [hq] at g1; cases g1
        | some b => rw [hq] at g1 g2; simp at g1 g2; rw [g1] at g2; cases g2
      have hnw : ∀ i, i ∈ A → ((masks l []).getD j 0).testBit i = true → False := fun i hi hw => hTF i (hwl i hw) (e2 i hi).2
      rw [e1] at hrun
      have hmf : ∀ i, i ∈ A → ((masks l []).getD j 0).testBit i = false := fun i hi => by
        cases hq : ((masks l []).getD j 0).testBit i
        · rfl
        · exact (hnw i hi hq).elim
      have hb := bubble (P := P) (np := F.np) (takes := takes) (call := call) hy C r e5 (fun s' e i x p hij hx hm hpo hlc => List.all_eq_true.1 (hend s' e) p (needs_mem hij hx hy hm hpo hlc)) A sh e4 (fun i hi => by
        have hij := (e2 i hi).1
        have hil : i < l.length := by omega
        have hx : l[i]? = some l[i] := List.getElem?_eq_getElem hil
        refine ⟨hij, hmf i hi, l[i], hx, ?_⟩
        rcases (hdr2 j _ hy).2 i hij with hw | hw
        · exact (hnw i hi hw).elim
        · exact hw _ hx) (fun v hv i hi => by
        have hij := (e2 i hi).1
        have hil : i < l.length := by omega
        have hx : l[i]? = some l[i] := List.getElem?_eq_getElem hil
        cases hisT : thrAt l i with
        | false => rfl
        | true =>
        unfold thrAt at hisT
        rw [hx] at hisT
        dsimp only at hisT
        have hT := hthr v hv
        unfold thrOk at hT
        have := List.all_eq_true.1 hT i (List.mem_range.2 hil)
        rw [hx] at this
        dsimp only at this
        have hall : ((List.range l.length).all fun j => Nat.ble j i || ((masks l []).getD j 0).testBit i) = true := by
          unfold isThr at hisT
          split at hisT
          · rename_i hop; rw [hop] at this; exact this
          · rename_i hop; rw [hop] at this; exact this
          · rename_i hop; rw [hop] at this; exact this
          · cases hisT
        have := List.all_eq_true.1 hall j (List.mem_range.2 (by omega))
        rw [Bool.or_eq_true] at this
        rcases this with h3 | h3
        · have := Nat.le_of_ble_eq_true h3; omega
        · exact (hnw i hi h3).elim) hrun
      simp only [runI] at hb
      unfold stI at hb
      rw [hy] at hb
      dsimp only at hb
      unfold wpOp
      rw [ho]
      have hcl' : Closed l (listed.setIfInBounds j true) := fun k o2 hk2 hl2 e he hbd => by
        by_cases hkj : j = k
        · subst hkj
          rw [hy] at hk2
          cases hk2
          exact getD_set_true (hdeps' e he hbd)
        · rw [getD_set_ne false hkj] at hl2
          exact getD_set_true (hcl k o2 hk2 hl2 e he hbd)
      have hlen3 : (pend opsA.size (listed.setIfInBounds j true)).length ≤ fuel := by
        rw [e3]
        rw [e1] at hlen2
        simp at hlen2 ⊢
        omega
      have hgo : o.guard = none := hgd o (List.mem_of_getElem? ho')
      have hoO := hok o (List.mem_of_getElem? ho')
      have hpn : ∀ k, Pnd opsA.toList (listed.setIfInBounds j true) k → Pnd opsA.toList listed k := fun k ⟨i, x, g1, g2, g3, g4⟩ => ⟨i, x, g1, g2, g3, by
        by_cases hij : j = i
        · subst hij; rw [getD_set_self hsz hlt] at g4; cases g4
        · rwa [getD_set_ne true hij] at g4⟩
      cases ha : isAlloc o with
      | true =>
        rw [nop_run ha] at hb
        obtain ⟨d, hd, huniq⟩ := hA j o ho' ha
        have hP : Pnd opsA.toList listed d := ⟨j, o, ho', ha, hd, h1⟩
        obtain ⟨cs, n1, n2, n3, n4⟩ := hH.new j o d ho' ha hd h1
        have hs : stO P F.np true takes call opsA.toList o s = some (.inl (s.addBox d cs)) := (stO_plain hgo s).trans (n1.run s hH.lt (hH.free d hP))
        refine stO_sound hcall h hoO hs (fun g' s' a' w' e hI => ?_) (fun v a' w' e hd hf => by cases e)
        cases e
        have hdl : d < sh.t.length := (List.getElem?_eq_some_iff.1 n2).1
        have hdl2 : d < sh.b.length := (List.getElem?_eq_some_iff.1 n3).1
        have hne : ∀ k, ¬ Pnd opsA.toList (listed.setIfInBounds j true) k → k ≠ d → ¬ Pnd opsA.toList listed k := fun k hk hkd ⟨i, x, g1, g2, g3, g4⟩ => by
          by_cases hij : j = i
          · subst hij
            rw [ho'] at g1
            cases g1
            exact hkd (Option.some.inj (g3.symm.trans hd))
          · exact hk ⟨i, x, g1, g2, g3, by rwa [getD_set_ne true hij]⟩
        have hpd : ∀ e, Pnd opsA.toList (listed.setIfInBounds j true) e → d ≠ e := fun e ⟨i, x, g1, g2, g3, g4⟩ hde => by
          subst hde
          by_cases hij : j = i
          · subst hij; rw [getD_set_self hsz hlt] at g4; cases g4
          · exact huniq i x g1 (Ne.symm hij) g3
        refine ih (listed.setIfInBounds j true) g' _ sh a' w' (by simp [hsz]) hcl' hI ⟨?_, ?_, fun k hk => ?_, fun k hk => ?_, fun i x e hx hax he hli => ?_, fun e he => ?_⟩ hlen3 (by rw [e3]; exact hb)
        · show (s.t.set d _).length = _; rw [List.length_set]; exact hH.lt
        · show (s.b.set d _).length = _; rw [List.length_set]; exact hH.lb
        · show (s.t.set d _)[k]? = _
          by_cases hkd : k = d
          · subst hkd; rw [List.getElem?_set_self (by rw [hH.lt]; exact hdl), n2]
          · rw [List.getElem?_set_ne (Ne.symm hkd)]; exact hH.t k (hne k hk hkd)
        · show (s.b.set d _)[k]? = _
          by_cases hkd : k = d
          · subst hkd; rw [List.getElem?_set_self (by rw [hH.lb]; exact hdl2), n3]
          · rw [List.getElem?_set_ne (Ne.symm hkd)]; exact hH.b k (hne k hk hkd)
        · have hij : j ≠ i := fun q => by subst q; rw [getD_set_self hsz hlt] at hli; cases hli
          rw [getD_set_ne true hij] at hli
          obtain ⟨cs2, m1, m2, m3, m4⟩ := hH.new i x e hx hax he hli
          exact ⟨cs2, m1, m2, m3, fun q hq hne c hc => m4 q (hpn q hq) hne c hc⟩
        · exact addBox_free (hH.free e (hpn e he)) (hpd e he) (fun c hc => n4 e (hpn e he) (hpd e he) c hc)
      | false =>
        rw [nop_keep ha, stO_plain hgo] at hb
        have hpn2 : ∀ k, Pnd opsA.toList listed k → Pnd opsA.toList (listed.setIfInBounds j true) k := fun k ⟨i, x, g1, g2, g3, g4⟩ => ⟨i, x, g1, g2, g3, by
          by_cases hij : j = i
          · subst hij; rw [ho'] at g1; cases g1; rw [ha] at g2; cases g2
          · rwa [getD_set_ne true hij]⟩
        rcases hN j o ho' ha with ⟨hpr, hlk⟩ | hw
        · have hrd := plain_w (P := P) hpr
          have hst : ∀ s2 : St, stE P F.np true takes call o s2 = (rhs P o s2).map fun x => .inl (s2.put o.dst x) := fun s2 => by
            rw [← stO_plain hgo (l := opsA.toList), stO_w (by unfold wOp; rw [hrd]; rfl)]
            unfold wval
            rw [hgo, hrd]
            rfl
          rw [hst] at hb
          have hnp : ∀ t ∈ looks opsA.toList o, ¬ Pnd opsA.toList listed t := fun t htl ⟨i, x, g1, g2, g3, g4⟩ => by
            rcases hlk i x t g1 g2 g3 with hw | hw
            · exact hTF i (hwl i hw) g4
            · exact hw htl
          have hev : ∀ y ∈ o.op.operands.toList, s.ev y = sh.ev y := fun y hy => by
            cases y with
            | tmp t =>
              have := hH.t t (hnp t (by unfold looks; exact List.mem_append.2 (.inl (List.mem_filterMap.2 ⟨_, hy, rfl⟩))))
              show s.t.getD t .dead = sh.t.getD t .dead
              rw [List.getD_eq_getElem?_getD, List.getD_eq_getElem?_getD, this]
            | const x => rfl
            | func g => rfl
            | global g => rfl
          have hrhs : rhs P o s = rhs P o sh := rhs_congr' (fun T x hop => by
            have hx : s.ev x = sh.ev x := hev x (by rw [hop]; simp [Op.operands])
            rw [← hx]
            cases hA2 : s.ev x <;> first | rfl | skip
            rename_i e off
            have hnp2 : ¬ Pnd opsA.toList listed e := fun hp => by
              have := (free_ev (hH.free e hp) x).1
              rw [hA2] at this
              have h9 : (bif e == e then AV.dead else AV.box e off) = AV.box e off := this
              rw [beq_self_eq_true] at h9
              cases h9
            show (s.boxAt e).map _ = (sh.boxAt e).map _
            unfold St.boxAt
            rw [List.getD_eq_getElem?_getD, List.getD_eq_getElem?_getD, hH.b e hnp2]) hev
          cases hv : rhs P o sh with
          | none => rw [hv] at hb; cases hb
          | some v =>
            rw [hv] at hb
            have hvs : rhs P o s = some v := hrhs.trans hv
            have hs : stO P F.np true takes call opsA.toList o s = some (.inl (s.put o.dst v)) := by rw [stO_plain hgo, hst, hvs]; rfl
            refine stO_sound hcall h hoO hs (fun g' s' a' w' e hI => ?_) (fun v a' w' e hd hf => by cases e)
            cases e
            have hpl : ∀ s2 : St, (s2.put o.dst v).t.length = s2.t.length ∧ (s2.put o.dst v).b = s2.b := fun s2 => by
              cases o.dst with
              | none => exact ⟨rfl, rfl⟩
              | some d => exact ⟨List.length_set .., rfl⟩
            refine ih (listed.setIfInBounds j true) g' _ (sh.put o.dst v) a' w' (by simp [hsz]) hcl' hI ⟨?_, ?_, fun k hk => ?_, fun k hk => ?_, fun i x e hx hax he hli => ?_, fun e he => ?_⟩ hlen3 (by rw [e3]; exact hb)
            · rw [(hpl s).1, (hpl sh).1]; exact hH.lt
            · rw [(hpl s).2, (hpl sh).2]; exact hH.lb
            · have hk2 := hH.t k (fun hp => hk (hpn2 k hp))
              cases hd : o.dst with
              | none => exact hk2
              | some d =>
                show (s.t.set d v)[k]? = (sh.t.set d v)[k]?
                rw [List.getElem?_set, List.getElem?_set, hH.lt, hk2]
            · rw [(hpl s).2, (hpl sh).2]; exact hH.b k (fun hp => hk (hpn2 k hp))
            · have hij : j ≠ i := fun q => by subst q; rw [getD_set_self hsz hlt] at hli; cases hli
              rw [getD_set_ne true hij] at hli
              obtain ⟨cs2, m1, m2, m3, m4⟩ := hH.new i x e hx hax he hli
              rw [(hpl sh).1, (hpl sh).2]
              refine ⟨cs2, m1, ?_, m3, fun q hq hne c hc => m4 q (hpn q hq) hne c hc⟩
              obtain ⟨d2, hd2, hu2⟩ := hA i x hx hax
              have hed : d2 = e := Option.some.inj (hd2.symm.trans he)
              subst hed
              have hod := hu2 j o ho' hij
              cases hd : o.dst with
              | none => exact m2
              | some d =>
                show (sh.t.set d v)[d2]? = _
                rw [List.getElem?_set_ne (fun q => hod (by rw [hd, q]))]
                exact m2
            · have hf := hH.free e (hpn e he)
              have hvf := plain_free hpr hf hvs
              cases hd : o.dst with
              | none => exact hf
              | some d =>
                refine ⟨fun x hx => ?_, hf.b⟩
                rcases List.mem_or_eq_of_mem_set hx with h9 | h9
                · exact hf.t x h9
                · subst h9; exact hvf
        · have hnp : ∀ d, ¬ Pnd opsA.toList listed d := fun d ⟨i, x, g1, g2, g3, g4⟩ => hTF i (hwl i (hw i x g1 g2)) g4
          have hs := hst_same hH hnp
          subst hs
          cases hs2 : stE P F.np true takes call o s with
          | none => rw [hs2] at hb; cases hb
          | some r1 =>
            rw [hs2] at hb
            have hs3 : stO P F.np true takes call opsA.toList o s = some r1 := (stO_plain hgo s).trans hs2
            refine stO_sound hcall h hoO hs3 (fun g' s' a' w' e hI => ?_) (fun v a' w' e hd hf => ?_)
            · subst e
              have hnp' : ∀ d, ¬ Pnd opsA.toList (listed.setIfInBounds j true) d := fun d hp => hnp d (hpn d hp)
              refine ih (listed.setIfInBounds j true) g' s' s' a' w' (by simp [hsz]) hcl' hI ⟨rfl, rfl, fun _ _ => rfl, fun _ _ => rfl, fun i x e hx hax he hli => (hnp' e ⟨i, x, hx, hax, he, hli⟩).elim, fun e he => (hnp' e he).elim⟩ hlen3 (by rw [e3]; exact hb)
            · subst e
              cases hb
              exact ht v a' w' rfl hd hf
theorem region_hoist {id : Nat} {opsA : Array Oper} {g : Gh} {s sh : St} {a : Act} {w : World} (hm : P.follows .mixedOrders = true) (hst : hoistOk P opsA.toList = true) (hok : ∀ o ∈ opsA.toList, okOp o = true) (hcall : SoundCall P call) {Q : Exit → Act → World → Prop} (r : St ⊕ Value) (hthr : ∀ v, r = .inr v → thrOk (opsA.toList.map nopped) = true) (hend : ∀ s', r = .inl s' → endOk P (opsA.toList.map nopped) s' = true)
    (h : Inv P F g s a w) (hfr : (allocDs opsA.toList).all s.fresh = true) (hsh : allocsS P F.np (allocDs opsA.toList) opsA.toList s = some sh) (hrun : runO P F.np true takes call (opsA.toList.map nopped) (opsA.toList.map nopped) sh = some r)
    (hk : ∀ g' s' a' w', r = .inl s' → Inv P F g' s' a' w' → Q .normal a' w') (ht : ∀ v a' w', r = .inr v → a'.defers = F.ds → Fr F.T F.w0 w' → Q (.panic [{ v := v, recovered := false }]) a' w') : (Code.region id opsA true).wp P Q a w := by
  have hp : pend opsA.size (Array.replicate opsA.size false) = List.range' 0 opsA.size := by
    unfold pend
    rw [List.filter_eq_self]
    intro i hi
    rw [List.mem_range'_1] at hi
    have : i < opsA.size := by omega
    simp [this]
  have hmemD : ∀ (i : Nat) o d, opsA.toList[i]? = some o → isAlloc o = true → o.dst = some d → d ∈ allocDs opsA.toList := fun i o d ho ha hd => by
    unfold allocDs
    exact List.mem_filterMap.2 ⟨o, List.mem_of_getElem? ho, by rw [ha]; exact hd⟩
  obtain ⟨e1, e2, e3, e4⟩ := allocs_spec (P := P) (np := F.np) (takes := takes) (call := call) opsA.toList s sh hsh h.blen
  refine wp_region_any hm (any_hoist (takes := takes) hst hok hcall r hthr hend hk ht opsA.size _ g s sh a _ (by simp) (fun k o hk hl => ?_) h.drew ⟨e1.symm, e2.symm, fun k hk => ?_, fun k hk => ?_, fun i o d ho ha hd hl => ?_, fun d ⟨i, o, ho, ha, hd, hl⟩ => ?_⟩ (by rw [hp]; simp) ?_)
  · by_cases hlt : k < opsA.size <;> simp [hlt] at hl
  · refine (e3 k fun hm => hk ?_).1.symm
    unfold allocDs at hm
    obtain ⟨o, ho, hod⟩ := List.mem_filterMap.1 hm
    obtain ⟨i, hi⟩ := List.getElem?_of_mem ho
    have hlt : i < opsA.size := by simpa using (List.getElem?_eq_some_iff.1 hi).1
    cases ha : isAlloc o <;> rw [ha] at hod
    · cases hod
    · exact ⟨i, o, hi, ha, hod, by simp [hlt]⟩
  · refine (e3 k fun hm => hk ?_).2.symm
    unfold allocDs at hm
    obtain ⟨o, ho, hod⟩ := List.mem_filterMap.1 hm
    obtain ⟨i, hi⟩ := List.getElem?_of_mem ho
    have hlt : i < opsA.size := by simpa using (List.getElem?_eq_some_iff.1 hi).1
    cases ha : isAlloc o <;> rw [ha] at hod
    · cases hod
    · exact ⟨i, o, hi, ha, hod, by simp [hlt]⟩
  · obtain ⟨cs, n1, n2, n3, n4⟩ := e4 o (List.mem_of_getElem? ho) ha d hd
    rw [e1]
    exact ⟨cs, n1, n2, n3, fun e ⟨i2, o2, ho2, ha2, hd2, _⟩ hne c hc => n4 e (hmemD i2 o2 e ho2 ha2 hd2) hne c hc⟩
  · exact fresh_sound (List.all_eq_true.1 hfr d (hmemD i o d ho ha hd))
  · rw [hp]
    have := runI_range (P := P) (np := F.np) (takes := takes) (call := call) (ops := opsA.toList.map nopped) (opsA.toList.map nopped) 0 sh (fun j _ => by rw [Nat.zero_add])
    rw [List.length_map, Array.length_toList] at this
    rw [this]; exact hrun
end
end Go.Proofs.YtckdgcpomkefpaaGreatDoor.En
end
