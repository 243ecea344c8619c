/- The evaluation of a region, groups joined, is a plain run. -/
import Derived.Test.YtckdgcpomkefpaaGreatDoorEn15
set_option linter.unusedVariables false
set_option linter.unusedSimpArgs false
namespace Go.Proofs.YtckdgcpomkefpaaGreatDoor.En
open Go
section
variable {P : Program} {s : St} {np : Nat} {dr : Bool} {takes : FuncId → Option Nat} {call : CallF} {D : List Nat} {ops : List Oper}

theorem put_same {tj : Nat} {x : AV} (h : s.get tj = x) (hx : x ≠ .dead) : s.put (some tj) x = s := by
  have h1 := St.get_lt h hx
  obtain ⟨t, b⟩ := s
  show (⟨t.set tj x, b⟩ : St) = ⟨t, b⟩
  congr 1
  apply List.ext_getElem?
  intro i
  rw [List.getElem?_set]
  split
  · rename_i e
    subst e
    rw [if_pos (List.getElem?_eq_some_iff.1 h1).1, h1]
  · rfl
theorem yieldB_get {j tj : Nat} {b : Bool} (h : yieldB s ops j = some (some b)) (ht : tmpOf ops j = some tj) : s.get tj = B b := by
  unfold yieldB at h
  unfold tmpOf at ht
  rw [ht] at h
  dsimp only at h
  split at h
  · rename_i c hc; cases h; exact hc
  · cases h
  · cases h
theorem Agree.forget {E : List Nat} {s s' : St} (h : Agree E s s') : forget E (forget D s) = forget (E ++ D) s' := by
  unfold En.forget
  rw [h.b]
  congr 1
  apply List.ext_getElem?
  intro i
  rw [forgetL_get, forgetL_get, forgetL_get]
  simp only [Nat.zero_add]
  by_cases hi : i ∈ E
  · have e1 : E.contains i = true := by simpa using hi
    have e2 : (E ++ D).contains i = true := by simp [hi]
    rw [e1, e2]
    have hl := h.len
    by_cases hlt : i < s.t.length
    · rw [List.getElem?_eq_getElem hlt, List.getElem?_eq_getElem (show i < s'.t.length by omega)]; rfl
    · rw [List.getElem?_eq_none (Nat.le_of_not_lt hlt), List.getElem?_eq_none (show s'.t.length ≤ i by omega)]; rfl
  · rw [h.t i hi]
    have e1 : E.contains i = false := ncontains hi
    have e2 : (E ++ D).contains i = D.contains i := by
      rw [Bool.eq_iff_iff]; simp [hi]
    rw [e1, e2]
    cases s.t[i]? <;> rfl
theorem forget_ev_some {y : Operand} {x : AV} (h : (forget D s).ev y = x) (hx : x ≠ .dead) : s.ev y = x := by
  cases y with
  | tmp t =>
    by_cases ht : t ∈ D
    · exact absurd ((show (forget D s).get t = x from h).symm.trans (forget_get_in ht)) hx
    · exact (forget_get ht).symm.trans h
  | _ => exact h
theorem asB_eq {x : AV} {b : Bool} (h : asB x = some b) : x = B b := by
  unfold asB at h
  split at h
  · cases h; rfl
  · cases h
theorem pick_step {p : Oper} {c x y : Operand} {b t : Bool} (hp : p.op = .pick c x y) (hc : s.ev c = B b) (ht : s.ev (bif b then x else y) = B t) : stE P np dr takes call p s = some (.inl (s.put p.dst (B t))) := by
  obtain ⟨dst, op, ty, pos, after, guard⟩ := p
  dsimp only at hp
  subst hp
  unfold stE
  rw [evOp_def]
  unfold rhs
  dsimp only [reads, cond_true]
  rw [hc]
  dsimp only [B]
  cases b <;> dsimp only [cond_true, cond_false] at ht ⊢ <;> split <;> (try rw [ht]) <;> (try rfl)
  · rename_i h1 h2
    rw [h2] at ht; cases ht; rfl
  · rename_i h1 h2
    rw [h1] at ht; cases ht; rfl

theorem evOps_run : ∀ (m : Nat) {β : Type} (takes : FuncId → Option Nat) (call : CallF) (thr : Value → Option β) (l : List Oper) (s : St) (D : List Nat) (k : St → Option β) (out : β), okGroups ops l = true → (∀ o ∈ l, Avoids ops D o) →
    evOps P np dr takes call thr ops m l (forget D s) k = some out →
    ∃ r, runO P np dr takes call ops l s = some r ∧ (∀ s', r = .inl s' → ∃ D', k (forget D' s') = some out) ∧ (∀ v, r = .inr v → thr v = some out)
  | 0, β, takes, call, thr, l, s, D, k, out, hg, ha, h => by simp [evOps] at h
  | m + 1, β, takes, call, thr, [], s, D, k, out, hg, ha, h => ⟨.inl s, rfl, fun s' e => by cases e; exact ⟨D, h⟩, fun v e => by cases e⟩
  | m + 1, β, takes, call, thr, o :: l, s, D, k, out, hg, ha, h => by
    have hao := ha o (by simp)
    have hal : ∀ o ∈ l, Avoids ops D o := fun o ho => ha o (by simp [ho])
    have hgl : okGroups ops l = true := okGroups_suf (l := [o]) hg
    -- a plain step
    have plain : wantB s ops o.guard = some true → evOp P np dr takes call thr o (forget D s) (fun s => evOps P np dr takes call thr ops m l s k) = some out →
        ∃ r, runO P np dr takes call ops (o :: l) s = some r ∧ (∀ s', r = .inl s' → ∃ D', k (forget D' s') = some out) ∧ (∀ v, r = .inr v → thr v = some out) := fun hw he => by
      rw [evOp_st, stE_forget hao.opd hao.dst] at he
      unfold runO stO
      rw [hw]
      simp only [Option.bind_some, cond_true]
      cases hs : stE P np dr takes call o s with
      | none => rw [hs] at he; cases he
      | some r1 =>
        rw [hs] at he
        cases r1 with
        | inl s1 => exact evOps_run m takes call thr l s1 D k out hgl hal he
        | inr v => exact ⟨.inr v, rfl, fun s' e => (by cases e), fun v' e => (by cases e; exact he)⟩
    have skip : wantB s ops o.guard = some false → evOps P np dr takes call thr ops m l ((forget D s).put o.dst (.tup [])) k = some out →
        ∃ r, runO P np dr takes call ops (o :: l) s = some r ∧ (∀ s', r = .inl s' → ∃ D', k (forget D' s') = some out) ∧ (∀ v, r = .inr v → thr v = some out) := fun hw he => by
      rw [forget_put hao.dst] at he
      unfold runO stO
      rw [hw]
      simp only [Option.bind_some, cond_false]
      exact evOps_run m takes call thr l _ D k out hgl hal he
    unfold evOps at h
    cases hgd : o.guard with
    | none =>
      rw [hgd] at h
      exact plain (by rw [hgd]; rfl) h
    | some jw =>
      obtain ⟨j, want⟩ := jw
      rw [hgd] at h
      dsimp only at h
      cases hy : yieldB (forget D s) ops j with
      | none => rw [hy] at h; cases h
      | some yb =>
        rw [hy] at h
        obtain ⟨hy', hyD⟩ := yieldB_forget hy
        cases yb with
        | none =>
          refine skip ?_ h
          rw [hgd]
          unfold wantB
          dsimp only
          rw [hy']
        | some b =>
          dsimp only at h
          cases ht : tmpOf ops j with
          | none => rw [ht] at h; cases h
          | some tj =>
            rw [ht] at h
            dsimp only at h
            have hwant : wantB s ops o.guard = some (b == want) := by
              rw [hgd]; unfold wantB; dsimp only; rw [hy']
            have hgetF := yieldB_get hy ht
            have hget := yieldB_get hy' ht
            cases hj : join P takes tj (o :: l) with
            | none =>
              rw [hj] at h
              dsimp only at h
              cases hb : (b == want) <;> rw [hb] at h <;> simp only [cond_true, cond_false] at h
              · have e : (!want) = b := by cases b <;> cases want <;> first | rfl | cases hb
                rw [e, put_same hgetF (by intro e; cases e)] at h
                exact skip (by rw [hwant, hb]) h
              · have e : want = b := by cases b <;> cases want <;> first | rfl | cases hb
                rw [e, put_same hgetF (by intro e; cases e)] at h
                exact plain (by rw [hwant, hb]) h
            | some q =>
              obtain ⟨g, p, x, y, r'⟩ := q
              rw [hj] at h
              dsimp only at h
              obtain ⟨pw, hpw, h⟩ := Option.bind_eq_some_iff.1 h
              obtain ⟨t, hgt, h⟩ := Option.bind_eq_some_iff.1 h
              -- what is joined
              unfold join at hj
              obtain ⟨⟨g', p', r2⟩, hgr, hj⟩ := Option.bind_eq_some_iff.1 hj
              dsimp only at hj
              split at hj
              · rename_i c x' y' hop
                obtain ⟨hc, hj⟩ := bif_some hj
                cases hj
                simp only [Bool.and_eq_true, List.all_eq_true] at hc
                obtain ⟨⟨hq, hpd⟩, htj⟩ := hc
                obtain ⟨el, x2, y2, hop2⟩ := groupOf_spec hgr
                rw [hop] at hop2
                cases hop2
                have hgok : grpOk ops g p r' = true := by
                  unfold okGroups at hg
                  simp only [Bool.and_eq_true] at hg
                  have := hg.2
                  rw [hgd] at this
                  dsimp only at this
                  rw [ht] at this
                  dsimp only at this
                  rw [hgr] at this
                  exact this
                unfold grpOk at hgok
                simp only [Bool.and_eq_true, List.all_eq_true] at hgok
                obtain ⟨hr1, hp1⟩ := hgok
                have hgg : okGroups ops g = true := okGroups_pre (l2 := p :: r') (by rw [← el]; exact hg)
                have hgr' : okGroups ops r' = true := okGroups_suf (l := g ++ [p]) (by rw [List.append_assoc]; rw [show [p] ++ r' = p :: r' from rfl, ← el]; exact hg)
                have hag : ∀ o ∈ g, Avoids ops D o := fun o' ho' => ha o' (by rw [el]; simp [ho'])
                have hap : Avoids ops D p := ha p (by rw [el]; simp)
                have har : ∀ o ∈ r', Avoids ops D o := fun o' ho' => ha o' (by rw [el]; simp [ho'])
                -- the group's own run
                have hrun : ∃ s1, runO P np dr takes call ops g s = some (.inl s1) ∧ Agree (dstsOf g) s s1 ∧ s1.ev (bif b then x else y) = B t := by
                  have key : ∀ (z : Operand), evOps P np dr (fun _ => none) (quietC call) (fun _ => none) ops m g ((forget D s).put (some tj) (B b)) (fun s => asB (s.ev z)) = some t → ∃ s1, runO P np dr takes call ops g s = some (.inl s1) ∧ Agree (dstsOf g) s s1 ∧ s1.ev z = B t := fun z hz => by
                    rw [put_same hgetF (by intro e; cases e)] at hz
                    obtain ⟨r, hr, h1, h2⟩ := evOps_run m (fun _ => none) (quietC call) (fun _ => none) g s D _ t hgg hag hz
                    cases r with
                    | inr v => cases h2 v rfl
                    | inl s1 =>
                      obtain ⟨D', hD'⟩ := h1 s1 rfl
                      obtain ⟨e1, e2⟩ := quiet_run (P := P) (np := np) (takes := takes) (call := call) (ops := ops) (D := dstsOf g) g s s1 (fun o ho => hq o ho) (fun o ho e he => List.mem_filterMap.2 ⟨o, ho, he⟩) hr
                      exact ⟨s1, e1, e2, forget_ev_some (asB_eq hD') (by intro e; cases e)⟩
                  cases b
                  · exact key y hgt
                  · exact key x hgt
                obtain ⟨s1, hrun, hagree, hz⟩ := hrun
                have hF : deadAll g (forget D s) = forget (dstsOf g ++ D) s1 := hagree.forget
                rw [hF] at hpw h
                have hc1 : s1.ev (.tmp tj) = B b := by
                  show s1.get tj = B b
                  have hn : tj ∉ dstsOf g := fun hm => by
                    obtain ⟨o', ho', he'⟩ := List.mem_filterMap.1 hm
                    have := htj o' ho'
                    rw [he'] at this
                    simp at this
                  unfold St.get at hget ⊢
                  rw [List.getD_eq_getElem?_getD] at hget ⊢
                  rw [hagree.t tj hn]; exact hget
                have hpd' : ∀ e, p.dst = some e → e ∉ dstsOf g ++ D := fun e he hm => by
                  rcases List.mem_append.1 hm with hm | hm
                  · rw [he] at hp1
                    simp [hm] at hp1
                  · exact hap.dst e he hm
                rw [forget_put hpd'] at h
                obtain ⟨r, hr, h1, h2⟩ := evOps_run m takes call thr r' (s1.put p.dst (bif pw then B t else .tup [])) (dstsOf g ++ D) k out hgr' (fun o ho => (avoids_of (hr1 o ho)).app (har o ho)) h
                refine ⟨r, ?_, h1, h2⟩
                rw [el, runO_append, hrun]
                show runO P np dr takes call ops (p :: r') s1 = some r
                unfold runO stO
                rw [wantB_forget hpw]
                simp only [Option.bind_some]
                cases pw <;> simp only [cond_true, cond_false] at hr ⊢
                · exact hr
                · rw [pick_step hop hc1 hz]
                  exact hr
              · cases hj
end
end Go.Proofs.YtckdgcpomkefpaaGreatDoor.En
