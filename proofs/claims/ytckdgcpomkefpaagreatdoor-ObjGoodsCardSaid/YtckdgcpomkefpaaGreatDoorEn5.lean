/- Operations that make or write memory follow the plain evaluator. -/
import Derived.Test.YtckdgcpomkefpaaGreatDoorEn4
import Derived.Lib.AppendStr
set_option linter.unusedVariables false
set_option linter.unusedSimpArgs false
namespace Go.Proofs.YtckdgcpomkefpaaGreatDoor.En
open Go
section
variable {P : Program} {F : Fx} {g : Gh} {s : St} {a : Act} {w : World}

theorem wp_value {o : Oper} {K : Act → World → Prop} {Q : Exit → Act → World → Prop} {v : Value} {w' : World} (h : (execOp a.eval o).run P w = .ok (.value v) w') (hK : K (a.put o.dst v) w') : o.wp P a w K Q := by
  unfold Oper.wp; rw [h]; exact hK
theorem wp_skip' {o : Oper} {K : Act → World → Prop} {Q : Exit → Act → World → Prop} {w' : World} (h : (execOp a.eval o).run P w = .ok .skip w') (hK : K (a.put o.dst undef) w') : o.wp P a w K Q := by
  unfold Oper.wp; rw [h]; exact hK
/-! ### a variable of its own -/
theorem Inv.assign (h : Inv P F g s a w) {T : TypeId} {d : Nat} {x : AV} {v : Value} (hx : RepS P g w x v) : ∃ g', Inv P F g' (s.assign P T d x) (a.put (some d) v) w := by
  unfold St.assign
  split
  · rename_i n E l
    cases hn : (n == d)
    · simp only [cond_false]
      have hne : n ≠ d := by simpa using hn
      have h1 := h.kills (killF_kills d)
      have hd0 : (g.kills (killF d)).tk d = none := kills_tk (killF_kills d) (killF_self d)
      have h2 := h1.ren hd0 hne
      obtain ⟨hr, ht⟩ := (show RepC P g w (.row (some n) E l) v from hx)
      refine ⟨_, h2.put (some d) (x := .row (some d) E l) ⟨hr, fun m hm => ?_⟩⟩
      cases hm
      show (if d = d then (g.kills (killF d)).tk n else if d = n then none else (g.kills (killF d)).tk d) = some (v, E)
      rw [if_pos rfl]
      show (match killF d (some n) with | some _ => g.tk n | none => none) = some (v, E)
      have : killF d (some n) = some n := by simp [killF, hn]
      rw [this]
      exact ht n rfl
    · have : n = d := by simpa using hn
      exact ⟨g, h.put (some d) hx⟩
  · split
    · rename_i E hE
      have h1 := h.kills (killF_kills d)
      have hd0 : (g.kills (killF d)).tk d = none := kills_tk (killF_kills d) (killF_self d)
      have h2 := h1.nils (N := one1 d E) (fun m hm => by
        unfold one1 at hm
        by_cases e : m = d
        · rw [e]; exact hd0
        · rw [if_neg e] at hm; exact absurd rfl hm)
      obtain ⟨rfl, _⟩ := (show v = .slice none 0 0 ∧ _ from hx)
      refine ⟨_, h2.put (some d) (x := .row (some d) E []) ⟨.nil _ _ _, fun m hm => ?_⟩⟩
      cases hm
      show (match one1 d E d with | some E => some (Value.slice none 0 0, E) | none => _) = _
      simp [one1]
    · exact ⟨g, h.put (some d) hx⟩
  · exact ⟨g, h.put (some d) hx⟩
/-! ### new boxes -/
theorem cellsAt_get (o : Option TypeId) (d : Nat) : ∀ (j0 : Nat) (ks : List CK) (cs : List AV), ks.length = cs.length → ∀ i : Nat, (cellsAt o d j0 ks cs)[i]? = (cs[i]?).bind fun c => (ks[i]?).map fun k => cellAt o d (j0 + i) k c
  | j0, [], [], _, i => by simp [cellsAt]
  | j0, k :: ks, c :: cs, h, 0 => by simp [cellsAt]
  | j0, k :: ks, c :: cs, h, i + 1 => by
    have := cellsAt_get o d (j0 + 1) ks cs (by simpa using h) i
    simp only [cellsAt, List.getElem?_cons_succ, this, Nat.add_assoc, Nat.add_comm 1 i]
  | _, [], _ :: _, h, _ => by simp at h
  | _, _ :: _, [], h, _ => by simp at h
theorem cellsAt_len (o : Option TypeId) (d : Nat) : ∀ (j0 : Nat) (ks : List CK) (cs : List AV), ks.length = cs.length → (cellsAt o d j0 ks cs).length = cs.length
  | j0, [], [], _ => rfl
  | j0, k :: ks, c :: cs, h => by simp [cellsAt, cellsAt_len o d (j0 + 1) ks cs (by simpa using h)]
  | _, [], _ :: _, h => by simp at h
  | _, _ :: _, [], h => by simp at h
/-- A cell, laid into box d. -/
theorem cellAt_rep {g' : Gh} {T : TypeId} {d j β : Nat} {k : CK} {c : AV} {u : Value} (hG : g'.G = g.G) (hb : ∀ e, e ≠ d → g'.bx e = g.bx e) (hN : ∀ E, k = .row E → g'.tk (sub d j) = some (.slice none 0 0, E)) (h : RepC P g w c u) :
    RepB P g' w T β j ((cellAt (some T) d j k c).nobox1 d) u := by
  cases c with
  | v x =>
    obtain ⟨rfl, h1⟩ := h
    by_cases e1 : u = .slice none 0 0
    · subst e1
      cases k with
      | row E => exact ⟨.nil _ _ _, fun n hn => by cases hn; exact hN E rfl⟩
      | _ => exact ⟨rfl, h1⟩
    · by_cases e2 : u = .pointer none
      · subst e2
        cases k with
        | self => exact ⟨rfl, .inl rfl⟩
        | _ => exact ⟨rfl, h1⟩
      · have : cellAt (some T) d j k (.v u) = .v u := by
          unfold cellAt
          split <;> first | rfl | (rename_i e; cases e; first | exact absurd rfl e1 | exact absurd rfl e2 | rfl) | skip
          all_goals (rename_i e; cases e)
        rw [this]
        exact ⟨rfl, h1⟩
  | row t E l => exact ⟨hG ▸ h.1, fun n hn => by cases hn⟩
  | box e o =>
    obtain ⟨β', h1, h2⟩ := h
    by_cases hed : e = d
    · subst hed
      have : (cellAt (some T) e j k (.box e o)).nobox1 e = .dead := by simp [cellAt, AV.nobox1]
      rw [this, h2]; rfl
    · have h0 : (e == d) = false := by simpa using hed
      have : (cellAt (some T) d j k (.box e o)).nobox1 d = .box e o := by simp [cellAt, AV.nobox1, h0]
      rw [this]
      exact ⟨β', (hb e hed).trans h1, h2⟩
  | ro cs =>
    obtain ⟨β', o, h1, h2⟩ := h
    refine ⟨β', o, h1, fun i c hi => ?_⟩
    obtain ⟨u, e1, e2, e3⟩ := h2 i c hi
    refine ⟨u, e1, by rw [hG]; exact e2, ?_⟩
    cases c <;> simp only [Rep0] at e3 ⊢ <;> first | exact e3 | exact ⟨e3.1, hG ▸ e3.2⟩
  | dead => exact h
  | agg cs => exact h.elim
  | tup cs => exact h.elim
  | self => exact h.elim
def subN (d : Nat) (ks : List CK) (n : Nat) : Option TypeId := if n / 1024 = d + 1 then (match ks[n % 1024]? with | some (.row E) => some E | _ => none) else none
theorem Inv.newBox (h : Inv P F g s a w) {d : Nat} (hd : F.np ≤ d) (hlt : d < s.t.length) {w1 : World} {us : Array Value} {T : TypeId} (hw : Push w w1 (.cells us T (0, 0))) {ks : List CK} {cs : List AV} (hk : ks.length ≤ 1024) (hkc : ks.length = cs.length) (hsz : us.size = cs.length)
    (hr : ∀ (j : Nat) c, cs[j]? = some c → ∃ u, us[j]? = some u ∧ RepC P g w c u) :
    ∃ g', Inv P F g' (s.newBox d (cellsAt (some T) d 0 ks cs)) (a.put (some d) (.pointer (some ⟨w.heap.size, 0, none⟩))) w1 := by
  have hkl := killsF_kills d 0 1024
  have h1 := h.kills hkl
  have h2 := h1.drop d hd
  have hN : ∀ n, subN d ks n ≠ none → ((g.kills (killsF d 0 1024)).box d none).tk n = none := fun n hn => by
    unfold subN at hn
    by_cases e : n / 1024 = d + 1
    · refine kills_tk (g := g) hkl ?_
      have hm : n % 1024 < 1024 := Nat.mod_lt _ (by decide)
      have : n = sub d (n % 1024) := by unfold sub; omega
      rw [this]
      exact killsF_sub d 0 1024 _ hm (Nat.zero_le _) hm
    · rw [if_neg e] at hn; exact absurd rfl hn
  have h3 := h2.nils hN
  have hbl : d < s.b.length := by rw [h.blen]; exact hlt
  have h4 := h3.addBox hd (by simpa [St.drop, St.tok] using hlt) (by simp [St.drop, St.tok, hbl]) (by show (if d = d then none else _) = none; rw [if_pos rfl]) (us := us) (T := T) hw (cs := (cellsAt (some T) d 0 ks cs).map (AV.nobox1 d)) (by simp [cellsAt_len (some T) d 0 ks cs hkc, hsz]) (fun j c hj => by
    rw [List.getElem?_map, cellsAt_get (some T) d 0 ks cs hkc] at hj
    obtain ⟨c1, hc1, rfl⟩ := Option.map_eq_some_iff.1 hj
    obtain ⟨c0, hc0, hc1⟩ := Option.bind_eq_some_iff.1 hc1
    obtain ⟨k, hkk, rfl⟩ := Option.map_eq_some_iff.1 hc1
    obtain ⟨u, hu, hrc⟩ := hr j c0 hc0
    refine ⟨u, hu, ?_⟩
    rw [Nat.zero_add]
    have hj' : j < 1024 := Nat.lt_of_lt_of_le (List.getElem?_eq_some_iff.1 hkk).1 hk
    refine cellAt_rep (g := g) rfl (fun e he => by show (if e = d then none else g.bx e) = g.bx e; rw [if_neg he]) (fun E hE => ?_) hrc
    show (match subN d ks (sub d j) with | some E => some (Value.slice none 0 0, E) | none => _) = _
    have : subN d ks (sub d j) = some E := by
      unfold subN
      rw [if_pos (sub_div d j hj'), sub_mod d j hj', hkk, hE]
    rw [this])
  have he : s.newBox d (cellsAt (some T) d 0 ks cs) = (((s.tok (killsF d 0 1024)).drop d).setBox d ((cellsAt (some T) d 0 ks cs).map (AV.nobox1 d))).put (some d) (.box d 0) := by
    simp [St.newBox, St.drop, St.setBox, St.put, List.set_set]
  rw [he]
  exact ⟨_, h4⟩
/-! ### stores -/
theorem cellAt_rep0 {g' : Gh} {T : TypeId} {d j β : Nat} {k : CK} {c : AV} {u : Value} (hG : g'.G = g.G) (hb : g'.bx = g.bx) (hN : ∀ E, k = .row E → g'.tk (sub d j) = some (.slice none 0 0, E)) (h : RepC P g w c u) :
    RepB P g' w T β j (cellAt none d j k c) u := by
  cases c with
  | v x =>
    obtain ⟨rfl, h1⟩ := h
    by_cases e1 : u = .slice none 0 0
    · subst e1
      cases k with
      | row E => exact ⟨.nil _ _ _, fun n hn => by cases hn; exact hN E rfl⟩
      | _ => exact ⟨rfl, h1⟩
    · by_cases e2 : u = .pointer none
      · subst e2
        cases k with
        | self => exact ⟨rfl, h1⟩
        | _ => exact ⟨rfl, h1⟩
      · have : cellAt none d j k (.v u) = .v u := by
          unfold cellAt
          split <;> first | rfl | (rename_i e; cases e; first | exact absurd rfl e1 | exact absurd rfl e2 | rfl) | skip
          all_goals (rename_i e; cases e)
        rw [this]
        exact ⟨rfl, h1⟩
  | row t E l => exact ⟨hG ▸ h.1, fun n hn => by cases hn⟩
  | box e o =>
    obtain ⟨β', h1, h2⟩ := h
    exact ⟨β', by rw [hb]; exact h1, h2⟩
  | ro cs =>
    obtain ⟨β', o, h1, h2⟩ := h
    refine ⟨β', o, h1, fun i c hi => ?_⟩
    obtain ⟨u, e1, e2, e3⟩ := h2 i c hi
    refine ⟨u, e1, by rw [hG]; exact e2, ?_⟩
    cases c <;> simp only [Rep0] at e3 ⊢ <;> first | exact e3 | exact ⟨e3.1, hG ▸ e3.2⟩
  | dead => exact h
  | agg cs => exact h.elim
  | tup cs => exact h.elim
  | self => exact h.elim
theorem boxAt_eq {d : Nat} {cs : List AV} (h : s.boxAt d = some cs) : s.b[d]? = some (some cs) := by
  unfold St.boxAt at h
  rw [List.getD_eq_getElem?_getD] at h
  cases hq : s.b[d]? with
  | none => rw [hq] at h; cases h
  | some o => rw [hq] at h; exact congrArg some h
/-- A run of cells is stored. -/
theorem runs_storeVar {T : TypeId} {β off n : Nat} {us : Array Value} {T0 : TypeId} {v : Value} (hn : szT P T = some n) (hv : v.cells.size = n) (h1 : ∀ u ∈ v.cells.toList, u.oneCell' = true) (hb : w.heap[β]? = some (.cells us T0 (0, 0))) (hle : off + n ≤ us.size) :
    (Instr.storeAt T (.pointer (some ⟨β, off, none⟩)) v).run P w = .ok () (w.setRow β (us.toList.take off ++ v.cells.toList ++ us.toList.drop (off + n)).toArray) := by
  obtain ⟨m, hm, rfl⟩ := runs_sizeOf (P := P) (w := w) hn
  have := run_storeCells_at P β off T0 v.cells.toList 0 us w hb (by simp [hv]; omega) h1
  simp only [Nat.add_zero, Array.length_toList, hv] at this
  simp [Instr.storeAt, Instr.sureAddr, storeVar, hm, hv, this]
theorem splice_get {α : Type} (l new : List α) (off n : Nat) (hn : new.length = n) (hle : off + n ≤ l.length) (j : Nat) : (l.take off ++ (new ++ l.drop (off + n)))[j]? = if off ≤ j ∧ j < off + n then new[j - off]? else l[j]? := by
  by_cases h1 : off ≤ j ∧ j < off + n
  · rw [if_pos h1, List.getElem?_append_right (by simp; omega), List.getElem?_append_left (by simp; omega)]
    simp [Nat.min_eq_left (show off ≤ l.length by omega)]
  · rw [if_neg h1]
    by_cases h2 : j < off
    · rw [List.getElem?_append_left (by simp; omega), List.getElem?_take, if_pos h2]
    · rw [List.getElem?_append_right (by simp; omega), List.getElem?_append_right (by simp; omega), List.getElem?_drop]
      simp only [List.length_take, Nat.min_eq_left (show off ≤ l.length by omega)]
      congr 1
      omega
theorem store_sound (h : Inv P F g s a w) {T : TypeId} {A X : AV} {va vx : Value} {s' : St} (hs : storeAV P s T A X = some s') (hA : RepS P g w A va) (hX : RepS P g w X vx) :
    ∃ g' w', (Instr.storeAt T va vx).run P w = .ok () w' ∧ Inv P F g' s' a w' := by
  unfold storeAV at hs
  split at hs
  · rename_i d off
    obtain ⟨cs, hcs, hs⟩ := Option.bind_eq_some_iff.1 hs
    obtain ⟨ks, hks, hs⟩ := Option.bind_eq_some_iff.1 hs
    obtain ⟨n, hn, hs⟩ := Option.bind_eq_some_iff.1 hs
    obtain ⟨β, hβ, rfl⟩ := (show RepC P g w (.box d off) va from hA)
    cases hc : (n == ks.length && X.cells.all AV.one && Nat.beq X.cells.length n && Nat.ble (off + n) cs.length && Nat.ble cs.length 1024) <;> rw [hc] at hs
    · cases hs
    simp only [cond_true] at hs
    simp only [Bool.and_eq_true] at hc
    obtain ⟨⟨⟨⟨c1, c2⟩, c3⟩, c4⟩, c5⟩ := hc
    have c1 : n = ks.length := by simpa using c1
    have c3 := Nat.eq_of_beq_eq_true c3
    have c4 := Nat.le_of_ble_eq_true c4
    have c5 := Nat.le_of_ble_eq_true c5
    have hb := boxAt_eq hcs
    obtain ⟨β', us, T0, b1, b2, b3, b4, b5⟩ := h.mem.box d cs hb
    rw [hβ] at b1
    cases b1
    obtain ⟨x1, x2⟩ := cells_rep hX c2
    have hone : ∀ u ∈ vx.cells.toList, u.oneCell' = true := fun u hu => by
      obtain ⟨j, hj, rfl⟩ := List.mem_iff_getElem.1 hu
      have hj' : j < vx.cells.size := by simpa using hj
      obtain ⟨u', hu', hr⟩ := x2 j X.cells[j] (List.getElem?_eq_getElem (by omega))
      rw [Array.getElem?_eq_getElem hj'] at hu'
      cases hu'
      simpa using hr.one
    have hrun := runs_storeVar (P := P) (w := w) hn (by rw [x1, c3]) hone b2 (by rw [b3]; exact c4)
    have hw := Wr.setRow (us' := (us.toList.take off ++ vx.cells.toList ++ us.toList.drop (off + n)).toArray) b2
    have hus : ∀ j : Nat, (us.toList.take off ++ vx.cells.toList ++ us.toList.drop (off + n)).toArray[j]? = if off ≤ j ∧ j < off + n then vx.cells[j - off]? else us[j]? := fun j => by
      rw [List.getElem?_toArray, List.append_assoc, splice_get _ _ off n (by simp [x1, c3]) (by simp [b3]; omega)]
      simp
    have hsz : (us.toList.take off ++ vx.cells.toList ++ us.toList.drop (off + n)).toArray.size = us.size := by simp [x1, c3]; omega
    by_cases hXr : ∃ m E l, X = .row (some m) E l
    · obtain ⟨m, E, l, rfl⟩ := hXr
      simp only at hs
      have hn1 : n = 1 := by simpa [AV.cells] using c3.symm
      obtain ⟨hrow, htk⟩ := (show RepC P g w (.row (some m) E l) vx from hX)
      obtain ⟨A', cap', hvx⟩ := hrow.slice
      have hvc : vx.cells = #[vx] := by rw [hvx]; rfl
      have hfin : ∀ (g1 : Gh) (s1 : St) (cs1 : List AV), Inv P F g1 s1 a w → g1.G = g.G → g1.bx = g.bx → s1.b[d]? = some (some cs1) → g1.tk (sub d off) = some (vx, E) → Inv P F g1 (s1.setBox d (cs1.set off (.row (some (sub d off)) E l))) a (w.setRow β (us.toList.take off ++ vx.cells.toList ++ us.toList.drop (off + n)).toArray) := fun g1 s1 cs1 hI hG1 hb1 hd1 ht1 => by
        obtain ⟨β'', us1, T1, d1, d2, d3, d4, d5⟩ := hI.mem.box d cs1 hd1
        rw [hb1, hβ] at d1
        cases d1
        rw [b2] at d2
        cases d2
        refine hI.setBox hd1 (by rw [hb1]; exact hβ) b2 hw hsz (by simp) (fun j c hj => ?_)
        rw [hus j]
        rw [List.getElem?_set] at hj
        split at hj
        · rename_i e
          subst e
          split at hj
          · cases hj
            rw [if_pos (by omega), hvc]
            refine ⟨vx, by simp, ⟨hG1 ▸ hrow, fun q hq => ?_⟩⟩
            cases hq
            exact ht1
          · cases hj
        · rename_i e
          rw [if_neg (by omega)]
          exact d5 j c hj
      cases hm : (m == sub d off) <;> rw [hm] at hs
      · simp only [cond_false] at hs
        have hne : m ≠ sub d off := by simpa using hm
        have h1 := h.kills (killF_kills (sub d off))
        have hd0 : (g.kills (killF (sub d off))).tk (sub d off) = none := kills_tk (killF_kills _) (killF_self _)
        have h2 := h1.ren hd0 hne
        obtain ⟨cs1, hcs1, hs'⟩ := Option.map_eq_some_iff.1 hs
        subst hs'
        refine ⟨_, _, hrun, hfin _ _ cs1 h2 rfl rfl (boxAt_eq hcs1) ?_⟩
        show (if sub d off = sub d off then (g.kills (killF (sub d off))).tk m else _) = some (vx, E)
        rw [if_pos rfl]
        show (match killF (sub d off) (some m) with | some _ => g.tk m | none => none) = some (vx, E)
        have : killF (sub d off) (some m) = some m := by simp [killF, hm]
        rw [this]
        exact htk m rfl
      · simp only [cond_true] at hs
        cases hs
        have : m = sub d off := by simpa using hm
        subst this
        exact ⟨_, _, hrun, hfin g s cs h rfl rfl hb (htk _ rfl)⟩
    · replace hs : ((s.tok (killsF d off (off + n))).boxAt d).map (fun cs => (s.tok (killsF d off (off + n))).setBox d (cs.take off ++ (cellsAt none d off ks X.cells ++ cs.drop (off + n)))) = some s' := by
        cases X with
        | row t E l =>
          cases t with
          | none => exact hs
          | some m => exact absurd ⟨m, E, l, rfl⟩ hXr
        | _ => exact hs
      have hkl := killsF_kills d off (off + n)
      have h1 := h.kills hkl
      have hN : ∀ m, (fun m => if m / 1024 = d + 1 ∧ off ≤ m % 1024 ∧ m % 1024 < off + n then (match ks[m % 1024 - off]? with | some (.row E) => some E | _ => none) else none : Nat → Option TypeId) m ≠ none → (g.kills (killsF d off (off + n))).tk m = none := fun m hm => by
        dsimp only at hm
        by_cases e : m / 1024 = d + 1 ∧ off ≤ m % 1024 ∧ m % 1024 < off + n
        · refine kills_tk (g := g) hkl ?_
          have hm' : m % 1024 < 1024 := Nat.mod_lt _ (by decide)
          have : m = sub d (m % 1024) := by unfold sub; omega
          rw [this]
          exact killsF_sub d off (off + n) _ hm' e.2.1 e.2.2
        · rw [if_neg e] at hm; exact absurd rfl hm
      have h2 := h1.nils hN
      obtain ⟨cs1, hcs1, hs'⟩ := Option.map_eq_some_iff.1 hs
      subst hs'
      have hb1 := boxAt_eq hcs1
      obtain ⟨β'', us1, T1, d1, d2, d3, d4, d5⟩ := h2.mem.box d cs1 hb1
      have hβ' : g.bx d = some β'' := d1
      rw [hβ] at hβ'
      cases hβ'
      rw [b2] at d2
      cases d2
      have hl1 : cs1.length = cs.length := by omega
      refine ⟨_, _, hrun, h2.setBox hb1 hβ b2 hw hsz (by simp [cellsAt_len none d off ks X.cells (by omega)]; omega) (fun j c hj => ?_)⟩
      rw [hus j]
      rw [splice_get _ _ off n (by rw [cellsAt_len none d off ks X.cells (by omega), c3]) (by omega)] at hj
      split at hj
      · rename_i e
        rw [if_pos e]
        rw [cellsAt_get none d off ks X.cells (by omega)] at hj
        obtain ⟨c0, hc0, hc1⟩ := Option.bind_eq_some_iff.1 hj
        obtain ⟨k, hkk, rfl⟩ := Option.map_eq_some_iff.1 hc1
        obtain ⟨u, hu, hr⟩ := x2 _ c0 hc0
        refine ⟨u, hu, ?_⟩
        have hj' : off + (j - off) = j := by omega
        rw [hj']
        refine cellAt_rep0 (g := g) rfl rfl (fun E hE => ?_) hr
        show (match (if sub d j / 1024 = d + 1 ∧ off ≤ sub d j % 1024 ∧ sub d j % 1024 < off + n then (match ks[sub d j % 1024 - off]? with | some (.row E) => some E | _ => none) else none : Option TypeId) with | some E => some (Value.slice none 0 0, E) | none => _) = _
        rw [sub_div d j (by omega), sub_mod d j (by omega), if_pos ⟨rfl, e⟩, hkk, hE]
      · rename_i e
        rw [if_neg e]
        exact d5 j c hj
  · cases hs
end
end Go.Proofs.YtckdgcpomkefpaaGreatDoor.En
