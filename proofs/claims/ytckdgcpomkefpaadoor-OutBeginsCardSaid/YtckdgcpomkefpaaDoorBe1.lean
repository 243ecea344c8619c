/- Part 1 of a proof: what it needs of the program's functions as plain Lean functions, with the proof that the machine's calls come to them, and of plain laws; put together out of smaller texts. No conditions besides those that each statement names. -/
import Derived.Lib.AppendStr
import Derived.Test.YtckdgcpomkefpaaDoorBe0
section
section
set_option linter.unusedVariables false
set_option linter.unusedSimpArgs false
namespace Go.Proofs.YtckdgcpomkefpaaDoor.En
open Go
section
variable {P : Program} {F : Fx} {g : Gh} {s : St} {a : Act} {w : World}
structure Push (w w1 : World) (o : Obj) : Prop where
  heap : w1.heap = w.heap.push o
  os : w1.os = w.os
  tape : w1.tape = w.tape
  output : w1.output = w.output
theorem Push.alloc (w : World) (o : Obj) : Push w (w.alloc o) o := ⟨rfl, rfl, rfl, rfl⟩
theorem Push.drew (w : World) (o : Obj) : Push w (w.drew.alloc o) o := ⟨rfl, rfl, rfl, rfl⟩
theorem Push.old {w1 : World} {o : Obj} (h : Push w w1 o) {β : Nat} (hβ : β < w.heap.size) : w1.heap[β]? = w.heap[β]? := by
  rw [h.heap, Array.getElem?_push, if_neg (by omega)]
theorem Push.new {w1 : World} {o : Obj} (h : Push w w1 o) : w1.heap[w.heap.size]? = some o := by
  rw [h.heap, Array.getElem?_push, if_pos rfl]
theorem Push.size {w1 : World} {o : Obj} (h : Push w w1 o) : w1.heap.size = w.heap.size + 1 := by rw [h.heap]; simp
theorem Push.fr {w1 : World} {o : Obj} (h : Push w w1 o) (T : Nat → Nat → Prop) : Fr T w w1 :=
  ⟨h.os, h.tape, h.output, by rw [h.size]; omega, fun β o' ho => .inl (by rw [h.old (Array.getElem?_eq_some_iff.1 ho).1]; exact ho)⟩
theorem Push.cell {w1 : World} {o : Obj} (h : Push w w1 o) {β j : Nat} (hβ : β < w.heap.size) : w1.cell? ⟨β, j, none⟩ = w.cell? ⟨β, j, none⟩ :=
  World.cell?_of_block (a := ⟨β, j, none⟩) (h.old hβ)
def Gh.more (g : Gh) (β0 K : Nat) : Gh := { g with G := fun β j => g.G β j ∨ (β = β0 ∧ j < K) }
theorem Own.keep {g' : Gh} {w' : World} {v : Value} {E : TypeId} (h : Own P g w v E) (hb : ∀ β, v.ownBlock = some β → w'.heap[β]? = w.heap[β]? ∧ ∀ j, g'.G β j → g.G β j) : Own P g' w' v E := by
  rcases h with e | ⟨β, k, cap, us, ks, fz, rfl, e2, e3, e4, e5, e6, e7, e8⟩
  · exact .inl e
  · obtain ⟨b1, b2⟩ := hb β rfl
    exact .inr ⟨β, k, cap, us, ks, fz, rfl, b1.trans e2, e3, e4, e5, e6, fun j hj hg => e7 j hj (b2 j hg), e8⟩
theorem Own.lt {v : Value} {E : TypeId} (h : Own P g w v E) {β : Nat} (hv : v.ownBlock = some β) : β < w.heap.size := by
  rcases h with e | ⟨β', k, cap, us, ks, fz, rfl, e2, e3, e4, e5, e6, e7, e8⟩
  · subst e; cases hv
  · cases hv; exact (Array.getElem?_eq_some_iff.1 e2).1
theorem Inv.fresh (h : Inv P F g s a w) {w1 : World} {o : Obj} (hw : Push w w1 o) (K : Nat) : Inv P F (g.more w.heap.size K) s a w1 := by
  have hle : g.Le (g.more w.heap.size K) w w1 := ⟨fun β j hj => ⟨.inl hj, hw.cell (h.mem.gsz β j hj)⟩, fun n v hv => hv, fun d β hd => hd⟩
  refine ⟨⟨fun β j hj => ?_, fun d cs hd => ?_, h.mem.apart, fun n v E hn => ?_, h.mem.tkap, h.mem.tkbx⟩, h.blen, h.len, fun i x hi => ?_, h.dfr, h.fr.trans (hw.fr F.T) (fun _ _ _ t => t) (fun _ _ _ t => t), fun β j hj => .inl (h.g0 β j hj), fun β j hj hlt => ?_, h.tb, h.bb, h.pbx⟩
  · rcases hj with hj | ⟨rfl, _⟩
    · have := h.mem.gsz β j hj; rw [hw.size]; omega
    · rw [hw.size]; omega
  · obtain ⟨β, us, T, e1, e2, e3, e4, e5⟩ := h.mem.box d cs hd
    have hlt := (Array.getElem?_eq_some_iff.1 e2).1
    refine ⟨β, us, T, e1, (hw.old hlt).trans e2, e3, fun j hj => ?_, fun j c hc => let ⟨u, hu, hr⟩ := e5 j c hc; ⟨u, hu, hr.mono hle⟩⟩
    rcases hj with hj | ⟨rfl, _⟩
    · exact e4 j hj
    · omega
  · exact (h.mem.own n v E hn).keep fun β hβ => by
      have hlt := (h.mem.own n v E hn).lt hβ
      refine ⟨hw.old hlt, fun j hj => ?_⟩
      rcases hj with hj | ⟨rfl, _⟩
      · exact hj
      · omega
  · obtain ⟨v, h1, h2⟩ := h.tm i x hi
    exact ⟨v, h1, h2.mono hle⟩
  · rcases hj with hj | ⟨rfl, _⟩
    · exact h.gfr β j hj hlt
    · have := h.fr.size; omega
theorem Inv.drew (h : Inv P F g s a w) : Inv P F g s a w.drew := by
  have hle : g.Le g w w.drew := ⟨fun β j hj => ⟨hj, rfl⟩, fun n v hv => hv, fun d β hd => hd⟩
  refine ⟨⟨h.mem.gsz, fun d cs hd => ?_, h.mem.apart, fun n v E hn => h.mem.own n v E hn, h.mem.tkap, h.mem.tkbx⟩, h.blen, h.len, fun i x hi => ?_, h.dfr, h.fr.trans (Fr.drew w) (fun _ _ _ t => t) (fun _ _ _ t => t.elim), h.g0, h.gfr, h.tb, h.bb, h.pbx⟩
  · obtain ⟨β, us, T, e1, e2, e3, e4, e5⟩ := h.mem.box d cs hd
    exact ⟨β, us, T, e1, e2, e3, e4, fun j c hc => let ⟨u, hu, hr⟩ := e5 j c hc; ⟨u, hu, hr.mono hle⟩⟩
  · obtain ⟨v, h1, h2⟩ := h.tm i x hi
    exact ⟨v, h1, h2.mono hle⟩
def Gh.tok (g : Gh) (n : Nat) (v : Value) (E : TypeId) : Gh := { g with tk := fun m => if m = n then some (v, E) else g.tk m }
def Gh.box (g : Gh) (d : Nat) (o : Option Nat) : Gh := { g with bx := fun e => if e = d then o else g.bx e }
theorem Inv.addTok (h : Inv P F g s a w) {n : Nat} {v : Value} {E : TypeId} (hn : g.tk n = none) (hO : Own P g w v E)
    (hap : ∀ m v' E' β, g.tk m = some (v', E') → v'.ownBlock = some β → v.ownBlock ≠ some β)
    (hbx : ∀ d cs β, s.b[d]? = some (some cs) → g.bx d = some β → v.ownBlock ≠ some β)
    (htb : ∀ β, v.ownBlock = some β → F.w0.heap.size ≤ β ∨ F.TB β) : Inv P F (g.tok n v E) s a w := by
  have hle : g.Le (g.tok n v E) w w := ⟨fun β j hj => ⟨hj, rfl⟩, fun m v' hm => by
    show (if m = n then some (v, E) else g.tk m) = some v'
    rw [if_neg (by rintro rfl; rw [hn] at hm; cases hm)]; exact hm, fun d β hd => hd⟩
  have key : ∀ m v' E', (g.tok n v E).tk m = some (v', E') → (m = n ∧ v' = v ∧ E' = E) ∨ (m ≠ n ∧ g.tk m = some (v', E')) := fun m v' E' hm => by
    have hm' : (if m = n then some (v, E) else g.tk m) = some (v', E') := hm
    by_cases e : m = n
    · rw [if_pos e] at hm'; cases hm'; exact .inl ⟨e, rfl, rfl⟩
    · rw [if_neg e] at hm'; exact .inr ⟨e, hm'⟩
  refine ⟨⟨h.mem.gsz, fun d cs hd => ?_, h.mem.apart, fun m v' E' hm => ?_, fun m m' v1 v2 E1 E2 β hm hm' hv hv' => ?_, fun m v' E' β d cs hm hv hd hβ => ?_⟩, h.blen, h.len, fun i x hi => ?_, h.dfr, h.fr, h.g0, h.gfr, fun m v' E' β hm hv => ?_, h.bb, h.pbx⟩
  · obtain ⟨β, us, T, e1, e2, e3, e4, e5⟩ := h.mem.box d cs hd
    exact ⟨β, us, T, e1, e2, e3, e4, fun j c hc => let ⟨u, hu, hr⟩ := e5 j c hc; ⟨u, hu, hr.mono hle⟩⟩
  · rcases key m v' E' hm with ⟨_, rfl, rfl⟩ | ⟨_, hm⟩
    · exact hO
    · exact h.mem.own m v' E' hm
  · rcases key m v1 E1 hm with ⟨rfl, rfl, rfl⟩ | ⟨n1, hm1⟩ <;> rcases key m' v2 E2 hm' with ⟨rfl, rfl, rfl⟩ | ⟨n2, hm2⟩
    · rfl
    · exact absurd hv (hap m' v2 E2 β hm2 hv')
    · exact absurd hv' (hap m v1 E1 β hm1 hv)
    · exact h.mem.tkap m m' v1 v2 E1 E2 β hm1 hm2 hv hv'
  · rcases key m v' E' hm with ⟨rfl, rfl, rfl⟩ | ⟨n1, hm⟩
    · exact hbx d cs β hd hβ hv
    · exact h.mem.tkbx m v' E' β d cs hm hv hd hβ
  · obtain ⟨u, h1, h2⟩ := h.tm i x hi
    exact ⟨u, h1, h2.mono hle⟩
  · rcases key m v' E' hm with ⟨rfl, rfl, rfl⟩ | ⟨n1, hm⟩
    · exact htb β hv
    · exact h.tb m v' E' β hm hv
theorem tok_tok (f h : Option Nat → Option Nat) : (s.tok f).tok h = s.tok (fun t => h (f t)) := by
  have e1 : ∀ x : AV, (x.tok1 f).tok1 h = x.tok1 (fun t => h (f t)) := fun x => by cases x <;> rfl
  have e2 : ∀ x : AV, (x.tok2 f).tok2 h = x.tok2 (fun t => h (f t)) := fun x => by
    cases x <;> first | rfl | (show AV.agg (List.map _ (List.map _ _)) = AV.agg _; rw [List.map_map]; congr 1; exact List.map_congr_left fun c _ => e1 c)
  have h0 : ∀ x : AV, (x.tok f).tok h = x.tok (fun t => h (f t)) := fun x => by
    cases x <;> first | rfl | exact e2 (.agg _) | (show AV.tup (List.map _ (List.map _ _)) = AV.tup _; rw [List.map_map]; congr 1; exact List.map_congr_left fun c _ => e2 c)
  show (⟨(s.t.map _).map _, (s.b.map _).map _⟩ : St) = ⟨s.t.map _, s.b.map _⟩
  rw [List.map_map, List.map_map]
  congr 1
  · exact List.map_congr_left fun c _ => h0 c
  · refine List.map_congr_left fun o _ => ?_
    cases o with
    | none => rfl
    | some cs =>
      show some (List.map _ (List.map _ cs)) = some _
      rw [List.map_map]
      congr 1
      exact List.map_congr_left fun c _ => e1 c
theorem kill_kill (d : Nat) : (s.kill d).kill d = s.kill d := by
  show (s.tok _).tok _ = s.tok _
  rw [tok_tok]
  congr 1
  funext t
  cases t with
  | none => rfl
  | some m =>
    show killF d (bif m == d then none else some m) = (bif m == d then none else some m)
    cases hm : m == d
    · show (bif m == d then none else some m) = _
      rw [hm]
    · rfl
def St.drop (s : St) (d : Nat) : St := ⟨s.t.map (AV.nobox d), (s.b.map (Option.map (List.map (AV.nobox1 d)))).set d none⟩
theorem nobox_0 {d : Nat} {x : AV} {v : Value} (h : Rep1 g x v) : Rep1 (g.box d none) (x.nobox0 d) v := by
  cases x with
  | box e o =>
    obtain ⟨β, hb, hv⟩ := h
    by_cases hed : e = d
    · subst hed
      simp only [AV.nobox0, beq_self_eq_true, cond_true]
      rw [hv]; rfl
    · have : (e == d) = false := by simpa using hed
      simp only [AV.nobox0, this, cond_false]
      exact ⟨β, by show (if e = d then none else g.bx e) = some β; rw [if_neg hed]; exact hb, hv⟩
  | _ => exact h
theorem nobox_C {d : Nat} {x : AV} {v : Value} (h : RepC P g w x v) : RepC P (g.box d none) w (x.nobox1 d) v := by
  cases x with
  | box e o =>
    obtain ⟨β, hb, hv⟩ := h
    by_cases hed : e = d
    · subst hed
      simp only [AV.nobox1, beq_self_eq_true, cond_true]
      rw [hv]; rfl
    · have : (e == d) = false := by simpa using hed
      simp only [AV.nobox1, this, cond_false]
      exact ⟨β, by show (if e = d then none else g.bx e) = some β; rw [if_neg hed]; exact hb, hv⟩
  | fn f xs cs =>
    obtain ⟨us, ws, e0, e2, e3, e4, e5⟩ := h
    refine ⟨us, ws, e0, by simp [e2], by simp [e3], fun j c hj => ?_, fun j c hj => ?_⟩ <;> rw [List.getElem?_map] at hj <;> obtain ⟨c0, hc0, rfl⟩ := Option.map_eq_some_iff.1 hj
    · obtain ⟨u, a, b⟩ := e4 j c0 hc0; exact ⟨u, a, nobox_0 b⟩
    · obtain ⟨u, a, b⟩ := e5 j c0 hc0; exact ⟨u, a, nobox_0 b⟩
  | _ => exact h
theorem nobox_T {d : Nat} {x : AV} {v : Value} (h : RepT P g w x v) : RepT P (g.box d none) w (x.nobox2 d) v := by
  cases x with
  | agg cs =>
    obtain ⟨vs, h1, h2, h3⟩ := h
    refine ⟨vs, h1, by simp [h2], fun j c hj => ?_⟩
    rw [List.getElem?_map] at hj
    obtain ⟨c0, hc0, rfl⟩ := Option.map_eq_some_iff.1 hj
    obtain ⟨u, hu, hr⟩ := h3 j c0 hc0
    exact ⟨u, hu, nobox_C hr⟩
  | box e o => exact (nobox_C (d := d) (show RepC P g w (.box e o) v from h)).T
  | fn f xs cs => exact (nobox_C (d := d) (show RepC P g w (.fn f xs cs) v from h)).T
  | dead => exact trivial
  | _ => exact h
theorem nobox_S {d : Nat} {x : AV} {v : Value} (h : RepS P g w x v) : RepS P (g.box d none) w (x.nobox d) v := by
  cases x with
  | tup cs =>
    obtain ⟨vs, h1, h2, h3⟩ := h
    refine ⟨vs, h1, by simp [h2], fun j c hj => ?_⟩
    rw [List.getElem?_map] at hj
    obtain ⟨c0, hc0, rfl⟩ := Option.map_eq_some_iff.1 hj
    obtain ⟨u, hu, hr⟩ := h3 j c0 hc0
    exact ⟨u, hu, nobox_T hr⟩
  | agg cs => exact (nobox_T (d := d) (show RepT P g w (.agg cs) v from h)).S
  | box e o => exact (nobox_C (d := d) (show RepC P g w (.box e o) v from h)).S
  | fn f xs cs => exact (nobox_C (d := d) (show RepC P g w (.fn f xs cs) v from h)).S
  | dead => exact trivial
  | _ => exact h
theorem Inv.drop (h : Inv P F g s a w) (d : Nat) (hd : F.np ≤ d) : Inv P F (g.box d none) (s.drop d) a w := by
  refine h.wk rfl (by simp [St.drop]) (by simp [St.drop]) (fun i x' hi => ?_) (fun e cs' he => ?_) id (fun n v hn => hn) (fun _ _ _ _ e => e) (fun i hi _ => by show (if i = d then none else g.bx i) = g.bx i; rw [if_neg (by omega)])
  · simp only [St.drop, List.getElem?_map] at hi
    obtain ⟨x, hx, rfl⟩ := Option.map_eq_some_iff.1 hi
    exact ⟨x, hx, fun v hv => nobox_S hv⟩
  · simp only [St.drop, List.getElem?_set, List.getElem?_map] at he
    split at he
    · split at he <;> cases he
    · rename_i hne
      obtain ⟨o, ho, he⟩ := Option.map_eq_some_iff.1 he
      obtain ⟨cs, rfl, rfl⟩ := Option.map_eq_some_iff.1 he
      refine ⟨cs, ho, by simp, by show (if e = d then none else g.bx e) = g.bx e; rw [if_neg (Ne.symm hne)], fun j c' hj => ?_⟩
      rw [List.getElem?_map] at hj
      obtain ⟨c, hc, rfl⟩ := Option.map_eq_some_iff.1 hj
      refine ⟨c, hc, fun T β u hu => ?_⟩
      by_cases hs : ∃ T', c = .self T'
      · obtain ⟨T', rfl⟩ := hs; exact hu
      · rw [RepB.eq (fun T' e => hs ⟨T', e⟩)] at hu
        exact RepB.of (nobox_C hu)
theorem Inv.addBox (h : Inv P F g s a w) {d : Nat} (hd : F.np ≤ d) (hlt : d < s.t.length) (hb : s.b[d]? = some none) (hg : g.bx d = none) {w1 : World} {us : Array Value} {T : TypeId} (hw : Push w w1 (.cells us T (0, 0))) {cs : List AV} (hsz : us.size = cs.length)
    (hr : ∀ (j : Nat) c, cs[j]? = some c → ∃ u, us[j]? = some u ∧ RepB P g w T w.heap.size j c u) :
    Inv P F (g.box d (some w.heap.size)) ((s.setBox d cs).put (some d) (.box d 0)) (a.put (some d) (.pointer (some ⟨w.heap.size, 0, none⟩))) w1 := by
  have hle : g.Le (g.box d (some w.heap.size)) w w1 := ⟨fun β j hj => ⟨hj, hw.cell (h.mem.gsz β j hj)⟩, fun n v hv => hv, fun e β he => by
    show (if e = d then some w.heap.size else g.bx e) = some β
    rw [if_neg (by rintro rfl; rw [hg] at he; cases he)]; exact he⟩
  have hbl : d < s.b.length := by rw [h.blen]; exact hlt
  have hbx : ∀ e cs', (s.b.set d (some cs))[e]? = some (some cs') → (e = d ∧ cs' = cs) ∨ (e ≠ d ∧ s.b[e]? = some (some cs')) := fun e cs' he => by
    rw [List.getElem?_set] at he
    split at he
    · rename_i e1
      (try rw [if_pos hbl] at he)
      cases he
      exact .inl ⟨e1.symm, rfl⟩
    · rename_i e1; exact .inr ⟨Ne.symm e1, he⟩
  have hgd : (g.box d (some w.heap.size)).bx d = some w.heap.size := by show (if d = d then some w.heap.size else g.bx d) = _; rw [if_pos rfl]
  have hge : ∀ e, e ≠ d → (g.box d (some w.heap.size)).bx e = g.bx e := fun e he => by show (if e = d then some w.heap.size else g.bx e) = _; rw [if_neg he]
  have hbs : ∀ e cs' β, s.b[e]? = some (some cs') → g.bx e = some β → β < w.heap.size := fun e cs' β he hβ => by
    obtain ⟨β', us', T', e1, e2, _⟩ := h.mem.box e cs' he
    rw [hβ] at e1; cases e1
    exact (Array.getElem?_eq_some_iff.1 e2).1
  have hI : Inv P F (g.box d (some w.heap.size)) (s.setBox d cs) a w1 := by
    refine ⟨⟨fun β j hj => by have := h.mem.gsz β j hj; rw [hw.size]; omega, fun e cs' he => ?_, fun e e' β cs1 cs2 he he' hβ hβ' => ?_, fun n v E hn => ?_, h.mem.tkap, fun n v E β e cs' hn hv he hβ => ?_⟩, by simpa [St.setBox] using h.blen, h.len, fun i x hi => ?_, h.dfr, h.fr.trans (hw.fr F.T) (fun _ _ _ t => t) (fun _ _ _ t => t), h.g0, h.gfr, h.tb, fun e cs' β he hβ => ?_, fun i hi hn => ?_⟩
    · rcases hbx e cs' he with ⟨rfl, rfl⟩ | ⟨hne, he⟩
      · exact ⟨_, us, T, hgd, hw.new, hsz, fun j hj => by have := h.mem.gsz _ _ hj; omega, fun j c hc => let ⟨u, hu, hh⟩ := hr j c hc; ⟨u, hu, hh.mono hle⟩⟩
      · obtain ⟨β, us', T', e1, e2, e3, e4, e5⟩ := h.mem.box e cs' he
        exact ⟨β, us', T', (hge e hne).trans e1, (hw.old (Array.getElem?_eq_some_iff.1 e2).1).trans e2, e3, e4, fun j c hc => let ⟨u, hu, hh⟩ := e5 j c hc; ⟨u, hu, hh.mono hle⟩⟩
    · rcases hbx e cs1 he with ⟨rfl, rfl⟩ | ⟨hne, he1⟩ <;> rcases hbx e' cs2 he' with ⟨rfl, rfl⟩ | ⟨hne', he2⟩
      · rfl
      · rw [hgd] at hβ; cases hβ
        have := hbs e' cs2 _ he2 ((hge e' hne') ▸ hβ'); omega
      · rw [hgd] at hβ'; cases hβ'
        have := hbs e cs1 _ he1 ((hge e hne) ▸ hβ); omega
      · exact h.mem.apart e e' β cs1 cs2 he1 he2 ((hge e hne) ▸ hβ) ((hge e' hne') ▸ hβ')
    · exact (h.mem.own n v E hn).keep fun β hβ => ⟨hw.old ((h.mem.own n v E hn).lt hβ), fun j hj => hj⟩
    · rcases hbx e cs' he with ⟨rfl, rfl⟩ | ⟨hne, he⟩
      · rw [hgd] at hβ; cases hβ
        have := (h.mem.own n v E hn).lt hv; omega
      · exact h.mem.tkbx n v E β e cs' hn hv he ((hge e hne) ▸ hβ)
    · obtain ⟨v, h1, h2⟩ := h.tm i x hi
      exact ⟨v, h1, h2.mono hle⟩
    · rcases hbx e cs' he with ⟨rfl, rfl⟩ | ⟨hne, he⟩
      · rw [hgd] at hβ; cases hβ; exact .inl h.fr.size
      · exact h.bb e cs' β he ((hge e hne) ▸ hβ)
    · rw [hge i (by omega)]; exact h.pbx i hi hn
  exact hI.put (some d) (x := .box d 0) ⟨_, hgd, rfl⟩
structure Wr (w w1 : World) (β0 : Nat) (us' : Array Value) (T : TypeId) (fz : Nat × Nat) : Prop where
  other : ∀ β, β ≠ β0 → w1.heap[β]? = w.heap[β]?
  new : w1.heap[β0]? = some (.cells us' T fz)
  size : w1.heap.size = w.heap.size
  os : w1.os = w.os
  tape : w1.tape = w.tape
  output : w1.output = w.output
theorem Wr.setRow {w : World} {β0 : Nat} {us us' : Array Value} {T : TypeId} {fz : Nat × Nat} (h : w.heap[β0]? = some (.cells us T fz)) : Wr w (w.setRow β0 us') β0 us' T fz :=
  ⟨fun β hβ => setRow_other w β0 β us' hβ, setRow_heap w β0 us us' T fz h, by simp [World.setRow], rfl, rfl, rfl⟩
theorem Inv.touch (h : Inv P F g s a w) {w1 : World} {β0 K : Nat} {us us' : Array Value} {T : TypeId} {fz : Nat × Nat} (h0 : w.heap[β0]? = some (.cells us T fz)) (hw : Wr w w1 β0 us' T fz)
    (hs : us'.size = us.size) (hG : ∀ j, g.G β0 j → us'[j]? = us[j]?) (htk : ∀ n v E, g.tk n = some (v, E) → v.ownBlock ≠ some β0) (hbx : ∀ d cs, s.b[d]? = some (some cs) → g.bx d ≠ some β0) (hT : β0 < F.w0.heap.size → F.TB β0) :
    Inv P F (g.more β0 K) s a w1 := by
  have hlt := (Array.getElem?_eq_some_iff.1 h0).1
  have hsame := hw.other
  have hnew := hw.new
  have hcell : ∀ β j, g.G β j → w1.cell? ⟨β, j, none⟩ = w.cell? ⟨β, j, none⟩ := fun β j hj => by
    by_cases e : β = β0
    · subst e
      simp [World.cell?, hnew, h0, hG j hj]
    · exact World.cell?_of_block (a := ⟨β, j, none⟩) (hsame β e)
  have hle : g.Le (g.more β0 K) w w1 := ⟨fun β j hj => ⟨.inl hj, hcell β j hj⟩, fun n v hv => hv, fun d β hd => hd⟩
  have hsz := hw.size
  refine ⟨⟨fun β j hj => ?_, fun d cs hd => ?_, h.mem.apart, fun n v E hn => ?_, h.mem.tkap, h.mem.tkbx⟩, h.blen, h.len, fun i x hi => ?_, h.dfr, h.fr.trans (T' := fun β j => β = β0 ∧ ¬ g.G β j) ⟨hw.os, hw.tape, hw.output, by omega, fun β o hβ => ?_⟩ (fun _ _ _ t => t) (fun β j hβ t => ?_), fun β j hj => .inl (h.g0 β j hj), fun β j hj hlt' => ?_, h.tb, h.bb, h.pbx⟩
  · rcases hj with hj | ⟨rfl, _⟩
    · have := h.mem.gsz β j hj; omega
    · omega
  · obtain ⟨β, us2, T2, e1, e2, e3, e4, e5⟩ := h.mem.box d cs hd
    have hne : β ≠ β0 := fun e => hbx d cs hd (e ▸ e1)
    refine ⟨β, us2, T2, e1, (hsame β hne).trans e2, e3, fun j hj => ?_, fun j c hc => let ⟨u, hu, hr⟩ := e5 j c hc; ⟨u, hu, hr.mono hle⟩⟩
    rcases hj with hj | ⟨rfl, _⟩
    · exact e4 j hj
    · exact hne rfl
  · exact (h.mem.own n v E hn).keep fun β hβ => by
      have hne : β ≠ β0 := fun e => htk n v E hn (e ▸ hβ)
      refine ⟨hsame β hne, fun j hj => ?_⟩
      rcases hj with hj | ⟨rfl, _⟩
      · exact hj
      · exact absurd rfl hne
  · obtain ⟨v, h1, h2⟩ := h.tm i x hi
    exact ⟨v, h1, h2.mono hle⟩
  · by_cases e : β = β0
    · subst e
      rw [h0] at hβ
      cases hβ
      refine .inr ⟨us, T, fz, us', fz, rfl, hnew, hs, fun j hj => ?_, fun _ => rfl⟩
      by_cases hg : g.G β j
      · exact hG j hg
      · exact absurd ⟨rfl, hg⟩ hj
    · exact .inl ((hsame β e).trans hβ)
  · obtain ⟨rfl, hg⟩ := t
    exact .inr ⟨hT hβ, fun hF => hg (h.g0 _ _ hF)⟩
  · rcases hj with hj | ⟨rfl, _⟩
    · exact h.gfr β j hj hlt'
    · exact .inr (hT hlt')
theorem Inv.setBox (h : Inv P F g s a w) {d β0 : Nat} {w1 : World} {cs cs' : List AV} {us us' : Array Value} {T : TypeId} (hd : s.b[d]? = some (some cs)) (hβ : g.bx d = some β0) (h0 : w.heap[β0]? = some (.cells us T (0, 0))) (hw : Wr w w1 β0 us' T (0, 0))
    (hs : us'.size = us.size) (hl : cs'.length = cs.length) (hr : ∀ (j : Nat) c, cs'[j]? = some c → ∃ u, us'[j]? = some u ∧ RepB P g w T β0 j c u) :
    Inv P F g (s.setBox d cs') a w1 := by
  have hlt := (Array.getElem?_eq_some_iff.1 h0).1
  obtain ⟨β', us0, T0, b1, b2, b3, b4, b5⟩ := h.mem.box d cs hd
  rw [hβ] at b1
  cases b1
  rw [h0] at b2
  cases b2
  have hsame := hw.other
  have hnew := hw.new
  have hle : g.Le g w w1 := ⟨fun β j hj => ⟨hj, World.cell?_of_block (a := ⟨β, j, none⟩) (hsame β fun e => b4 j (e ▸ hj))⟩, fun n v hv => hv, fun d β hd => hd⟩
  have hsz := hw.size
  have hbl : d < s.b.length := (List.getElem?_eq_some_iff.1 hd).1
  have hbx : ∀ e c1, (s.b.set d (some cs'))[e]? = some (some c1) → (e = d ∧ c1 = cs') ∨ (e ≠ d ∧ s.b[e]? = some (some c1)) := fun e c1 he => by
    rw [List.getElem?_set] at he
    split at he
    · rename_i e1
      (try rw [if_pos hbl] at he)
      cases he
      exact .inl ⟨e1.symm, rfl⟩
    · rename_i e1; exact .inr ⟨Ne.symm e1, he⟩
  have hold : ∀ e c1, (s.b.set d (some cs'))[e]? = some (some c1) → ∃ c2, s.b[e]? = some (some c2) := fun e c1 he => by
    rcases hbx e c1 he with ⟨rfl, _⟩ | ⟨_, he⟩
    · exact ⟨cs, hd⟩
    · exact ⟨c1, he⟩
  refine ⟨⟨fun β j hj => by have := h.mem.gsz β j hj; omega, fun e c1 he => ?_, fun e e' β c1 c2 he he' hβ1 hβ2 => ?_, fun n v E hn => ?_, h.mem.tkap, fun n v E β e c1 hn hv he hβ1 => ?_⟩, by simpa [St.setBox] using h.blen, h.len, fun i x hi => ?_, h.dfr, h.fr.trans (T' := fun β j => β = β0) ⟨hw.os, hw.tape, hw.output, by omega, fun β o hbo => ?_⟩ (fun _ _ _ t => t) (fun β j hβ1 t => ?_), h.g0, h.gfr, h.tb, fun e c1 β he hβ1 => ?_, h.pbx⟩
  · rcases hbx e c1 he with ⟨rfl, rfl⟩ | ⟨hne, he⟩
    · exact ⟨β0, us', T, hβ, hnew, by rw [hs, b3, hl], b4, fun j c hc => let ⟨u, hu, hh⟩ := hr j c hc; ⟨u, hu, hh.mono hle⟩⟩
    · obtain ⟨β, us2, T2, e1, e2, e3, e4, e5⟩ := h.mem.box e c1 he
      have : β ≠ β0 := fun e0 => hne (h.mem.apart e d β0 c1 cs he hd (e0 ▸ e1) hβ)
      exact ⟨β, us2, T2, e1, (hsame β this).trans e2, e3, e4, fun j c hc => let ⟨u, hu, hh⟩ := e5 j c hc; ⟨u, hu, hh.mono hle⟩⟩
  · obtain ⟨c3, he⟩ := hold e c1 he
    obtain ⟨c4, he'⟩ := hold e' c2 he'
    exact h.mem.apart e e' β c3 c4 he he' hβ1 hβ2
  · exact (h.mem.own n v E hn).keep fun β hβ1 => ⟨hsame β fun e => h.mem.tkbx n v E β0 d cs hn (e ▸ hβ1) hd hβ, fun j hj => hj⟩
  · obtain ⟨c3, he⟩ := hold e c1 he
    exact h.mem.tkbx n v E β e c3 hn hv he hβ1
  · obtain ⟨v, h1, h2⟩ := h.tm i x hi
    exact ⟨v, h1, h2.mono hle⟩
  · by_cases e : β = β0
    · rw [e] at hbo ⊢
      rw [h0] at hbo
      cases hbo
      exact .inr ⟨us, T, (0, 0), us', (0, 0), rfl, hnew, hs, fun j hj => absurd rfl hj, fun _ => rfl⟩
    · exact .inl ((hsame β e).trans hbo)
  · subst t
    rcases h.bb d cs β hd hβ with hb | hb
    · omega
    · exact .inl hb
  · obtain ⟨c3, he⟩ := hold e c1 he
    exact h.bb e c3 β he hβ1
end
end Go.Proofs.YtckdgcpomkefpaaDoor.En
end
section
set_option linter.unusedVariables false
set_option linter.unusedSimpArgs false
namespace Go.Proofs.YtckdgcpomkefpaaDoor.En
open Go
section
variable {P : Program} {F : Fx} {g : Gh} {s : St} {a : Act} {w : World}
theorem wp_value {o : Oper} {K : Act → World → Prop} {Q : Exit → Act → World → Prop} {v : Value} {w' : World} (h : (execOp a.eval o).run P w = .ok (.value v) w') (hK : K (a.put o.dst v) w') : o.wp P a w K Q := by
  unfold Oper.wp; rw [h]; exact hK
theorem wp_skip' {o : Oper} {K : Act → World → Prop} {Q : Exit → Act → World → Prop} {w' : World} (h : (execOp a.eval o).run P w = .ok .skip w') (hK : K (a.put o.dst undef) w') : o.wp P a w K Q := by
  unfold Oper.wp; rw [h]; exact hK
theorem Inv.assign (h : Inv P F g s a w) {T : TypeId} {d : Nat} {x : AV} {v : Value} (hx : RepS P g w x v) : ∃ g', Inv P F g' (s.assign P T d x) (a.put (some d) v) w := by
  unfold St.assign
  split
  · rename_i n E l
    cases hn : (n == d)
    · simp only [cond_false]
      have hne : n ≠ d := by simpa using hn
      have h1 := h.kills (killF_kills d)
      have hd0 : (g.kills (killF d)).tk d = none := kills_tk (killF_kills d) (killF_self d)
      have h2 := h1.ren hd0 hne
      obtain ⟨hr, ht⟩ := (show RepC P g w (.row (some n) E l) v from hx)
      refine ⟨_, h2.put (some d) (x := .row (some d) E l) ⟨hr, fun m hm => ?_⟩⟩
      cases hm
      show (if d = d then (g.kills (killF d)).tk n else if d = n then none else (g.kills (killF d)).tk d) = some (v, E)
      rw [if_pos rfl]
      show (match killF d (some n) with | some _ => g.tk n | none => none) = some (v, E)
      have : killF d (some n) = some n := by simp [killF, hn]
      rw [this]
      exact ht n rfl
    · have : n = d := by simpa using hn
      exact ⟨g, h.put (some d) hx⟩
  · split
    · rename_i E hE
      have h1 := h.kills (killF_kills d)
      have hd0 : (g.kills (killF d)).tk d = none := kills_tk (killF_kills d) (killF_self d)
      have h2 := h1.nils (N := one1 d E) (fun m hm => by
        unfold one1 at hm
        by_cases e : m = d
        · rw [e]; exact hd0
        · rw [if_neg e] at hm; exact absurd rfl hm)
      obtain ⟨rfl, _⟩ := (show v = .slice none 0 0 ∧ _ from hx)
      refine ⟨_, h2.put (some d) (x := .row (some d) E []) ⟨.nil _ _ _, fun m hm => ?_⟩⟩
      cases hm
      show (match one1 d E d with | some E => some (Value.slice none 0 0, E) | none => _) = _
      simp [one1]
    · exact ⟨g, h.put (some d) hx⟩
  · exact ⟨g, h.put (some d) hx⟩
theorem cellsAt_get (o : Option TypeId) (d : Nat) : ∀ (j0 : Nat) (ks : List CK) (cs : List AV), ks.length = cs.length → ∀ i : Nat, (cellsAt o d j0 ks cs)[i]? = (cs[i]?).bind fun c => (ks[i]?).map fun k => cellAt o d (j0 + i) k c
  | j0, [], [], _, i => by simp [cellsAt]
  | j0, k :: ks, c :: cs, h, 0 => by simp [cellsAt]
  | j0, k :: ks, c :: cs, h, i + 1 => by
    have := cellsAt_get o d (j0 + 1) ks cs (by simpa using h) i
    simp only [cellsAt, List.getElem?_cons_succ, this, Nat.add_assoc, Nat.add_comm 1 i]
  | _, [], _ :: _, h, _ => by simp at h
  | _, _ :: _, [], h, _ => by simp at h
theorem cellsAt_len (o : Option TypeId) (d : Nat) : ∀ (j0 : Nat) (ks : List CK) (cs : List AV), ks.length = cs.length → (cellsAt o d j0 ks cs).length = cs.length
  | j0, [], [], _ => rfl
  | j0, k :: ks, c :: cs, h => by simp [cellsAt, cellsAt_len o d (j0 + 1) ks cs (by simpa using h)]
  | _, [], _ :: _, h => by simp at h
  | _, _ :: _, [], h => by simp at h
theorem cellAt_rep {g' : Gh} {T : TypeId} {d j β : Nat} {k : CK} {c : AV} {u : Value} (hG : g'.G = g.G) (hb : ∀ e, e ≠ d → g'.bx e = g.bx e) (hN : ∀ E, k = .row E → g'.tk (sub d j) = some (.slice none 0 0, E)) (h : RepC P g w c u) :
    RepB P g' w T β j ((cellAt (some T) d j k c).nobox1 d) u := by
  cases c with
  | v x =>
    obtain ⟨rfl, h1⟩ := h
    by_cases e1 : u = .slice none 0 0
    · subst e1
      cases k with
      | row E => exact ⟨.nil _ _ _, fun n hn => by cases hn; exact hN E rfl⟩
      | _ => exact ⟨rfl, h1⟩
    · by_cases e2 : u = .pointer none
      · subst e2
        cases k with
        | self => exact ⟨rfl, .inl rfl⟩
        | _ => exact ⟨rfl, h1⟩
      · have : cellAt (some T) d j k (.v u) = .v u := by
          unfold cellAt
          split <;> first | rfl | (rename_i e; cases e; first | exact absurd rfl e1 | exact absurd rfl e2 | rfl) | skip
          all_goals (rename_i e; cases e)
        rw [this]
        exact ⟨rfl, h1⟩
  | row t E l => exact ⟨hG ▸ h.1, fun n hn => by cases hn⟩
  | box e o =>
    obtain ⟨β', h1, h2⟩ := h
    by_cases hed : e = d
    · subst hed
      have : (cellAt (some T) e j k (.box e o)).nobox1 e = .dead := by simp [cellAt, AV.nobox1]
      rw [this, h2]; rfl
    · have h0 : (e == d) = false := by simpa using hed
      have : (cellAt (some T) d j k (.box e o)).nobox1 d = .box e o := by simp [cellAt, AV.nobox1, h0]
      rw [this]
      exact ⟨β', (hb e hed).trans h1, h2⟩
  | fn f xs cs =>
    have key : ∀ (x : AV) (v : Value), Rep1 g x v → Rep1 g' (x.nobox0 d) v := fun x v hx => by
      cases x with
      | box e o =>
        obtain ⟨β', h1, h2⟩ := hx
        by_cases hed : e = d
        · subst hed
          have : (AV.box e o).nobox0 e = .dead := by simp [AV.nobox0]
          rw [this, h2]; rfl
        · have h0 : (e == d) = false := by simpa using hed
          have : (AV.box e o).nobox0 d = .box e o := by simp [AV.nobox0, h0]
          rw [this]
          exact ⟨β', (hb e hed).trans h1, h2⟩
      | _ => exact hx
    obtain ⟨us, ws, e0, e2, e3, e4, e5⟩ := h
    refine ⟨us, ws, e0, by simp [e2], by simp [e3], fun j c hj => ?_, fun j c hj => ?_⟩ <;> rw [List.getElem?_map] at hj <;> obtain ⟨c0, hc0, rfl⟩ := Option.map_eq_some_iff.1 hj
    · obtain ⟨u, a, b⟩ := e4 j c0 hc0; exact ⟨u, a, key _ _ b⟩
    · obtain ⟨u, a, b⟩ := e5 j c0 hc0; exact ⟨u, a, key _ _ b⟩
  | ro cs =>
    obtain ⟨β', o, h1, h2⟩ := h
    refine ⟨β', o, h1, fun i c hi => ?_⟩
    obtain ⟨u, e1, e2, e3⟩ := h2 i c hi
    refine ⟨u, e1, by rw [hG]; exact e2, ?_⟩
    cases c <;> simp only [Rep0] at e3 ⊢ <;> first | exact e3 | exact ⟨e3.1, hG ▸ e3.2⟩
  | dead => exact h
  | agg cs => exact h.elim
  | tup cs => exact h.elim
  | self => exact h.elim
def subN (d : Nat) (ks : List CK) (n : Nat) : Option TypeId := if n / 1024 = d + 1 then (match ks[n % 1024]? with | some (.row E) => some E | _ => none) else none
theorem Inv.newBox (h : Inv P F g s a w) {d : Nat} (hd : F.np ≤ d) (hlt : d < s.t.length) {w1 : World} {us : Array Value} {T : TypeId} (hw : Push w w1 (.cells us T (0, 0))) {ks : List CK} {cs : List AV} (hk : ks.length ≤ 1024) (hkc : ks.length = cs.length) (hsz : us.size = cs.length)
    (hr : ∀ (j : Nat) c, cs[j]? = some c → ∃ u, us[j]? = some u ∧ RepC P g w c u) :
    ∃ g', Inv P F g' (s.newBox d (cellsAt (some T) d 0 ks cs)) (a.put (some d) (.pointer (some ⟨w.heap.size, 0, none⟩))) w1 := by
  have hkl := killsF_kills d 0 1024
  have h1 := h.kills hkl
  have h2 := h1.drop d hd
  have hN : ∀ n, subN d ks n ≠ none → ((g.kills (killsF d 0 1024)).box d none).tk n = none := fun n hn => by
    unfold subN at hn
    by_cases e : n / 1024 = d + 1
    · refine kills_tk (g := g) hkl ?_
      have hm : n % 1024 < 1024 := Nat.mod_lt _ (by decide)
      have : n = sub d (n % 1024) := by unfold sub; omega
      rw [this]
      exact killsF_sub d 0 1024 _ hm (Nat.zero_le _) hm
    · rw [if_neg e] at hn; exact absurd rfl hn
  have h3 := h2.nils hN
  have hbl : d < s.b.length := by rw [h.blen]; exact hlt
  have h4 := h3.addBox hd (by simpa [St.drop, St.tok] using hlt) (by simp [St.drop, St.tok, hbl]) (by show (if d = d then none else _) = none; rw [if_pos rfl]) (us := us) (T := T) hw (cs := (cellsAt (some T) d 0 ks cs).map (AV.nobox1 d)) (by simp [cellsAt_len (some T) d 0 ks cs hkc, hsz]) (fun j c hj => by
    rw [List.getElem?_map, cellsAt_get (some T) d 0 ks cs hkc] at hj
    obtain ⟨c1, hc1, rfl⟩ := Option.map_eq_some_iff.1 hj
    obtain ⟨c0, hc0, hc1⟩ := Option.bind_eq_some_iff.1 hc1
    obtain ⟨k, hkk, rfl⟩ := Option.map_eq_some_iff.1 hc1
    obtain ⟨u, hu, hrc⟩ := hr j c0 hc0
    refine ⟨u, hu, ?_⟩
    rw [Nat.zero_add]
    have hj' : j < 1024 := Nat.lt_of_lt_of_le (List.getElem?_eq_some_iff.1 hkk).1 hk
    refine cellAt_rep (g := g) rfl (fun e he => by show (if e = d then none else g.bx e) = g.bx e; rw [if_neg he]) (fun E hE => ?_) hrc
    show (match subN d ks (sub d j) with | some E => some (Value.slice none 0 0, E) | none => _) = _
    have : subN d ks (sub d j) = some E := by
      unfold subN
      rw [if_pos (sub_div d j hj'), sub_mod d j hj', hkk, hE]
    rw [this])
  have he : s.newBox d (cellsAt (some T) d 0 ks cs) = (((s.tok (killsF d 0 1024)).drop d).setBox d ((cellsAt (some T) d 0 ks cs).map (AV.nobox1 d))).put (some d) (.box d 0) := by
    simp [St.newBox, St.drop, St.setBox, St.put, List.set_set]
  rw [he]
  exact ⟨_, h4⟩
theorem cellAt_rep0 {g' : Gh} {T : TypeId} {d j β : Nat} {k : CK} {c : AV} {u : Value} (hG : g'.G = g.G) (hb : g'.bx = g.bx) (hN : ∀ E, k = .row E → g'.tk (sub d j) = some (.slice none 0 0, E)) (h : RepC P g w c u) :
    RepB P g' w T β j (cellAt none d j k c) u := by
  cases c with
  | v x =>
    obtain ⟨rfl, h1⟩ := h
    by_cases e1 : u = .slice none 0 0
    · subst e1
      cases k with
      | row E => exact ⟨.nil _ _ _, fun n hn => by cases hn; exact hN E rfl⟩
      | _ => exact ⟨rfl, h1⟩
    · by_cases e2 : u = .pointer none
      · subst e2
        cases k with
        | self => exact ⟨rfl, h1⟩
        | _ => exact ⟨rfl, h1⟩
      · have : cellAt none d j k (.v u) = .v u := by
          unfold cellAt
          split <;> first | rfl | (rename_i e; cases e; first | exact absurd rfl e1 | exact absurd rfl e2 | rfl) | skip
          all_goals (rename_i e; cases e)
        rw [this]
        exact ⟨rfl, h1⟩
  | row t E l => exact ⟨hG ▸ h.1, fun n hn => by cases hn⟩
  | box e o =>
    obtain ⟨β', h1, h2⟩ := h
    exact ⟨β', by rw [hb]; exact h1, h2⟩
  | fn f xs cs =>
    have key : ∀ (x : AV) (v : Value), Rep1 g x v → Rep1 g' x v := fun x v hx => by
      cases x with
      | box e o => obtain ⟨β', h1, h2⟩ := hx; exact ⟨β', by rw [hb]; exact h1, h2⟩
      | _ => exact hx
    obtain ⟨us, ws, e0, e2, e3, e4, e5⟩ := h
    exact ⟨us, ws, e0, e2, e3, fun j c hj => let ⟨u, a, b⟩ := e4 j c hj; ⟨u, a, key _ _ b⟩, fun j c hj => let ⟨u, a, b⟩ := e5 j c hj; ⟨u, a, key _ _ b⟩⟩
  | ro cs =>
    obtain ⟨β', o, h1, h2⟩ := h
    refine ⟨β', o, h1, fun i c hi => ?_⟩
    obtain ⟨u, e1, e2, e3⟩ := h2 i c hi
    refine ⟨u, e1, by rw [hG]; exact e2, ?_⟩
    cases c <;> simp only [Rep0] at e3 ⊢ <;> first | exact e3 | exact ⟨e3.1, hG ▸ e3.2⟩
  | dead => exact h
  | agg cs => exact h.elim
  | tup cs => exact h.elim
  | self => exact h.elim
theorem boxAt_eq {d : Nat} {cs : List AV} (h : s.boxAt d = some cs) : s.b[d]? = some (some cs) := by
  unfold St.boxAt at h
  rw [List.getD_eq_getElem?_getD] at h
  cases hq : s.b[d]? with
  | none => rw [hq] at h; cases h
  | some o => rw [hq] at h; exact congrArg some h
theorem runs_storeVar {T : TypeId} {β off n : Nat} {us : Array Value} {T0 : TypeId} {v : Value} (hn : szT P T = some n) (hv : v.cells.size = n) (h1 : ∀ u ∈ v.cells.toList, u.oneCell' = true) (hb : w.heap[β]? = some (.cells us T0 (0, 0))) (hle : off + n ≤ us.size) :
    (Instr.storeAt T (.pointer (some ⟨β, off, none⟩)) v).run P w = .ok () (w.setRow β (us.toList.take off ++ v.cells.toList ++ us.toList.drop (off + n)).toArray) := by
  obtain ⟨m, hm, rfl⟩ := runs_sizeOf (P := P) (w := w) hn
  have := run_storeCells_at P β off T0 v.cells.toList 0 us w hb (by simp [hv]; omega) h1
  simp only [Nat.add_zero, Array.length_toList, hv] at this
  simp [Instr.storeAt, Instr.sureAddr, storeVar, hm, hv, this]
theorem splice_get {α : Type} (l new : List α) (off n : Nat) (hn : new.length = n) (hle : off + n ≤ l.length) (j : Nat) : (l.take off ++ (new ++ l.drop (off + n)))[j]? = if off ≤ j ∧ j < off + n then new[j - off]? else l[j]? := by
  by_cases h1 : off ≤ j ∧ j < off + n
  · rw [if_pos h1, List.getElem?_append_right (by simp; omega), List.getElem?_append_left (by simp; omega)]
    simp [Nat.min_eq_left (show off ≤ l.length by omega)]
  · rw [if_neg h1]
    by_cases h2 : j < off
    · rw [List.getElem?_append_left (by simp; omega), List.getElem?_take, if_pos h2]
    · rw [List.getElem?_append_right (by simp; omega), List.getElem?_append_right (by simp; omega), List.getElem?_drop]
      simp only [List.length_take, Nat.min_eq_left (show off ≤ l.length by omega)]
      congr 1
      omega
theorem uniqT_spec : ∀ (cs : List AV) (u : List Nat), (uniqT u cs).length = cs.length ∧ (∀ (j : Nat) c, (uniqT u cs)[j]? = some c → ∃ c0, cs[j]? = some c0 ∧ (c = c0 ∨ ∃ t E l, c0 = .row t E l ∧ c = .row none E l)) ∧
    (∀ (j m : Nat) E l, (uniqT u cs)[j]? = some (.row (some m) E l) → m ∉ u) ∧ ∀ (j j' m : Nat) E l E' l', (uniqT u cs)[j]? = some (.row (some m) E l) → (uniqT u cs)[j']? = some (.row (some m) E' l') → j = j'
  | [], u => ⟨rfl, fun j c h => by simp [uniqT] at h, fun j m E l h => by simp [uniqT] at h, fun j j' m E l E' l' h => by simp [uniqT] at h⟩
  | c :: cs, u => by
    have mk : ∀ (c1 : AV) (u1 : List Nat), uniqT u (c :: cs) = c1 :: uniqT u1 cs → (c1 = c ∨ ∃ t E l, c = .row t E l ∧ c1 = .row none E l) → (∀ m E l, c1 = .row (some m) E l → m ∉ u ∧ m ∈ u1) → (∀ m, m ∈ u → m ∈ u1) → _ := fun c1 u1 he h1 h2 h3 => (by
      obtain ⟨i1, i2, i3, i4⟩ := uniqT_spec cs u1
      rw [he]
      refine ⟨by simp [i1], fun j c' h => ?_, fun j m E l h => ?_, fun j j' m E l E' l' h h' => ?_⟩
      · cases j with
        | zero => simp at h; subst h; exact ⟨c, rfl, h1⟩
        | succ j => exact i2 j c' (by simpa using h)
      · cases j with
        | zero => simp at h; exact (h2 m E l h).1
        | succ j => exact fun hm => i3 j m E l (by simpa using h) (h3 m hm)
      · cases j with
        | zero =>
          simp at h
          cases j' with
          | zero => rfl
          | succ j' => exact absurd (h2 m E l h).2 (i3 j' m E' l' (by simpa using h'))
        | succ j =>
          cases j' with
          | zero => simp at h'; exact absurd (h2 m E' l' h').2 (i3 j m E l (by simpa using h))
          | succ j' => rw [i4 j j' m E l E' l' (by simpa using h) (by simpa using h')] : (uniqT u (c :: cs)).length = (c :: cs).length ∧ (∀ (j : Nat) c', (uniqT u (c :: cs))[j]? = some c' → ∃ c0, (c :: cs)[j]? = some c0 ∧ (c' = c0 ∨ ∃ t E l, c0 = .row t E l ∧ c' = .row none E l)) ∧
        (∀ (j m : Nat) E l, (uniqT u (c :: cs))[j]? = some (.row (some m) E l) → m ∉ u) ∧ ∀ (j j' m : Nat) E l E' l', (uniqT u (c :: cs))[j]? = some (.row (some m) E l) → (uniqT u (c :: cs))[j']? = some (.row (some m) E' l') → j = j')
    cases c with
    | row t E l =>
      cases t with
      | none => exact mk _ _ rfl (.inl rfl) (fun _ _ _ e => by cases e) (fun _ h => h)
      | some n =>
        cases hc : u.contains n
        · exact mk (.row (some n) E l) (n :: u) (by simp only [uniqT, hc, cond_false]) (.inl rfl) (fun m E' l' e => by cases e; exact ⟨by simpa using hc, by simp⟩) (fun m h => by simp [h])
        · exact mk (.row none E l) u (by simp only [uniqT, hc, cond_true]) (.inr ⟨_, _, _, rfl, rfl⟩) (fun _ _ _ e => by cases e) (fun _ h => h)
    | _ => exact mk _ _ rfl (.inl rfl) (fun _ _ _ e => by cases e) (fun _ h => h)
theorem findT_some : ∀ (cs : List AV) (j0 m k : Nat), findT cs j0 m = some k → ∃ j E l, k = j0 + j ∧ cs[j]? = some (.row (some m) E l)
  | [], j0, m, k, h => by cases h
  | c :: cs, j0, m, k, h => by
    have nx : findT cs (j0 + 1) m = some k → ∃ j E l, k = j0 + j ∧ (c :: cs)[j]? = some (.row (some m) E l) := fun h => by
      obtain ⟨j, E, l, h1, h2⟩ := findT_some cs (j0 + 1) m k h
      exact ⟨j + 1, E, l, by omega, by simpa using h2⟩
    unfold findT at h
    split at h
    · rename_i n E l
      cases hn : (n == m) <;> rw [hn] at h
      · exact nx h
      · cases h
        have e : n = m := by simpa using hn
        subst e
        exact ⟨0, E, l, rfl, rfl⟩
    · exact nx h
theorem findT_none : ∀ (cs : List AV) (j0 m : Nat), findT cs j0 m = none → ∀ (j : Nat) E l, cs[j]? ≠ some (.row (some m) E l)
  | [], j0, m, h, j, E, l, e => by simp at e
  | c :: cs, j0, m, h, j, E, l, e => by
    have nx : findT cs (j0 + 1) m = none → (∀ E l, c ≠ .row (some m) E l) → False := fun h hc => by
      cases j with
      | zero => simp at e; exact hc E l e
      | succ j => exact findT_none cs (j0 + 1) m h j E l (by simpa using e)
    unfold findT at h
    split at h
    · rename_i n E' l'
      cases hn : (n == m) <;> rw [hn] at h
      · exact nx h fun E l e => by cases e; simp at hn
      · cases h
    · rename_i hne
      exact nx h fun E l e => hne _ _ _ e
theorem intoL_get (d : Nat) : ∀ (j0 : Nat) (cs zs : List AV), cs.length = zs.length → ∀ j : Nat, (intoL d j0 cs zs)[j]? = (cs[j]?).bind fun c => (zs[j]?).map fun z => c.into d (j0 + j) z
  | j0, [], [], _, j => by simp [intoL]
  | j0, c :: cs, z :: zs, h, 0 => by simp [intoL]
  | j0, c :: cs, z :: zs, h, j + 1 => by
    have := intoL_get d (j0 + 1) cs zs (by simpa using h) j
    simp only [intoL, List.getElem?_cons_succ, this, Nat.add_assoc, Nat.add_comm 1 j]
  | _, [], _ :: _, h, _ => by simp at h
  | _, _ :: _, [], h, _ => by simp at h
theorem intoL_len (d : Nat) : ∀ (j0 : Nat) (cs zs : List AV), cs.length = zs.length → (intoL d j0 cs zs).length = zs.length
  | j0, [], [], _ => rfl
  | j0, c :: cs, z :: zs, h => by simp [intoL, intoL_len d (j0 + 1) cs zs (by simpa using h)]
  | _, [], _ :: _, h => by simp at h
  | _, _ :: _, [], h => by simp at h
def srcT (d off : Nat) (us : List AV) (n : Nat) : Option Nat := if n / 1024 = d + 1 ∧ off ≤ n % 1024 then (match us[n % 1024 - off]? with | some (.row (some m) _ _) => some m | _ => none) else none
theorem srcT_some {d off n m : Nat} {us : List AV} (h : srcT d off us n = some m) : n / 1024 = d + 1 ∧ off ≤ n % 1024 ∧ ∃ E l, us[n % 1024 - off]? = some (.row (some m) E l) := by
  unfold srcT at h
  split at h
  · rename_i hc
    split at h
    · rename_i e; cases h; exact ⟨hc.1, hc.2, _, _, e⟩
    · cases h
  · cases h
theorem srcT_of {d off j m : Nat} {us : List AV} {E : TypeId} {l : List Dat} (hj : off + j < 1024) (h : us[j]? = some (.row (some m) E l)) : srcT d off us (sub d (off + j)) = some m := by
  unfold srcT
  rw [if_pos ⟨sub_div d _ hj, by rw [sub_mod d _ hj]; omega⟩, sub_mod d _ hj, Nat.add_sub_cancel_left, h]
theorem moveF_eq (d off hi m : Nat) (us : List AV) : moveF d off hi us (some m) = (match findT us off m with | some j => some (sub d j) | none => killsF d off hi (some m)) := rfl
def Gh.move (g : Gh) (d off hi : Nat) (us : List AV) : Gh := { g with tk := fun n => match srcT d off us n with
  | some m => g.tk m
  | none => (match moveF d off hi us (some n) with | some n' => if n' = n then g.tk n else none | none => none) }
theorem Inv.move (h : Inv P F g s a w) {d off n : Nat} {us : List AV} (hn : us.length = n) (hlt : off + n ≤ 1024) (hu : ∀ (j j' m : Nat) E l E' l', us[j]? = some (.row (some m) E l) → us[j']? = some (.row (some m) E' l') → j = j') :
    Inv P F (g.move d off (off + n) us) (s.tok (moveF d off (off + n) us)) a w := by
  have hlen : ∀ (j m : Nat) E l, us[j]? = some (.row (some m) E l) → off + j < 1024 := fun j m E l e => by
    have := (List.getElem?_eq_some_iff.1 e).1; omega
  have htk : ∀ k v, (g.move d off (off + n) us).tk k = some v → (∃ m, srcT d off us k = some m ∧ g.tk m = some v) ∨ (srcT d off us k = none ∧ moveF d off (off + n) us (some k) = some k ∧ g.tk k = some v) := fun k v hk => by
    have hk' : (match srcT d off us k with
      | some m => g.tk m
      | none => (match moveF d off (off + n) us (some k) with | some n' => if n' = k then g.tk k else none | none => none)) = some v := hk
    split at hk'
    · rename_i m hm; exact .inl ⟨m, hm, hk'⟩
    · rename_i hm
      split at hk'
      · rename_i n' hn'
        split at hk'
        · rename_i e; exact .inr ⟨hm, by rw [hn', e], hk'⟩
        · cases hk'
      · cases hk'
  refine h.tok (f := moveF d off (off + n) us) (g' := g.move d off (off + n) us) ⟨rfl, rfl, rfl, fun k n' v hk hv => ?_⟩ (fun k => match srcT d off us k with | some m => m | none => k) (fun k v hk => ?_) (fun k k' hk hk' e => ?_)
  · show (match srcT d off us n' with
      | some m => g.tk m
      | none => (match moveF d off (off + n) us (some n') with | some n'' => if n'' = n' then g.tk n' else none | none => none)) = some v
    have hk0 := hk
    rw [moveF_eq] at hk
    split at hk
    · rename_i j hj
      cases hk
      obtain ⟨j1, E, l, rfl, h1⟩ := findT_some _ _ _ _ hj
      rw [srcT_of (hlen _ _ _ _ h1) h1]
      exact hv
    · rename_i hj
      have hsame : n' = k ∧ ¬ (k / 1024 = d + 1 ∧ off ≤ k % 1024 ∧ k % 1024 < off + n) := by
        simp only [killsF] at hk
        cases hc : (k / 1024 == d + 1 && Nat.ble off (k % 1024) && Nat.blt (k % 1024) (off + n)) <;> rw [hc] at hk
        · cases hk
          refine ⟨rfl, fun ⟨q1, q2, q3⟩ => ?_⟩
          have e1 : (k / 1024 == d + 1) = true := by simpa using q1
          have e2 : Nat.ble off (k % 1024) = true := Nat.ble_eq_true_of_le q2
          have e3 : Nat.blt (k % 1024) (off + n) = true := Nat.ble_eq_true_of_le q3
          rw [e1, e2, e3] at hc
          cases hc
        · cases hk
      obtain ⟨rfl, hno⟩ := hsame
      have hs : srcT d off us n' = none := by
        cases hs : srcT d off us n' with
        | none => rfl
        | some m =>
          obtain ⟨q1, q2, E, l, q3⟩ := srcT_some hs
          have := (List.getElem?_eq_some_iff.1 q3).1
          exact absurd ⟨q1, q2, by omega⟩ hno
      rw [hs]
      dsimp only
      rw [hk0]
      dsimp only
      rw [if_pos rfl]
      exact hv
  · rcases htk k v hk with ⟨m, h1, h2⟩ | ⟨h1, _, h2⟩ <;> rw [h1] <;> exact h2
  · obtain ⟨v, hv⟩ := Option.ne_none_iff_exists'.1 hk
    obtain ⟨v', hv'⟩ := Option.ne_none_iff_exists'.1 hk'
    have mix : ∀ k k' m, srcT d off us k = some m → srcT d off us k' = none → moveF d off (off + n) us (some k') = some k' → m = k' → False := fun k k' m h1 h2 h3 e => by
      subst e
      obtain ⟨q1, q2, E, l, q3⟩ := srcT_some h1
      rw [moveF_eq] at h3
      cases hf : findT us off m with
      | none => exact findT_none _ _ _ hf _ _ _ q3
      | some j =>
        rw [hf] at h3
        obtain ⟨j1, E', l', rfl, h5⟩ := findT_some _ _ _ _ hf
        have h6 : sub d (off + j1) = m := by simpa using h3
        rw [← h6, srcT_of (hlen _ _ _ _ h5) h5] at h2
        cases h2
    rcases htk k v hv with ⟨m, h1, h2⟩ | ⟨h1, h1', h2⟩ <;> rcases htk k' v' hv' with ⟨m', h3, h4⟩ | ⟨h3, h3', h4⟩ <;> simp only [h1, h3] at e
    · subst e
      obtain ⟨q1, q2, E, l, q3⟩ := srcT_some h1
      obtain ⟨r1, r2, E', l', r3⟩ := srcT_some h3
      have := hu _ _ _ _ _ _ _ q3 r3
      omega
    · exact (mix k k' m h1 h3 h3' e).elim
    · exact (mix k' k m' h3 h1 h1' e.symm).elim
    · exact e
theorem store_sound (h : Inv P F g s a w) {T : TypeId} {A X : AV} {va vx : Value} {s' : St} (hs : storeAV P s T A X = some s') (hA : RepS P g w A va) (hX : RepS P g w X vx) :
    ∃ g' w', (Instr.storeAt T va vx).run P w = .ok () w' ∧ Inv P F g' s' a w' := by
  unfold storeAV at hs
  split at hs
  · rename_i d off
    obtain ⟨cs, hcs, hs⟩ := Option.bind_eq_some_iff.1 hs
    obtain ⟨ks, hks, hs⟩ := Option.bind_eq_some_iff.1 hs
    obtain ⟨n, hn, hs⟩ := Option.bind_eq_some_iff.1 hs
    obtain ⟨β, hβ, rfl⟩ := (show RepC P g w (.box d off) va from hA)
    cases hc : (n == ks.length && X.cells.all AV.one && Nat.beq X.cells.length n && Nat.ble (off + n) cs.length && Nat.ble cs.length 1024) <;> rw [hc] at hs
    · cases hs
    simp only [cond_true] at hs
    simp only [Bool.and_eq_true] at hc
    obtain ⟨⟨⟨⟨c1, c2⟩, c3⟩, c4⟩, c5⟩ := hc
    have c1 : n = ks.length := by simpa using c1
    have c3 := Nat.eq_of_beq_eq_true c3
    have c4 := Nat.le_of_ble_eq_true c4
    have c5 := Nat.le_of_ble_eq_true c5
    have hb := boxAt_eq hcs
    obtain ⟨β', us, T0, b1, b2, b3, b4, b5⟩ := h.mem.box d cs hb
    rw [hβ] at b1
    cases b1
    obtain ⟨x1, x2⟩ := cells_rep hX c2
    have hone : ∀ u ∈ vx.cells.toList, u.oneCell' = true := fun u hu => by
      obtain ⟨j, hj, rfl⟩ := List.mem_iff_getElem.1 hu
      have hj' : j < vx.cells.size := by simpa using hj
      obtain ⟨u', hu', hr⟩ := x2 j X.cells[j] (List.getElem?_eq_getElem (by omega))
      rw [Array.getElem?_eq_getElem hj'] at hu'
      cases hu'
      simpa using hr.one
    have hrun := runs_storeVar (P := P) (w := w) hn (by rw [x1, c3]) hone b2 (by rw [b3]; exact c4)
    have hw := Wr.setRow (us' := (us.toList.take off ++ vx.cells.toList ++ us.toList.drop (off + n)).toArray) b2
    have hus : ∀ j : Nat, (us.toList.take off ++ vx.cells.toList ++ us.toList.drop (off + n)).toArray[j]? = if off ≤ j ∧ j < off + n then vx.cells[j - off]? else us[j]? := fun j => by
      rw [List.getElem?_toArray, List.append_assoc, splice_get _ _ off n (by simp [x1, c3]) (by simp [b3]; omega)]
      simp
    have hsz : (us.toList.take off ++ vx.cells.toList ++ us.toList.drop (off + n)).toArray.size = us.size := by simp [x1, c3]; omega
    by_cases hXr : ∃ m E l, X = .row (some m) E l
    · obtain ⟨m, E, l, rfl⟩ := hXr
      simp only at hs
      have hn1 : n = 1 := by simpa [AV.cells] using c3.symm
      obtain ⟨hrow, htk⟩ := (show RepC P g w (.row (some m) E l) vx from hX)
      obtain ⟨A', cap', hvx⟩ := hrow.slice
      have hvc : vx.cells = #[vx] := by rw [hvx]; rfl
      have hfin : ∀ (g1 : Gh) (s1 : St) (cs1 : List AV), Inv P F g1 s1 a w → g1.G = g.G → g1.bx = g.bx → s1.b[d]? = some (some cs1) → g1.tk (sub d off) = some (vx, E) → Inv P F g1 (s1.setBox d (cs1.set off (.row (some (sub d off)) E l))) a (w.setRow β (us.toList.take off ++ vx.cells.toList ++ us.toList.drop (off + n)).toArray) := fun g1 s1 cs1 hI hG1 hb1 hd1 ht1 => by
        obtain ⟨β'', us1, T1, d1, d2, d3, d4, d5⟩ := hI.mem.box d cs1 hd1
        rw [hb1, hβ] at d1
        cases d1
        rw [b2] at d2
        cases d2
        refine hI.setBox hd1 (by rw [hb1]; exact hβ) b2 hw hsz (by simp) (fun j c hj => ?_)
        rw [hus j]
        rw [List.getElem?_set] at hj
        split at hj
        · rename_i e
          subst e
          split at hj
          · cases hj
            rw [if_pos (by omega), hvc]
            refine ⟨vx, by simp, ⟨hG1 ▸ hrow, fun q hq => ?_⟩⟩
            cases hq
            exact ht1
          · cases hj
        · rename_i e
          rw [if_neg (by omega)]
          exact d5 j c hj
      cases hm : (m == sub d off) <;> rw [hm] at hs
      · simp only [cond_false] at hs
        have hne : m ≠ sub d off := by simpa using hm
        have h1 := h.kills (killF_kills (sub d off))
        have hd0 : (g.kills (killF (sub d off))).tk (sub d off) = none := kills_tk (killF_kills _) (killF_self _)
        have h2 := h1.ren hd0 hne
        obtain ⟨cs1, hcs1, hs'⟩ := Option.map_eq_some_iff.1 hs
        subst hs'
        refine ⟨_, _, hrun, hfin _ _ cs1 h2 rfl rfl (boxAt_eq hcs1) ?_⟩
        show (if sub d off = sub d off then (g.kills (killF (sub d off))).tk m else _) = some (vx, E)
        rw [if_pos rfl]
        show (match killF (sub d off) (some m) with | some _ => g.tk m | none => none) = some (vx, E)
        have : killF (sub d off) (some m) = some m := by simp [killF, hm]
        rw [this]
        exact htk m rfl
      · simp only [cond_true] at hs
        cases hs
        have : m = sub d off := by simpa using hm
        subst this
        exact ⟨_, _, hrun, hfin g s cs h rfl rfl hb (htk _ rfl)⟩
    · replace hs : ((s.tok (moveF d off (off + n) (uniqT [] X.cells))).boxAt d).map (fun cs => (s.tok (moveF d off (off + n) (uniqT [] X.cells))).setBox d (cs.take off ++ (intoL d off (uniqT [] X.cells) (cellsAt none d off ks X.cells) ++ cs.drop (off + n)))) = some s' := by
        cases X with
        | row t E l =>
          cases t with
          | none => exact hs
          | some m => exact absurd ⟨m, E, l, rfl⟩ hXr
        | _ => exact hs
      obtain ⟨u1, u2, _, u4⟩ := uniqT_spec X.cells []
      generalize hU : uniqT [] X.cells = U at hs u1 u2 u4
      have h1 := h.move (d := d) (off := off) (n := n) (us := U) (by rw [u1, c3]) (by omega) u4
      have hN : ∀ m, (fun m => if m / 1024 = d + 1 ∧ off ≤ m % 1024 ∧ m % 1024 < off + n then (match U[m % 1024 - off]?, ks[m % 1024 - off]? with | some (.row (some _) _ _), _ => none | _, some (.row E) => some E | _, _ => none) else none : Nat → Option TypeId) m ≠ none → (g.move d off (off + n) U).tk m = none := fun m hm => by
        dsimp only at hm
        by_cases e : m / 1024 = d + 1 ∧ off ≤ m % 1024 ∧ m % 1024 < off + n
        · rw [if_pos e] at hm
          have hnr : ∀ t E l, U[m % 1024 - off]? ≠ some (.row (some t) E l) := fun t E l he => by
            rw [he] at hm
            exact hm rfl
          have hs0 : srcT d off U m = none := by
            cases hq : srcT d off U m with
            | none => rfl
            | some t =>
              obtain ⟨_, _, E, l, q3⟩ := srcT_some hq
              exact absurd q3 (hnr t E l)
          show (match srcT d off U m with
            | some t => g.tk t
            | none => (match moveF d off (off + n) U (some m) with | some n' => if n' = m then g.tk m else none | none => none)) = none
          rw [hs0]
          dsimp only
          have hm' : m % 1024 < 1024 := Nat.mod_lt _ (by decide)
          have hms : m = sub d (m % 1024) := by unfold sub; omega
          cases hq : moveF d off (off + n) U (some m) with
          | none => rfl
          | some n' =>
            dsimp only
            by_cases en : n' = m
            · subst en
              rw [moveF_eq] at hq
              cases hf : findT U off n' with
              | none =>
                rw [hf] at hq
                have := killsF_sub d off (off + n) _ hm' e.2.1 e.2.2
                rw [← hms] at this
                dsimp only at hq
                rw [this] at hq
                cases hq
              | some j =>
                rw [hf] at hq
                obtain ⟨j1, E, l, rfl, q5⟩ := findT_some _ _ _ _ hf
                have hlt := (List.getElem?_eq_some_iff.1 q5).1
                have q6 : sub d (off + j1) = n' := by simpa using hq
                have q7 : n' % 1024 = off + j1 := by rw [← q6]; exact sub_mod d _ (by omega)
                exact absurd (by rw [q7, Nat.add_sub_cancel_left]; exact q5) (hnr n' E l)
            · rw [if_neg en]
        · rw [if_neg e] at hm; exact absurd rfl hm
      have h2 := h1.nils hN
      obtain ⟨cs1, hcs1, hs'⟩ := Option.map_eq_some_iff.1 hs
      subst hs'
      have hb1 := boxAt_eq hcs1
      obtain ⟨β'', us1, T1, d1, d2, d3, d4, d5⟩ := h2.mem.box d cs1 hb1
      have hβ' : g.bx d = some β'' := d1
      rw [hβ] at hβ'
      cases hβ'
      rw [b2] at d2
      cases d2
      have hl1 : cs1.length = cs.length := by omega
      have hcl : (cellsAt none d off ks X.cells).length = X.cells.length := cellsAt_len none d off ks X.cells (by omega)
      have hil : (intoL d off U (cellsAt none d off ks X.cells)).length = n := by rw [intoL_len d off U _ (by rw [u1, hcl]), hcl, c3]
      refine ⟨_, _, hrun, h2.setBox hb1 hβ b2 hw hsz (by simp [hil]; omega) (fun j c hj => ?_)⟩
      rw [hus j]
      rw [splice_get _ _ off n hil (by omega)] at hj
      split at hj
      · rename_i e
        rw [if_pos e]
        rw [intoL_get d off U _ (by rw [u1, hcl]), cellsAt_get none d off ks X.cells (by omega)] at hj
        obtain ⟨cu, hcu, hj⟩ := Option.bind_eq_some_iff.1 hj
        obtain ⟨z, hz, rfl⟩ := Option.map_eq_some_iff.1 hj
        obtain ⟨c0, hc0, hc1⟩ := Option.bind_eq_some_iff.1 hz
        obtain ⟨k, hkk, rfl⟩ := Option.map_eq_some_iff.1 hc1
        obtain ⟨u, hu, hr⟩ := x2 _ c0 hc0
        refine ⟨u, hu, ?_⟩
        have hj' : off + (j - off) = j := by omega
        rw [hj']
        have hNj : (fun m => if m / 1024 = d + 1 ∧ off ≤ m % 1024 ∧ m % 1024 < off + n then (match U[m % 1024 - off]?, ks[m % 1024 - off]? with | some (.row (some _) _ _), _ => none | _, some (.row E) => some E | _, _ => none) else none : Nat → Option TypeId) (sub d j) = (match U[j - off]?, ks[j - off]? with | some (.row (some _) _ _), _ => none | _, some (.row E) => some E | _, _ => none) := by
          dsimp only
          rw [sub_div d j (by omega), sub_mod d j (by omega), if_pos ⟨rfl, e⟩]
        by_cases hrow : ∃ m E l, cu = .row (some m) E l
        · obtain ⟨m, E, l, rfl⟩ := hrow
          obtain ⟨c0', q1, q2⟩ := u2 _ _ hcu
          rw [hc0] at q1
          cases q1
          rcases q2 with q2 | ⟨t, E', l', _, q2⟩
          · subst q2
            obtain ⟨r1, r2⟩ := hr
            refine (show RepC P _ w (.row (some (sub d j)) E l) u from ⟨r1, fun q hq => ?_⟩)
            cases hq
            show (match (fun m => if m / 1024 = d + 1 ∧ off ≤ m % 1024 ∧ m % 1024 < off + n then (match U[m % 1024 - off]?, ks[m % 1024 - off]? with | some (.row (some _) _ _), _ => none | _, some (.row E) => some E | _, _ => none) else none : Nat → Option TypeId) (sub d j) with | some E => some (Value.slice none 0 0, E) | none => (g.move d off (off + n) U).tk (sub d j)) = _
            rw [hNj, hcu]
            show (match srcT d off U (sub d j) with
              | some t => g.tk t
              | none => _) = _
            have := srcT_of (d := d) (off := off) (j := j - off) (us := U) (by omega) hcu
            rw [hj'] at this
            rw [this]
            exact r2 m rfl
          · cases q2
        · have hz' : cu.into d j (cellAt none d j k c0) = cellAt none d j k c0 := by
            cases cu with
            | row t E l =>
              cases t with
              | none => rfl
              | some m => exact absurd ⟨m, E, l, rfl⟩ hrow
            | _ => rfl
          rw [hz']
          refine cellAt_rep0 (g := g) rfl rfl (fun E hE => ?_) hr
          show (match (fun m => if m / 1024 = d + 1 ∧ off ≤ m % 1024 ∧ m % 1024 < off + n then (match U[m % 1024 - off]?, ks[m % 1024 - off]? with | some (.row (some _) _ _), _ => none | _, some (.row E) => some E | _, _ => none) else none : Nat → Option TypeId) (sub d j) with | some E => some (Value.slice none 0 0, E) | none => (g.move d off (off + n) U).tk (sub d j)) = _
          rw [hNj, hcu, hkk, hE]
          cases cu with
          | row t E' l =>
            cases t with
            | none => rfl
            | some m => exact absurd ⟨m, E', l, rfl⟩ hrow
          | _ => rfl
      · rename_i e
        rw [if_neg e]
        exact d5 j c hj
  · cases hs
end
end Go.Proofs.YtckdgcpomkefpaaDoor.En
end
section
set_option linter.unusedVariables false
set_option linter.unusedSimpArgs false
namespace Go.Proofs.YtckdgcpomkefpaaDoor.En
open Go
section
variable {P : Program} {F : Fx} {g : Gh} {s : St} {a : Act} {w : World}
theorem fzOk0 (n : Nat) : fzOk (0, 0) n := .inl rfl
theorem run_storeCells_fz (P : Program) (g o : Nat) (t : TypeId) (fz : Nat × Nat) : ∀ (vs : List Value) (i : Nat) (cur : Array Value) (w : World), w.heap[g]? = some (.cells cur t fz) → fzOk fz cur.size → o + i + vs.length ≤ cur.size → (∀ v ∈ vs, v.oneCell' = true) →
    (storeCells ⟨g, o, none⟩ vs i).run P w = .ok () (w.setRow g (cur.toList.take (o + i) ++ vs ++ cur.toList.drop (o + i + vs.length)).toArray)
  | [], i, cur, w, hg, _, _, _ => by
    simp only [storeCells, List.append_nil, List.length_nil, Nat.add_zero, List.take_append_drop, Array.toArray_toList]
    rw [setRow_self w g cur t fz hg]
    rfl
  | v :: rest, i, cur, w, hg, hfz, hl, h1 => by
    have hi : o + i < cur.size := by simp at hl; omega
    have hadd : (⟨g, o, none⟩ : Addr).add i = ⟨g, o + i, none⟩ := by unfold Addr.add; split <;> simp_all
    have hcell : w.cell? ⟨g, o + i, none⟩ = some cur[o + i] := by simp [World.cell?, hg, hi]
    have hfro : w.frozen? ⟨g, o + i, none⟩ = false := by
      obtain ⟨lo, hi'⟩ := fz
      simp only [World.frozen?, hg, Bool.and_eq_false_iff, decide_eq_false_iff_not]
      rcases hfz with e | e <;> simp only at e <;> omega
    have hst : (store ((⟨g, o, none⟩ : Addr).add i) v).run P w = .ok () (w.setRow g (cur.setIfInBounds (o + i) v)) := by
      rw [hadd, run_store P w _ v _ (h1 v (by simp)), hcell]
      simp [hfro, setCell_eq_setRow w g (o + i) cur t fz v hg]
    have ih := run_storeCells_fz P g o t fz rest (i + 1) (cur.setIfInBounds (o + i) v) (w.setRow g (cur.setIfInBounds (o + i) v)) (setRow_heap w g cur _ t _ hg) (by simpa using hfz) (by simp at hl ⊢; omega) (fun x hx => h1 x (by simp [hx]))
    simp only [storeCells, Sem.run_bind, hst, Result.andThen_ok, ih, setRow_setRow]
    congr 3
    have e := list_seg_step cur.toList (o + i) v rest (by simp at hl ⊢; omega)
    simpa [Array.toList_setIfInBounds, Nat.add_assoc] using e
section run
variable {Ts : Array TypeId} {T U E : TypeId} {du : TypeDesc} {i : TypeInfo} {z : Value} {ty : TypeId} {y : Value} {m : Nat} {news : List Value}
theorem run_app_nil (hT : Ts[0]? = some T) (hU : Ts[1]? = some U) (ht : P.underlying T = some (.slice E)) (hu : P.underlying U = some du) (hd : (∃ e', du = .slice e') ∨ du = .string)
    (hi : P.info? E = some i) (hy : (∃ A c, y = .slice A m c) ∨ ∃ str, y = .string str ∧ m = str.size) (hf : ∀ w1 : World, w1.heap = w.heap → (Builtin.firstCells i.size m y).run P w1 = .ok news.toArray w1)
    (hm : m = 0) : (Builtin.append_ Ts ty #[.slice none 0 0, y]).run P w = .ok (.slice none 0 0) w := by
  have hf0 := hf w rfl
  rcases hy with ⟨A, c, rfl⟩ | ⟨str, rfl, e⟩
  · subst hm
    rcases hd with ⟨e', rfl⟩ | rfl <;> simp [Builtin.append_, hT, hU, run_underlying ht, run_underlying hu, sizeOf, typeInfo, hi, hf0, Builtin.lenOf]
  · have e' : str.size = 0 := by omega
    rw [hm] at hf0
    rcases hd with ⟨e'', rfl⟩ | rfl <;> simp [Builtin.append_, hT, hU, run_underlying ht, run_underlying hu, sizeOf, typeInfo, hi, hf0, Builtin.lenOf, e']
theorem run_app_room (hT : Ts[0]? = some T) (hU : Ts[1]? = some U) (ht : P.underlying T = some (.slice E)) (hu : P.underlying U = some du) (hd : (∃ e', du = .slice e') ∨ du = .string)
    (hi : P.info? E = some i) (hy : (∃ A c, y = .slice A m c) ∨ ∃ str, y = .string str ∧ m = str.size) (hf : ∀ w1 : World, w1.heap = w.heap → (Builtin.firstCells i.size m y).run P w1 = .ok news.toArray w1)
    {β n cap : Nat} {cur : Array Value} {T0 : TypeId} {fz : Nat × Nat} (hb : w.heap[β]? = some (.cells cur T0 fz)) (hfz : fzOk fz cur.size) (hl : news.length = m * i.size) (h1 : ∀ u ∈ news, u.oneCell' = true) (hroom : n + m ≤ cap) (hfit : n * i.size + news.length ≤ cur.size) :
    (Builtin.append_ Ts ty #[.slice (some ⟨β, 0, none⟩) n cap, y]).run P w = .ok (.slice (some ⟨β, 0, none⟩) (n + m) cap) (w.setRow β (cur.toList.take (n * i.size) ++ news ++ cur.toList.drop (n * i.size + news.length)).toArray) := by
  have hf0 := hf w rfl
  have hst := run_storeCells_fz P β (n * i.size) T0 fz news 0 cur w hb hfz (by simpa using hfit) h1
  simp only [Nat.add_zero] at hst
  rcases hy with ⟨A, c, rfl⟩ | ⟨str, rfl, e⟩
  · rcases hd with ⟨e', rfl⟩ | rfl <;> simp [Builtin.append_, hT, hU, run_underlying ht, run_underlying hu, sizeOf, typeInfo, hi, hf0, Builtin.lenOf, hroom, add_lit, hst]
  · subst e
    rcases hd with ⟨e', rfl⟩ | rfl <;> simp [Builtin.append_, hT, hU, run_underlying ht, run_underlying hu, sizeOf, typeInfo, hi, hf0, Builtin.lenOf, hroom, add_lit, hst]
theorem run_app_grow (hT : Ts[0]? = some T) (hU : Ts[1]? = some U) (ht : P.underlying T = some (.slice E)) (hu : P.underlying U = some du) (hd : (∃ e', du = .slice e') ∨ du = .string)
    (hi : P.info? E = some i) (hz : i.zero = some z) (hy : (∃ A c, y = .slice A m c) ∨ ∃ str, y = .string str ∧ m = str.size) (hf : ∀ w1 : World, w1.heap = w.heap → (Builtin.firstCells i.size m y).run P w1 = .ok news.toArray w1)
    {A0 : Option Addr} {n cap : Nat} {olds : List Value} (hfo : ∀ w1 : World, w1.heap = w.heap → (Builtin.firstCells i.size n (.slice A0 n cap)).run P w1 = .ok olds.toArray w1) (hg : cap < n + m) (h63 : ((n + m : Nat) : Int) ≤ 9223372036854775807) (hfit : Builtin.nextslicecap (n + m) cap * i.bytes ≤ 281474976710656) :
    (Builtin.append_ Ts ty #[.slice A0 n cap, y]).run P w = .ok (.slice (some ⟨w.heap.size, 0, none⟩) (n + m) (grownCap w (n + m) cap E)) (w.drew.alloc (.cells (olds.toArray ++ news.toArray ++ Builtin.zeroCells z.cells (grownCap w (n + m) cap E - (n + m))) E)) := by
  have hf0 := hf w.drew rfl
  have hfo0 := hfo w.drew rfl
  have hn : ¬ (n + m ≤ cap) := by omega
  have h63' : ¬ (9223372036854775807 < ((n : Int) + (m : Int))) := by omega
  have h48' : ¬ (281474976710656 < Builtin.nextslicecap (n + m) cap * i.bytes) := by omega
  rcases hy with ⟨A, c, rfl⟩ | ⟨str, rfl, e⟩
  · rcases hd with ⟨e', rfl⟩ | rfl
    all_goals
      simp [Builtin.append_, hT, hU, run_underlying ht, run_underlying hu, sizeOf, typeInfo, zeroValue, hi, hz, Builtin.lenOf, hn, h63', h48', Question.forced, hf0, hfo0, newRow, grownCap]
      try (congr 2; apply Array.ext'; simp [List.append_assoc])
  · subst e
    rcases hd with ⟨e', rfl⟩ | rfl
    all_goals
      simp [Builtin.append_, hT, hU, run_underlying ht, run_underlying hu, sizeOf, typeInfo, zeroValue, hi, hz, Builtin.lenOf, hn, h63', h48', Question.forced, hf0, hfo0, newRow, grownCap]
      try (congr 2; apply Array.ext'; simp [List.append_assoc])
end run
structure RepL (P : Program) (G : Nat → Nat → Prop) (w : World) (ks : List CK) (l : List Dat) (xs : List Value) : Prop where
  len : xs.length = l.length * ks.length
  one : ∀ u ∈ xs, u.oneCell' = true
  rep : ∀ (i j : Nat) k d, l[i]? = some d → ks[j]? = some k → ∃ u, xs[i * ks.length + j]? = some u ∧ scal k (d.at j) u ∧ ∀ E', k = .row E' → RepRow P G w E' (d.at j).toL u
theorem RepL.mono {G G' : Nat → Nat → Prop} {w' : World} {ks : List CK} {l : List Dat} {xs : List Value} (h : RepL P G w ks l xs) (hG : ∀ β j, G β j → G' β j ∧ w'.cell? ⟨β, j, none⟩ = w.cell? ⟨β, j, none⟩) : RepL P G' w' ks l xs :=
  ⟨h.len, h.one, fun i j k d hd hk => let ⟨u, h1, h2, h3⟩ := h.rep i j k d hd hk; ⟨u, h1, h2, fun E' hE => (h3 E' hE).mono hG⟩⟩
theorem RepL.nil {G : Nat → Nat → Prop} {ks : List CK} : RepL P G w ks [] [] := ⟨by simp, by simp, by simp⟩
theorem mul_lt_of {i j n m : Nat} (h1 : i < n) (h2 : j < m) : i * m + j < n * m := by
  have : (i + 1) * m ≤ n * m := Nat.mul_le_mul_right _ h1
  rw [Nat.add_mul] at this
  omega
theorem RepL.append {G : Nat → Nat → Prop} {ks : List CK} {l l2 : List Dat} {xs ys : List Value} (h : RepL P G w ks l xs) (h2 : RepL P G w ks l2 ys) : RepL P G w ks (l ++ l2) (xs ++ ys) := by
  refine ⟨by simp [h.len, h2.len, Nat.add_mul], fun u hu => ?_, fun i j k d hd hk => ?_⟩
  · rcases List.mem_append.1 hu with hu | hu
    · exact h.one u hu
    · exact h2.one u hu
  · have hj := (List.getElem?_eq_some_iff.1 hk).1
    by_cases hi : i < l.length
    · rw [List.getElem?_append_left hi] at hd
      obtain ⟨u, e1, e2⟩ := h.rep i j k d hd hk
      exact ⟨u, by rw [List.getElem?_append_left (by rw [h.len]; exact mul_lt_of hi hj)]; exact e1, e2⟩
    · rw [List.getElem?_append_right (by omega)] at hd
      obtain ⟨u, e1, e2⟩ := h2.rep _ j k d hd hk
      have e : i * ks.length + j = xs.length + ((i - l.length) * ks.length + j) := by
        rw [h.len, ← Nat.add_assoc, ← Nat.add_mul]
        congr 2
        omega
      refine ⟨u, ?_, e2⟩
      rw [e, List.getElem?_append_right (by omega)]
      rw [show xs.length + ((i - l.length) * ks.length + j) - xs.length = (i - l.length) * ks.length + j by omega]
      exact e1
theorem RepRow.list {G : Nat → Nat → Prop} {E : TypeId} {l : List Dat} {v : Value} {ks : List CK} (h : RepRow P G w E l v) (hks : kinds P E = some ks) :
    ∃ xs A cap, v = .slice A l.length cap ∧ RepL P G w ks l xs ∧ ∀ (q : Nat) u, xs[q]? = some u → ∃ β off, A = some ⟨β, off, none⟩ ∧ w.cell? ⟨β, off + q, none⟩ = some u ∧ G β (off + q) := by
  cases h with
  | nil E A cap => exact ⟨[], A, cap, rfl, .nil, fun q u hq => by simp at hq⟩
  | mk E l β off cap ks' vals hk hlen hc hs hr =>
    rw [hks] at hk
    cases hk
    have key : ∀ q, q < l.length * ks.length → q / ks.length < l.length ∧ q % ks.length < ks.length ∧ q / ks.length * ks.length + q % ks.length = q := fun q hq => by
      have hp : 0 < ks.length := by
        rcases Nat.eq_zero_or_pos ks.length with e | e
        · rw [e] at hq; simp at hq
        · exact e
      exact ⟨(Nat.div_lt_iff_lt_mul hp).2 hq, Nat.mod_lt _ hp, by rw [Nat.mul_comm]; exact Nat.div_add_mod q ks.length⟩
    have hget : ∀ (q : Nat) u, ((List.range (l.length * ks.length)).map fun q => vals (q / ks.length) (q % ks.length))[q]? = some u → q < l.length * ks.length ∧ u = vals (q / ks.length) (q % ks.length) := fun q u hq => by
      rw [List.getElem?_map] at hq
      obtain ⟨q', h1, h2⟩ := Option.map_eq_some_iff.1 hq
      obtain ⟨h3, h4⟩ := List.getElem?_eq_some_iff.1 h1
      simp at h3 h4
      subst h4
      exact ⟨h3, h2.symm⟩
    refine ⟨(List.range (l.length * ks.length)).map fun q => vals (q / ks.length) (q % ks.length), _, cap, rfl, ⟨by simp, fun u hu => ?_, fun i j k d hd hk => ?_⟩, fun q u hq => ?_⟩
    · obtain ⟨q, hq, rfl⟩ := List.mem_map.1 hu
      obtain ⟨a1, a2, a3⟩ := key q (by simpa using hq)
      exact (hc _ _ a1 a2).2.2
    · have hi := (List.getElem?_eq_some_iff.1 hd).1
      have hj := (List.getElem?_eq_some_iff.1 hk).1
      have hlt := mul_lt_of hi hj
      have e1 : (i * ks.length + j) / ks.length = i := by
        rw [Nat.mul_comm, Nat.mul_add_div (by omega), Nat.div_eq_of_lt hj]; rfl
      have e2 : (i * ks.length + j) % ks.length = j := by
        rw [Nat.mul_comm, Nat.mul_add_mod, Nat.mod_eq_of_lt hj]
      refine ⟨vals i j, ?_, hs i j d k hd hk, fun E' hE => hr i j d E' hd (hE ▸ hk)⟩
      rw [List.getElem?_map, List.getElem?_range hlt]
      simp [e1, e2]
    · obtain ⟨h1, rfl⟩ := hget q u hq
      obtain ⟨a1, a2, a3⟩ := key q h1
      obtain ⟨c1, c2, c3⟩ := hc _ _ a1 a2
      rw [Nat.add_assoc, a3] at c1 c2
      exact ⟨β, off, rfl, c2, c1⟩
theorem RepL.row {G : Nat → Nat → Prop} {E : TypeId} {l : List Dat} {ks : List CK} {xs : List Value} (h : RepL P G w ks l xs) (hks : kinds P E = some ks) {β off cap : Nat} (hcap : l.length ≤ cap)
    (hc : ∀ (q : Nat) u, xs[q]? = some u → G β (off + q) ∧ w.cell? ⟨β, off + q, none⟩ = some u) : RepRow P G w E l (.slice (some ⟨β, off, none⟩) l.length cap) := by
  refine .mk E l β off cap ks (fun i j => xs.getD (i * ks.length + j) undef) hks hcap (fun i j hi hj => ?_) (fun i j d k hd hk => ?_) (fun i j d E' hd hk => ?_)
  · obtain ⟨u, h1, h2, h3⟩ := h.rep i j ks[j] l[i] (List.getElem?_eq_getElem hi) (List.getElem?_eq_getElem hj)
    rw [List.getD_eq_getElem?_getD, h1]
    obtain ⟨c1, c2⟩ := hc _ u h1
    rw [Nat.add_assoc]
    exact ⟨c1, c2, h.one u (List.mem_of_getElem? h1)⟩
  · obtain ⟨u, h1, h2, h3⟩ := h.rep i j k d hd hk
    rw [List.getD_eq_getElem?_getD, h1]
    exact h2
  · obtain ⟨u, h1, h2, h3⟩ := h.rep i j _ d hd hk
    rw [List.getD_eq_getElem?_getD, h1]
    exact h3 E' rfl
structure Src (P : Program) (G : Nat → Nat → Prop) (w : World) (ks : List CK) (l2 : List Dat) (y : Value) (ys : List Value) : Prop where
  rep : RepL P G w ks l2 ys
  form : (∃ A c, y = .slice A l2.length c) ∨ ∃ str, y = .string str ∧ l2.length = str.size
  first : ∀ w1 : World, w1.heap = w.heap → (Builtin.firstCells ks.length l2.length y).run P w1 = .ok ys.toArray w1
theorem cell_heap {w1 : World} (h : w1.heap = w.heap) (ad : Addr) : w1.cell? ad = w.cell? ad := by simp [World.cell?, h]
theorem RepRow.first {G : Nat → Nat → Prop} {E : TypeId} {l : List Dat} {v : Value} {ks : List CK} (h : RepRow P G w E l v) (hks : kinds P E = some ks) (hp : 0 < ks.length) :
    ∃ xs, RepL P G w ks l xs ∧ (∀ w1 : World, w1.heap = w.heap → (Builtin.firstCells ks.length l.length v).run P w1 = .ok xs.toArray w1) ∧ ∃ A cap, v = .slice A l.length cap ∧ ∀ (q : Nat) u, xs[q]? = some u → ∃ β off, A = some ⟨β, off, none⟩ ∧ w.cell? ⟨β, off + q, none⟩ = some u ∧ G β (off + q) := by
  obtain ⟨xs, A, cap, hv, hL, hc⟩ := h.list hks
  refine ⟨xs, hL, fun w1 hw => ?_, A, cap, hv, hc⟩
  rw [hv]
  cases A with
  | none =>
    have : xs = [] := by
      cases xs with
      | nil => rfl
      | cons x xs => obtain ⟨β, off, e, _⟩ := hc 0 x rfl; cases e
    subst this
    exact run_firstCells_none w1 ks.length l.length l.length cap
  | some ad =>
    refine run_firstCells_some w1 ks.length l.length ad l.length cap xs hL.len (fun j u hj => ?_)
    obtain ⟨β, off, e, h1, _⟩ := hc j u hj
    cases e
    rw [add_lit, cell_heap hw]
    exact h1
theorem RepRow.src {G : Nat → Nat → Prop} {E : TypeId} {l : List Dat} {v : Value} {ks : List CK} (h : RepRow P G w E l v) (hks : kinds P E = some ks) (hp : 0 < ks.length) : ∃ ys, Src P G w ks l v ys := by
  obtain ⟨xs, h1, h2, A, cap, h3, _⟩ := h.first hks hp
  exact ⟨xs, h1, .inl ⟨A, cap, h3⟩, h2⟩
theorem string_src {G : Nat → Nat → Prop} (str : ByteArray) : ∃ ys, Src P G w [.int .u8] (bytesTo str) (.string str) ys := by
  refine ⟨str.data.toList.map fun b => .int .u8 b.toNat, ⟨by simp [bytesTo], fun u hu => ?_, fun i j k d hd hk => ?_⟩, .inr ⟨str, rfl, by simp [bytesTo]⟩, fun w1 hw => ?_⟩
  · obtain ⟨b, _, rfl⟩ := List.mem_map.1 hu
    rfl
  · cases j with
    | succ j => simp at hk
    | zero =>
      simp at hk
      subst hk
      simp only [bytesTo, List.getElem?_map] at hd
      obtain ⟨b, hb, rfl⟩ := Option.map_eq_some_iff.1 hd
      refine ⟨.int .u8 b.toNat, by simp [hb], rfl, fun E' hE => by cases hE⟩
  · have e : (bytesTo str).length = str.data.size := by simp [bytesTo]
    simp only [Builtin.firstCells, Sem.run_pure]
    congr 1
    apply Array.ext'
    have e2 : str.extract 0 (bytesTo str).length = str := by rw [e]; exact ByteArray.extract_zero_size
    rw [e2]
    simp
theorem tok_b {f : Option Nat → Option Nat} {d : Nat} {cs : List AV} (h : (s.tok f).b[d]? = some (some cs)) : ∃ cs0, s.b[d]? = some (some cs0) ∧ cs = cs0.map (AV.tok1 f) := by
  simp only [St.tok, List.getElem?_map] at h
  obtain ⟨o, ho, h1⟩ := Option.map_eq_some_iff.1 h
  obtain ⟨cs1, rfl, rfl⟩ := Option.map_eq_some_iff.1 h1
  exact ⟨cs1, ho, rfl⟩
theorem kill2_b {n m d : Nat} {cs : List AV} (h : ((s.kill n).kill m).b[d]? = some (some cs)) : ∃ cs0, s.b[d]? = some (some cs0) := by
  obtain ⟨c1, h1, _⟩ := tok_b h
  obtain ⟨c2, h2, _⟩ := tok_b h1
  exact ⟨c2, h2⟩
theorem append_sound (h : Inv P F g s a w) {Ts : Array TypeId} {ty : TypeId} {n d : Nat} {E : TypeId} {l l2 : List Dat} {vx vy : Value} {ks : List CK} (hok : appOk P Ts E = true) (hks : kinds P E = some ks)
    (hx : RepS P g w (.row (some n) E l) vx) {ys : List Value} (hy : Src P g.G w ks l2 vy ys) (hlen : l.length + l2.length ≤ fitsN) (hd : d < s.t.length) :
    ∃ g' v' w', (Builtin.append_ Ts ty #[vx, vy]).run P w = .ok v' w' ∧ Inv P F g' (((s.kill n).kill d).put (some d) (.row (some d) E (l ++ l2))) (a.put (some d) v') w' := by
  unfold appOk at hok
  split at hok
  case h_2 => cases hok
  rename_i T U hT hU
  simp only [Bool.and_eq_true] at hok
  obtain ⟨⟨o1, o2⟩, o3⟩ := hok
  have ht := elemT_eq (T := T) (E := E) (P := P) (by simpa using o1)
  obtain ⟨du, hu, hdu⟩ : ∃ du, P.underlying U = some du ∧ ((∃ e', du = .slice e') ∨ du = .string) := by
    split at o2
    · rename_i e' e; exact ⟨_, e, .inl ⟨e', rfl⟩⟩
    · rename_i e; exact ⟨_, e, .inr rfl⟩
    · cases o2
  rw [hks] at o3
  split at o3
  case h_2 => cases o3
  rename_i ks' i hkk hi
  cases hkk
  simp only [Bool.and_eq_true] at o3
  obtain ⟨⟨⟨p1, p2⟩, p3⟩, p4⟩ := o3
  have p1 : i.size = ks.length := by simpa using p1
  have p2 : 0 < ks.length := Nat.le_of_ble_eq_true p2
  have p3 := Nat.le_of_ble_eq_true p3
  obtain ⟨z, hz, hzs⟩ : ∃ z, i.zero = some z ∧ z.cells.size = ks.length := by
    cases hzz : i.zero with
    | none => rw [hzz] at p4; cases p4
    | some z => rw [hzz] at p4; exact ⟨z, rfl, Nat.eq_of_beq_eq_true p4⟩
  obtain ⟨hrow, htk⟩ := (show RepC P g w (.row (some n) E l) vx from hx)
  have htn := htk n rfl
  obtain ⟨xs, hL, hfx, A, cap, hvx, hcx⟩ := hrow.first hks p2
  have hF : fitsN = 1099511627776 := rfl
  -- tokens n and d go
  have hk1 := h.kills (killF_kills n)
  have hk2 := hk1.kills (killF_kills d)
  generalize hg2 : (g.kills (killF n)).kills (killF d) = g2 at hk2
  have hG2 : g2.G = g.G := by subst hg2; rfl
  have hb2 : g2.bx = g.bx := by subst hg2; rfl
  have hd2 : g2.tk d = none := by subst hg2; exact kills_tk (killF_kills d) (killF_self d)
  have hn2 : g2.tk n = none := by subst hg2; exact kills_none (kills_tk (killF_kills n) (killF_self n))
  have hsub : ∀ m v', g2.tk m = some v' → g.tk m = some v' ∧ m ≠ n := fun m v' hm => by
    refine ⟨?_, fun e => by subst e; rw [hn2] at hm; cases hm⟩
    subst hg2
    have hm' : (match killF d (some m) with | some _ => (match killF n (some m) with | some _ => g.tk m | none => none) | none => none) = some v' := hm
    split at hm'
    · split at hm'
      · exact hm'
      · cases hm'
    · cases hm'
  have hap : ∀ β, vx.ownBlock = some β → ∀ m v' E', g2.tk m = some (v', E') → v'.ownBlock ≠ some β := fun β hβ m v' E' hm hv' => by
    obtain ⟨h1, h2⟩ := hsub m _ hm
    exact h2 (h.mem.tkap m n v' vx E' E β h1 htn hv' hβ)
  have hform : ∀ {m : Nat}, m = l2.length → (∃ A c, vy = .slice A m c) ∨ ∃ str, vy = .string str ∧ m = str.size := fun e => by subst e; exact hy.form
  have hfirst : ∀ w1 : World, w1.heap = w.heap → (Builtin.firstCells i.size l2.length vy).run P w1 = .ok ys.toArray w1 := by rw [p1]; exact hy.first
  by_cases hroom : l.length + l2.length ≤ cap
  · rcases h.mem.own n vx E htn with e | ⟨β, n0, cap0, us, ks0, fz, e1, e2, e3, e4, e5, e6, e7, e8⟩
    · -- nil, nothing appended
      rw [hvx] at e
      injection e with ea el ec
      subst ea ec
      have hl0 : l = [] := List.eq_nil_of_length_eq_zero el
      have hm0 : l2.length = 0 := by omega
      have hl2 : l2 = [] := List.eq_nil_of_length_eq_zero hm0
      subst hl0 hl2
      rw [hvx]
      exact ⟨_, _, w, run_app_nil hT hU ht hu hdu hi (hform rfl) hfirst rfl, (hk2.nils (N := one1 d E) (fun m hm => by
        unfold one1 at hm
        by_cases e : m = d
        · rw [e]; exact hd2
        · rw [if_neg e] at hm; exact absurd rfl hm)).put (some d) (x := .row (some d) E []) ⟨.nil _ _ _, fun m hm => by
          cases hm
          show (match one1 d E d with | some E => some (Value.slice none 0 0, E) | none => _) = _
          simp [one1]⟩⟩
    · -- room
      rw [hks] at e3
      cases e3
      rw [hvx] at e1
      injection e1 with ea el ec
      subst ea el ec
      have hvb : vx.ownBlock = some β := by rw [hvx]; rfl
      have hyl : ys.length = l2.length * ks.length := hy.rep.len
      have hfit : l.length * ks.length + ys.length ≤ us.size := by
        rw [e6, hyl, ← Nat.add_mul]; exact Nat.mul_le_mul_right _ hroom
      have hrun := run_app_room (P := P) (w := w) (ty := ty) hT hU ht hu hdu hi (hform rfl) hfirst (n := l.length) (cap := cap) e2 e8 (by rw [p1]; exact hyl) hy.rep.one hroom (by rw [p1]; exact hfit)
      rw [p1] at hrun
      generalize hus' : (us.toList.take (l.length * ks.length) ++ ys ++ us.toList.drop (l.length * ks.length + ys.length)).toArray = us' at hrun
      have hget : ∀ j : Nat, us'[j]? = if l.length * ks.length ≤ j ∧ j < l.length * ks.length + ys.length then ys[j - l.length * ks.length]? else us[j]? := fun j => by
        rw [← hus', List.getElem?_toArray, List.append_assoc, splice_get _ _ (l.length * ks.length) ys.length rfl (by simpa using hfit)]
        simp
      have hsz : us'.size = us.size := by rw [← hus']; simp; omega
      have hw := Wr.setRow (us' := us') e2
      have hGlt : ∀ j, g.G β j → j < l.length * ks.length := fun j hj => Nat.lt_of_not_le fun hle => e7 j hle hj
      have hTB : β < F.w0.heap.size → F.TB β := fun hlt => (h.tb n vx E β htn hvb).resolve_left (by omega)
      have ht2 := hk2.touch (K := (l.length + l2.length) * ks.length) e2 hw hsz (fun j hj => by rw [hget, if_neg (by have := hGlt j (hG2 ▸ hj); omega)]) (fun m v' E' hm => hap β hvb m v' E' hm) (fun e cs he hβ => by
        obtain ⟨cs0, h0⟩ := kill2_b he
        exact h.mem.tkbx n vx E β e cs0 htn hvb h0 (hb2 ▸ hβ)) hTB
      have hcell : ∀ (q : Nat) u, (xs ++ ys)[q]? = some u → q < (l.length + l2.length) * ks.length ∧ us'[q]? = some u := fun q u hq => by
        have hq' := (List.getElem?_eq_some_iff.1 hq).1
        rw [List.length_append, hL.len, hyl] at hq'
        refine ⟨by rw [Nat.add_mul]; exact hq', ?_⟩
        rw [hget]
        by_cases hlt : q < l.length * ks.length
        · rw [if_neg (by omega)]
          rw [List.getElem?_append_left (by rw [hL.len]; exact hlt)] at hq
          obtain ⟨β', off', ea, ec, _⟩ := hcx q u hq
          cases ea
          simpa [World.cell?, e2] using ec
        · rw [if_pos (by omega)]
          rw [List.getElem?_append_right (by rw [hL.len]; omega), hL.len] at hq
          exact hq
      have hGm : ∀ b j, g.G b j → (g2.more β ((l.length + l2.length) * ks.length)).G b j ∧ (w.setRow β us').cell? ⟨b, j, none⟩ = w.cell? ⟨b, j, none⟩ := fun b j hj => by
        refine ⟨.inl (hG2 ▸ hj), ?_⟩
        by_cases e : b = β
        · subst e
          have := hGlt j hj
          have hg1 := hget j
          rw [if_neg (by omega)] at hg1
          simp [World.cell?, e2, hw.new, hg1]
        · exact World.cell?_of_block (a := ⟨b, j, none⟩) (hw.other b e)
      have hOwn : Own P (g2.more β ((l.length + l2.length) * ks.length)) (w.setRow β us') (.slice (some ⟨β, 0, none⟩) (l.length + l2.length) cap) E := by
        refine .inr ⟨β, _, cap, us', ks, fz, rfl, hw.new, hks, hroom, e5, by rw [hsz, e6], fun j hj hg => ?_, by rw [hsz]; exact e8⟩
        rcases hg with hg | ⟨_, hg⟩
        · have := hGlt j (hG2 ▸ hg)
          rw [Nat.add_mul] at hj
          omega
        · omega
      have hI := ht2.addTok (n := d) (v := .slice (some ⟨β, 0, none⟩) (l.length + l2.length) cap) (E := E) hd2 hOwn (fun m v' E' b hm hv' hb => by
        cases hb
        exact hap β hvb m v' E' hm hv') (fun e cs b he hb hvb' => by
        cases hvb'
        obtain ⟨cs0, h0⟩ := kill2_b he
        exact h.mem.tkbx n vx E β e cs0 htn hvb h0 (hb2 ▸ hb)) (fun b hb => by
        cases hb
        exact h.tb n vx E β htn hvb)
      rw [hvx]
      refine ⟨_, _, _, hrun, hI.put (some d) (x := .row (some d) E (l ++ l2)) ⟨?_, fun m hm => ?_⟩⟩
      · have := RepL.row (G := ((g2.more β ((l.length + l2.length) * ks.length)).tok d (.slice (some ⟨β, 0, none⟩) (l.length + l2.length) cap) E).G) (w := w.setRow β us') (β := β) (off := 0) (cap := cap) ((hL.append hy.rep).mono hGm) hks (by simpa using hroom) (fun q u hq => by
          obtain ⟨c1, c2⟩ := hcell q u hq
          exact ⟨.inr ⟨rfl, by omega⟩, by simp [World.cell?, hw.new, c2]⟩)
        rw [List.length_append] at this
        exact this
      · cases hm
        show (if d = d then _ else _) = _
        rw [if_pos rfl]
  · -- a new block
    have hyl : ys.length = l2.length * ks.length := hy.rep.len
    have hfo : ∀ w1 : World, w1.heap = w.heap → (Builtin.firstCells i.size l.length (.slice A l.length cap)).run P w1 = .ok xs.toArray w1 := by rw [p1, ← hvx]; exact hfx
    have h63 : ((l.length + l2.length : Nat) : Int) ≤ 9223372036854775807 := by omega
    have hfit : Builtin.nextslicecap (l.length + l2.length) cap * i.bytes ≤ 281474976710656 := by
      refine growslice_fits (by omega) ?_
      have : (l.length + l2.length) * i.bytes ≤ 1099511627776 * 128 := Nat.mul_le_mul (by omega) p3
      omega
    have hrun := run_app_grow (P := P) (w := w) (ty := ty) hT hU ht hu hdu hi hz (hform rfl) hfirst (A0 := A) (n := l.length) (cap := cap) hfo (by omega) h63 hfit
    generalize hC : grownCap w (l.length + l2.length) cap E = C at hrun
    have hC1 : l.length + l2.length ≤ C := hC ▸ grownCap_ge _ _ _ _
    have hC2 : C ≤ maxLen := hC ▸ grownCap_le_maxLen _ _ _ _ (by unfold maxLen; omega)
    generalize hus' : xs.toArray ++ ys.toArray ++ Builtin.zeroCells z.cells (C - (l.length + l2.length)) = us' at hrun
    have hsz : us'.size = C * ks.length := by
      rw [← hus']
      simp only [Array.size_append, List.size_toArray, hL.len, hyl, size_zeroCells, hzs, ← Nat.add_mul]
      congr 1
      omega
    have hget : ∀ (q : Nat) u, (xs ++ ys)[q]? = some u → q < (l.length + l2.length) * ks.length ∧ us'[q]? = some u := fun q u hq => by
      have hq' := (List.getElem?_eq_some_iff.1 hq).1
      refine ⟨by rw [List.length_append, hL.len, hyl] at hq'; rw [Nat.add_mul]; exact hq', ?_⟩
      rw [← hus', Array.getElem?_append_left (by simpa using hq')]
      simpa using hq
    have hw := Push.drew w (.cells us' E (0, 0))
    have hf := hk2.fresh hw ((l.length + l2.length) * ks.length)
    have hnew := hw.new
    have hOwn : Own P (g2.more w.heap.size ((l.length + l2.length) * ks.length)) (w.drew.alloc (.cells us' E (0, 0))) (.slice (some ⟨w.heap.size, 0, none⟩) (l.length + l2.length) C) E := by
      refine .inr ⟨w.heap.size, _, C, us', ks, (0, 0), rfl, hnew, hks, hC1, hC2, hsz, fun j hj hg => ?_, fzOk0 _⟩
      rcases hg with hg | ⟨_, hg⟩
      · have := h.mem.gsz _ _ (hG2 ▸ hg : g.G w.heap.size j); omega
      · omega
    have hI := hf.addTok (n := d) (v := .slice (some ⟨w.heap.size, 0, none⟩) (l.length + l2.length) C) (E := E) hd2 hOwn (fun m v' E' b hm hv' hb => by
      cases hb
      exact Nat.lt_irrefl _ ((h.mem.own m v' E' (hsub m _ hm).1).lt hv')) (fun e cs b he hb hvb' => by
      cases hvb'
      obtain ⟨cs0, h0⟩ := kill2_b he
      obtain ⟨β', us0, T0, b1, b2, _⟩ := h.mem.box e cs0 h0
      have hb' : g.bx e = some w.heap.size := hb2 ▸ hb
      rw [hb'] at b1
      cases b1
      have := (Array.getElem?_eq_some_iff.1 b2).1
      omega) (fun b hb => by
      cases hb
      exact .inl h.fr.size)
    rw [hvx]
    refine ⟨_, _, _, hrun, hI.put (some d) (x := .row (some d) E (l ++ l2)) ⟨?_, fun m hm => ?_⟩⟩
    · have hGm : ∀ b j, g.G b j → (g2.more w.heap.size ((l.length + l2.length) * ks.length)).G b j ∧ (w.drew.alloc (.cells us' E (0, 0))).cell? ⟨b, j, none⟩ = w.cell? ⟨b, j, none⟩ := fun b j hj =>
        ⟨.inl (hG2 ▸ hj), hw.cell (h.mem.gsz b j hj)⟩
      have := RepL.row (G := ((g2.more w.heap.size ((l.length + l2.length) * ks.length)).tok d (.slice (some ⟨w.heap.size, 0, none⟩) (l.length + l2.length) C) E).G) (w := w.drew.alloc (.cells us' E (0, 0))) (β := w.heap.size) (off := 0) (cap := C) ((hL.append hy.rep).mono hGm) hks (by simpa using hC1) (fun q u hq => by
        obtain ⟨c1, c2⟩ := hget q u hq
        exact ⟨.inr ⟨rfl, by omega⟩, by unfold World.cell?; dsimp only; rw [hnew]; simpa using c2⟩)
      rw [List.length_append] at this
      exact this
    · cases hm
      show (if d = d then _ else _) = _
      rw [if_pos rfl]
end
end Go.Proofs.YtckdgcpomkefpaaDoor.En
end
section
set_option linter.unusedVariables false
set_option linter.unusedSimpArgs false
namespace Go.Proofs.YtckdgcpomkefpaaDoor.En
open Go
section
variable {P : Program} {F : Fx} {g : Gh} {s : St} {a : Act} {w : World}
theorem packC_flat {k : CK} {c : AV} {d : Dat} (h : packC k c = some d) (j : Nat) : d.at j = d := by
  cases k <;> cases c <;> simp only [packC] at h <;> first | cases h; done | skip
  all_goals (try (split at h <;> first | cases h; done | skip))
  all_goals (try (rename_i x; cases x <;> simp only [packC] at h <;> first | cases h; done | skip))
  all_goals (try (split at h <;> first | cases h; done | skip))
  all_goals first | (cases h; rfl) | skip
theorem packC_rep {k : CK} {c : AV} {d : Dat} {u : Value} (h : packC k c = some d) (hr : RepC P g w c u) : scal k d u ∧ ∀ E', k = .row E' → RepRow P g.G w E' d.toL u := by
  unfold packC at h
  split at h
  · split at h
    · rename_i e; subst e; cases h; obtain ⟨rfl, _⟩ := hr; exact ⟨rfl, fun E' e => by cases e⟩
    · cases h
  · cases h; obtain ⟨rfl, _⟩ := hr; exact ⟨rfl, fun E' e => by cases e⟩
  · cases h; obtain ⟨rfl, _⟩ := hr; exact ⟨rfl, fun E' e => by cases e⟩
  · split at h
    · rename_i e; subst e; cases h; exact ⟨trivial, fun E' e => by cases e; exact hr.1⟩
    · cases h
  · cases h; obtain ⟨rfl, _⟩ := hr; exact ⟨trivial, fun E' e => .nil _ _ _⟩
  · cases h
theorem packL_get : ∀ (ks : List CK) (cs : List AV) (l : List Dat), packL ks cs = some l → cs.length = ks.length ∧ l.length = ks.length ∧ ∀ (j : Nat) k c, ks[j]? = some k → cs[j]? = some c → ∃ d, l[j]? = some d ∧ packC k c = some d
  | [], [], l, h => by cases h; exact ⟨rfl, rfl, fun j k c h => by simp at h⟩
  | k :: ks, c :: cs, l, h => by
    simp only [packL] at h
    obtain ⟨d, h1, h⟩ := Option.bind_eq_some_iff.1 h
    obtain ⟨l', h2, h⟩ := Option.bind_eq_some_iff.1 h
    cases h
    obtain ⟨e1, e2, e3⟩ := packL_get ks cs l' h2
    refine ⟨by simp [e1], by simp [e2], fun j k' c' hk hc => ?_⟩
    cases j with
    | zero => simp at hk hc; subst hk hc; exact ⟨d, rfl, h1⟩
    | succ j => simpa using e3 j k' c' (by simpa using hk) (by simpa using hc)
  | [], _ :: _, l, h => by cases h
  | _ :: _, [], l, h => by cases h
theorem pack_get {ks : List CK} {X : AV} {d : Dat} (h : pack ks X = some d) : X.cells.length = ks.length ∧ ∀ (j : Nat) k c, ks[j]? = some k → X.cells[j]? = some c → packC k c = some (d.at j) := by
  by_cases ha : ∃ cs, X = .agg cs
  · obtain ⟨cs, rfl⟩ := ha
    simp only [pack] at h
    obtain ⟨l, h1, h⟩ := Option.bind_eq_some_iff.1 h
    cases h
    obtain ⟨e1, e2, e3⟩ := packL_get ks cs l h1
    refine ⟨e1, fun j k c hk hc => ?_⟩
    obtain ⟨d, h2, h3⟩ := e3 j k c hk hc
    rw [h3]
    simp [Dat.at, List.getD_eq_getElem?_getD, h2]
  · have hc : X.cells = [X] := by cases X <;> first | rfl | exact absurd ⟨_, rfl⟩ ha
    unfold pack at h
    split at h
    · exact absurd ⟨_, rfl⟩ ha
    · split at h
      · rename_i k
        rw [hc]
        refine ⟨rfl, fun j k' c hk hcc => ?_⟩
        cases j with
        | succ j => simp at hk
        | zero => simp at hk hcc; subst hk hcc; rw [packC_flat h]; exact h
      · cases h
theorem parts_sound {ks : List CK} : ∀ (ps : List (Nat × AV)) (vs : List (Nat × Value)) (n : Nat) (l : List Dat) (us : Array Value),
    partsF ks ps n = some l → (∀ p ∈ ps, p.2.cells.all AV.one = true) → ps.length = vs.length → (∀ (i : Nat) m x, ps[i]? = some (m, x) → ∃ v, vs[i]? = some (m, v) ∧ RepS P g w x v) → (n + l.length) * ks.length ≤ us.size →
    l.length = ps.length ∧ ∃ us', Instr.fill (fun i => some (i * ks.length, ks.length)) us vs = some us' ∧ us'.size = us.size ∧ (∀ q, q < n * ks.length → us'[q]? = us[q]?) ∧
      ∀ (i j : Nat) k d, l[i]? = some d → ks[j]? = some k → ∃ u, us'[(n + i) * ks.length + j]? = some u ∧ u.oneCell' = true ∧ scal k (d.at j) u ∧ ∀ E', k = .row E' → RepRow P g.G w E' (d.at j).toL u
  | [], vs, n, l, us, h, ho, hl, hp, hs => by
    cases h
    have : vs = [] := List.eq_nil_of_length_eq_zero (by simpa using hl.symm)
    subst this
    exact ⟨rfl, us, rfl, rfl, fun _ _ => rfl, fun i j k d h => by simp at h⟩
  | (i, x) :: ps, vs, n, l, us, h, ho, hl, hp, hs => by
    simp only [partsF] at h
    cases hin : (i == n) <;> rw [hin] at h
    · cases h
    simp only [cond_true] at h
    have hin : i = n := by simpa using hin
    subst hin
    obtain ⟨d, h1, h⟩ := Option.bind_eq_some_iff.1 h
    obtain ⟨l', h2, h⟩ := Option.bind_eq_some_iff.1 h
    cases h
    cases vs with
    | nil => simp at hl
    | cons v0 vs =>
    obtain ⟨v, hv, hx⟩ := hp 0 i x rfl
    simp at hv
    subst hv
    obtain ⟨p1, p2⟩ := pack_get h1
    obtain ⟨c1, c2⟩ := cells_rep hx (ho (i, x) (by simp))
    have hsz : v.cells.size = ks.length := by rw [c1, p1]
    have hle : i * ks.length + ks.length ≤ us.size := by
      refine Nat.le_trans ?_ hs
      rw [← Nat.succ_mul]
      exact Nat.mul_le_mul_right _ (by simp)
    have hz : ∀ off, v.cells.zipIdx.foldl (fun cs (c, j) => cs.setIfInBounds (off + j) c) us = (v.cells.toList.zipIdx 0).foldl (fun cs (c, j) => cs.setIfInBounds (off + j) c) us := fun off => by
      rw [← Array.foldl_toList, Array.toList_zipIdx]
    have hfs := foldl_set v.cells.toList 0 (i * ks.length) us (by simp [hsz]; omega)
    obtain ⟨e0, us', e1, e2, e3, e4⟩ := parts_sound ps vs (i + 1) l' (v.cells.zipIdx.foldl (fun cs (c, j) => cs.setIfInBounds (i * ks.length + j) c) us) h2 (fun p hp => ho p (by simp [hp])) (by simpa using hl) (fun q m y hq => by simpa using hp (q + 1) m y (by simpa using hq)) (by
      rw [hz, size_foldl_set]
      have : i + 1 + l'.length = i + (d :: l').length := by simp; omega
      rw [this]; exact hs)
    refine ⟨by simp [e0], us', ?_, by rw [e2, hz, size_foldl_set], fun q hq => ?_, fun q j k d' hd hk => ?_⟩
    · simp only [Instr.fill]
      rw [if_neg (by simp [hsz]; omega)]
      exact e1
    · rw [e3 q (Nat.lt_of_lt_of_le hq (Nat.mul_le_mul_right _ (by omega))), hz, hfs q, if_neg (by omega)]
    · have hj := (List.getElem?_eq_some_iff.1 hk).1
      cases q with
      | succ q =>
        have := e4 q j k d' (by simpa using hd) hk
        rw [show i + 1 + q = i + (q + 1) by omega] at this
        exact this
      | zero =>
        simp at hd
        subst hd
        obtain ⟨u, hu, hr⟩ := c2 j (x.cells[j]'(by omega)) (List.getElem?_eq_getElem (by omega))
        refine ⟨u, ?_, hr.one, packC_rep (p2 j k _ hk (List.getElem?_eq_getElem (by omega))) hr⟩
        rw [Nat.add_zero, e3 _ (by rw [Nat.add_mul]; omega), hz, hfs, if_pos (by simp [hsz]; omega)]
        simpa using hu
theorem bslice_sound (h : Inv P F g s a w) {T E : TypeId} {n d : Nat} {ps : Array (Nat × Operand)} {ks : List CK} {l : List Dat} (hE : elemT P T = some E) (hks : kinds P E = some ks) (hl : partsF ks (ps.toList.map fun (i, x) => (i, s.ev x)) 0 = some l) (hn : l.length = n)
    (hz : szT P E = some ks.length) (hzc : (zeroCells P E).isSome = true) (hbig : n * ks.length ≤ 16777216) (hp0 : 0 < ks.length) (hone : ps.toList.all (fun p => (s.ev p.2).cells.all AV.one) = true) (hd : d < s.t.length)
    (hk : ∀ i x, (i, x) ∈ ps.toList → RepS P g w (s.ev x) (a.eval x)) :
    ∃ v w', (Instr.buildSlice T n (ps.map fun (i, x) => (i, a.eval x))).run P w = .ok v w' ∧ (∃ g', Inv P F g' ((s.kill d).put (some d) (.row (some d) E l)) (a.put (some d) v) w') ∧
      ∃ g', Inv P F g' (s.put (some d) (.row none E l)) (a.put (some d) v) w' := by
  have hE' := elemT_eq hE
  obtain ⟨z, hz'⟩ := Option.isSome_iff_exists.1 hzc
  obtain ⟨zv, hzr, hzs, hz1⟩ := zero_rep (P := P) (w := w) hz'
  obtain ⟨m, hm, hms⟩ := runs_sizeOf (P := P) (w := w) hz
  subst hms
  have hk1 := h.kills (killF_kills d)
  have hd0 : (g.kills (killF d)).tk d = none := kills_tk (killF_kills d) (killF_self d)
  -- the cells, zero at first
  obtain ⟨z0, hz0⟩ : ∃ z0 : Array Value, z0 = if n * ks.length = 0 then #[] else zv.cells := ⟨_, rfl⟩
  obtain ⟨p0, us', p1, p2, p3, p4⟩ := parts_sound (g := g) (w := w) (ps.toList.map fun (i, x) => (i, s.ev x)) (ps.map fun (i, x) => (i, a.eval x)).toList 0 l ((Array.range (n * ks.length)).map (z0[· % z0.size]!)) hl (fun p hp => by
    obtain ⟨⟨qi, qx⟩, hq, rfl⟩ := List.mem_map.1 hp
    exact List.all_eq_true.1 hone (qi, qx) hq) (by simp) (fun i m x hi => by
    rw [List.getElem?_map] at hi
    obtain ⟨⟨q, y⟩, hq, he⟩ := Option.map_eq_some_iff.1 hi
    cases he
    exact ⟨a.eval y, by simp at hq ⊢; exact ⟨_, _, hq, rfl, rfl⟩, hk _ y (List.mem_of_getElem? hq)⟩) (by simp [hn])
  have hsz : us'.size = n * ks.length := by rw [p2]; simp
  have hL : RepL P g.G w ks l us'.toList := by
    refine ⟨by simp [hsz, hn], fun u hu => ?_, fun i j k dd hdd hkk => ?_⟩
    · obtain ⟨q, hq, rfl⟩ := List.mem_iff_getElem.1 hu
      have hq' : q < n * ks.length := by rw [← hsz]; simpa using hq
      have a1 : q / ks.length < l.length := by rw [hn]; exact (Nat.div_lt_iff_lt_mul hp0).2 hq'
      have a2 := Nat.mod_lt q hp0
      have a3 : q / ks.length * ks.length + q % ks.length = q := by rw [Nat.mul_comm]; exact Nat.div_add_mod q ks.length
      obtain ⟨u, h1, h2, _⟩ := p4 _ _ _ _ (List.getElem?_eq_getElem a1) (List.getElem?_eq_getElem a2)
      rw [Nat.zero_add, a3] at h1
      have : us'[q]? = some us'.toList[q] := by rw [← Array.getElem?_toList]; exact List.getElem?_eq_getElem hq
      rw [this] at h1
      cases h1
      exact h2
    · obtain ⟨u, h1, h2, h3, h4⟩ := p4 i j k dd hdd hkk
      rw [Nat.zero_add] at h1
      exact ⟨u, by simpa using h1, h3, h4⟩
  have hw := Push.alloc w (.cells us' E (0, 0))
  have hf := hk1.fresh hw (n * ks.length)
  have hnew := hw.new
  have hcell : ∀ (q : Nat) u, us'.toList[q]? = some u → q < n * ks.length ∧ (w.alloc (.cells us' E (0, 0))).cell? ⟨w.heap.size, 0 + q, none⟩ = some u := fun q u hq => by
    have hq' := (List.getElem?_eq_some_iff.1 hq).1
    refine ⟨by rw [← hsz]; simpa using hq', ?_⟩
    unfold World.cell?
    dsimp only
    rw [hnew]
    simpa using hq
  have hrun : (Instr.buildSlice T n (ps.map fun (i, x) => (i, a.eval x))).run P w = .ok (.slice (some ⟨w.heap.size, 0, none⟩) n n) (w.alloc (.cells us' E (0, 0))) := by
    have hb : ¬ (n * ks.length > 2 ^ 24) := by omega
    simp only [Instr.buildSlice, Sem.run_bind, run_underlying hE', Result.andThen_ok, hm, if_neg hb]
    by_cases e : n * ks.length = 0
    · rw [if_pos e] at hz0 ⊢
      subst hz0
      simp only [Sem.run_bind, Sem.run_pure, Result.andThen_ok]
      rw [p1]
      simp [newRow]
    · rw [if_neg e] at hz0 ⊢
      subst hz0
      simp only [Sem.run_bind, hzr, Result.andThen_ok, Sem.run_pure]
      rw [p1]
      simp [newRow]
  have hOwn : Own P ((g.kills (killF d)).more w.heap.size (n * ks.length)) (w.alloc (.cells us' E (0, 0))) (.slice (some ⟨w.heap.size, 0, none⟩) n n) E := by
    refine .inr ⟨w.heap.size, n, n, us', ks, (0, 0), rfl, hnew, hks, Nat.le_refl _, ?_, hsz, fun j hj hg => ?_, fzOk0 _⟩
    · have : n ≤ n * ks.length := Nat.le_mul_of_pos_right _ hp0
      unfold maxLen; omega
    · rcases hg with hg | ⟨_, hg⟩
      · have := h.mem.gsz _ _ hg; omega
      · omega
  have hI := hf.addTok (n := d) (v := .slice (some ⟨w.heap.size, 0, none⟩) n n) (E := E) hd0 hOwn (fun m v' E' b hm hv' hb => by
    cases hb
    exact Nat.lt_irrefl _ ((hk1.mem.own m v' E' hm).lt hv')) (fun e cs b he hb hvb' => by
    cases hvb'
    obtain ⟨β', us0, T0, b1, b2, _⟩ := hk1.mem.box e cs he
    have hb' : (g.kills (killF d)).bx e = some w.heap.size := hb
    rw [hb'] at b1
    cases b1
    exact Nat.lt_irrefl _ (Array.getElem?_eq_some_iff.1 b2).1) (fun b hb => by
    cases hb
    exact .inl h.fr.size)
  have hGm : ∀ b j, g.G b j → ((g.kills (killF d)).more w.heap.size (n * ks.length)).G b j ∧ (w.alloc (.cells us' E (0, 0))).cell? ⟨b, j, none⟩ = w.cell? ⟨b, j, none⟩ := fun b j hj =>
    ⟨.inl hj, hw.cell (h.mem.gsz b j hj)⟩
  have hrow := RepL.row (G := (((g.kills (killF d)).more w.heap.size (n * ks.length)).tok d (.slice (some ⟨w.heap.size, 0, none⟩) n n) E).G) (w := w.alloc (.cells us' E (0, 0))) (β := w.heap.size) (off := 0) (cap := n) (hL.mono hGm) hks (by omega) (fun q u hq => by
    obtain ⟨c1, c2⟩ := hcell q u hq
    exact ⟨.inr ⟨rfl, by omega⟩, c2⟩)
  rw [hn] at hrow
  refine ⟨_, _, hrun, ⟨_, hI.put (some d) (x := .row (some d) E l) ⟨hrow, fun m hm => ?_⟩⟩, ⟨_, (h.fresh hw (n * ks.length)).put (some d) (x := .row none E l) ⟨hrow, fun m hm => by cases hm⟩⟩⟩
  cases hm
  show (if d = d then _ else _) = _
  rw [if_pos rfl]
theorem run_s2b {src dst E : TypeId} (str : ByteArray) (h1 : P.underlying src = some .string) (h2 : P.underlying dst = some (.slice E)) (h3 : P.underlying E = some (.int .u8)) (hb : str.size ≤ fitsN) :
    ∃ (w1 : World) (us : Array Value) (cap : Nat), (convert src dst (.string str)).run P w = .ok (.slice (some ⟨w.heap.size, 0, none⟩) str.size cap) w1 ∧ Push w w1 (.cells us E (us.size, us.size + 1)) ∧ str.size ≤ cap ∧ us.size = cap ∧ cap ≤ maxLen ∧
      ∀ (q : Nat) b, str.data[q]? = some b → us[q]? = some (.int .u8 b.toNat) := by
  obtain ⟨cap, hcap⟩ : ∃ cap, cap = grownCap w str.size 0 E := ⟨_, rfl⟩
  have hge : str.size ≤ cap := hcap ▸ grownCap_ge _ _ _ _
  obtain ⟨us, hus⟩ : ∃ us : Array Value, us = str.data.map (fun b => Value.int .u8 b.toNat) ++ Array.replicate (cap - str.size) (.int .u8 0) := ⟨_, rfl⟩
  have hw := Push.drew w (.cells us E (0, 0))
  have hsh : (w.drew.alloc (.cells us E (0, 0))).shape? w.heap.size = some (E, us.size) := by
    unfold World.shape?; rw [hw.new]
  refine ⟨(w.drew.alloc (.cells us E (0, 0))).freeze ⟨w.heap.size, us.size, none⟩ 1, us, cap, ?_, ?_, hge, by rw [hus]; simp; omega, hcap ▸ grownCap_le_maxLen _ _ _ _ (by unfold maxLen; unfold fitsN at hb; omega), fun q b hq => ?_⟩
  · simp only [convert, Sem.run_bind, run_underlying h1, run_underlying h2, run_underlying h3, Result.andThen_ok, Conv.stringToBytes]
    have hc : (choose (.appendCap str.size 0 E)).run P w = .ok cap w.drew := by
      simp only [choose, Sem.run, Question.forced, Bool.false_eq_true, if_false]
      rw [show (Question.appendCap str.size 0 E).cut (w.tape w.drawn (Question.appendCap str.size 0 E)) = cap from hcap.symm]
      rfl
    simp only [hc, Result.andThen_ok, newRow, Sem.run_bind]
    rw [← hus]
    have hn : (newObj (.cells us E (0, 0))).run P w.drew = .ok w.heap.size (w.drew.alloc (.cells us E (0, 0))) := rfl
    simp only [hn, Result.andThen_ok, Sem.run_pure, markStringish, Sem.run_bind]
    have hs2 : (shape w.heap.size).run P (w.drew.alloc (.cells us E (0, 0))) = .ok (some (E, us.size)) (w.drew.alloc (.cells us E (0, 0))) := by
      show Result.ok ((w.drew.alloc (.cells us E (0, 0))).shape? w.heap.size) _ = _
      rw [hsh]
    simp only [hs2, Result.andThen_ok]
    rfl
  · refine ⟨?_, rfl, rfl, rfl⟩
    apply Array.ext_getElem?
    intro i
    show ((if (1 : Nat) = 0 then _ else _ : World)).heap[i]? = _
    rw [if_neg (by decide)]
    simp only [Array.getElem?_modify, Array.getElem?_push]
    have hh : (w.drew.alloc (.cells us E (0, 0))).heap = w.heap.push (.cells us E (0, 0)) := rfl
    rw [hh, Array.getElem?_push]
    by_cases e : w.heap.size = i
    · subst e
      simp
    · rw [if_neg e, if_neg (fun h => e h.symm), if_neg (fun h => e h.symm)]
  · have hlt := (Array.getElem?_eq_some_iff.1 hq).1
    rw [hus, Array.getElem?_append_left (by simpa using hlt), Array.getElem?_map, hq]
    rfl
theorem Inv.mark (h : Inv P F g s a w) {n : Nat} {v : Value} {E : TypeId} (ht : g.tk n = some (v, E)) {β : Nat} {us : Array Value} {T0 : TypeId} {fz fz' : Nat × Nat} (hv : v.ownBlock = some β) (h0 : w.heap[β]? = some (.cells us T0 fz)) {w1 : World} (hw : Wr w w1 β us T0 fz') (hz : fzOk fz' us.size) : Inv P F g s a w1 := by
  have hcell : ∀ b j, w1.cell? ⟨b, j, none⟩ = w.cell? ⟨b, j, none⟩ := fun b j => by
    by_cases e : b = β
    · subst e; simp [World.cell?, h0, hw.new]
    · exact World.cell?_of_block (a := ⟨b, j, none⟩) (hw.other b e)
  have hle : g.Le g w w1 := ⟨fun b j hj => ⟨hj, hcell b j⟩, fun m v hm => hm, fun d b hd => hd⟩
  obtain ⟨j0, hj0⟩ : ∃ j, ¬ g.G β j := by
    rcases h.mem.own n v E ht with e | ⟨b, k, cap, us', ks, fz0, rfl, e2, e3, e4, e5, e6, e7, e8⟩
    · subst e; cases hv
    · cases hv; exact ⟨_, e7 _ (Nat.le_refl _)⟩
  have hfr : Fr (fun b j => b = β ∧ ¬ g.G b j) w w1 := by
    refine ⟨hw.os, hw.tape, hw.output, Nat.le_of_eq hw.size.symm, fun b o ho => ?_⟩
    by_cases e : b = β
    · subst e
      rw [h0] at ho
      cases ho
      exact .inr ⟨us, T0, fz, us, fz', rfl, hw.new, rfl, fun _ _ => rfl, fun hn => absurd ⟨rfl, hj0⟩ (hn j0)⟩
    · exact .inl ((hw.other b e).trans ho)
  refine ⟨⟨fun b j hj => by rw [hw.size]; exact h.mem.gsz b j hj, fun d cs hd => ?_, h.mem.apart, fun m v' E' hm => ?_, h.mem.tkap, h.mem.tkbx⟩, h.blen, h.len, fun i x hi => ?_, h.dfr, h.fr.trans hfr (fun _ _ _ t => t) (fun b j hlt t => ?_), h.g0, h.gfr, h.tb, h.bb, h.pbx⟩
  · obtain ⟨b, us', T, e1, e2, e3, e4, e5⟩ := h.mem.box d cs hd
    exact ⟨b, us', T, e1, (hw.other b fun e => h.mem.tkbx n v E b d cs ht (e ▸ hv) hd e1).trans e2, e3, e4, fun j c hc => let ⟨u, hu, hr⟩ := e5 j c hc; ⟨u, hu, hr.mono hle⟩⟩
  · rcases h.mem.own m v' E' hm with e | ⟨b, k, cap, us', ks, fz0, rfl, e2, e3, e4, e5, e6, e7, e8⟩
    · exact .inl e
    · by_cases e : b = β
      · subst e
        rw [h0] at e2
        cases e2
        exact .inr ⟨b, k, cap, us, ks, fz', rfl, hw.new, e3, e4, e5, e6, e7, hz⟩
      · exact .inr ⟨b, k, cap, us', ks, fz0, rfl, (hw.other b e).trans e2, e3, e4, e5, e6, e7, e8⟩
  · obtain ⟨u, h1, h2⟩ := h.tm i x hi
    exact ⟨u, h1, h2.mono hle⟩
  · obtain ⟨rfl, hng⟩ := t
    exact .inr ⟨(h.tb n v E b ht hv).resolve_left (by omega), fun hG => hng (h.g0 b j hG)⟩
theorem mark_sound (h : Inv P F g s a w) {src dst E : TypeId} {n : Nat} {l : List Dat} {v : Value} (hs : src = dst) (hu : u8T P dst E = true) (hl : 0 < l.length) (hv : RepC P g w (.row (some n) E l) v) :
    ∃ w1, (convert src dst v).run P w = .ok v w1 ∧ Inv P F g s a w1 := by
  subst hs
  obtain ⟨hrow, htk⟩ := hv
  have ht := htk n rfl
  obtain ⟨E', h2, h3⟩ : ∃ E', P.underlying src = some (.slice E') ∧ P.underlying E' = some (.int .u8) := by
    unfold u8T at hu
    split at hu
    · rename_i E' hE
      rw [Bool.and_eq_true] at hu
      have e : E' = E := by simpa using hu.1
      subst e
      refine ⟨E', hE, ?_⟩
      have := hu.2
      split at this
      · rename_i e; exact e
      · cases this
    · cases hu
  rcases h.mem.own n v E ht with e | ⟨β, k, cap, us, ks, fz, rfl, e2, e3, e4, e5, e6, e7, e8⟩
  · obtain ⟨A, c, hsl⟩ := hrow.slice
    rw [e] at hsl
    injection hsl with _ hz _
    omega
  · refine ⟨w.freeze ⟨β, us.size, none⟩ 1, ?_, h.mark ht (β := β) rfl e2 (fz' := if fz.1 == fz.2 then (us.size, us.size + 1) else (min fz.1 us.size, max fz.2 (us.size + 1))) ⟨fun b hb => ?_, ?_, ?_, rfl, rfl, rfl⟩ ?_⟩
    · have hsh : (shape β).run P w = .ok (some (E, us.size)) w := by
        show Result.ok (w.shape? β) _ = _
        unfold World.shape?; rw [e2]
      simp only [convert, Sem.run_bind, run_underlying h2, run_underlying h3, Result.andThen_ok, markStringish, hsh, beq_self_eq_true]
      rfl
    · show (w.heap.modify β _)[b]? = w.heap[b]?
      rw [Array.getElem?_modify, if_neg (fun e => hb e.symm)]
    · show (w.heap.modify β _)[β]? = _
      rw [Array.getElem?_modify, if_pos rfl, e2]
      rfl
    · show (w.heap.modify β _).size = w.heap.size
      simp
    · cases hf : (fz.1 == fz.2)
      · have hne : ¬ fz.1 = fz.2 := by simpa using hf
        rcases e8 with e | e
        · exact absurd e hne
        · exact .inr (by simp; omega)
      · exact .inr (by simp)
theorem s2b_sound (h : Inv P F g s a w) {src dst E : TypeId} (str : ByteArray) (h1 : P.underlying src = some .string) (h2 : P.underlying dst = some (.slice E)) (h3 : P.underlying E = some (.int .u8)) (hb : str.size ≤ fitsN) (d : Nat) :
    ∃ v w', (convert src dst (.string str)).run P w = .ok v w' ∧ (∃ g', Inv P F g' ((s.kill d).put (some d) (.row (some d) E (bytesTo str))) (a.put (some d) v) w') ∧
      ∃ g', Inv P F g' (s.put (some d) (.row none E (bytesTo str))) (a.put (some d) v) w' := by
  obtain ⟨w1, us, cap, q1, q2, q3, q5, q6, q4⟩ := run_s2b (P := P) (w := w) (src := src) (dst := dst) str h1 h2 h3 hb
  have hk1 := h.kills (killF_kills d)
  have hd0 : (g.kills (killF d)).tk d = none := kills_tk (killF_kills d) (killF_self d)
  have hf := hk1.fresh q2 str.size
  have hOwn : Own P ((g.kills (killF d)).more w.heap.size str.size) w1 (.slice (some ⟨w.heap.size, 0, none⟩) str.size cap) E := by
    refine .inr ⟨w.heap.size, str.size, cap, us, [.int .u8], _, rfl, q2.new, kinds_byte h3, q3, q6, by simpa using q5, fun j hj hg => ?_, .inr (Nat.le_refl _)⟩
    rcases hg with hg | ⟨_, hg⟩
    · have := h.mem.gsz _ _ hg; omega
    · simp at hj; omega
  have hI := hf.addTok (n := d) (v := .slice (some ⟨w.heap.size, 0, none⟩) str.size cap) (E := E) hd0 hOwn (fun m v' E' b hm hv' hb => by
    cases hb
    exact Nat.lt_irrefl _ ((hk1.mem.own m v' E' hm).lt hv')) (fun e cs b he hb hvb' => by
    cases hvb'
    obtain ⟨β', us0, T0, b1, b2, _⟩ := hk1.mem.box e cs he
    have hb' : (g.kills (killF d)).bx e = some w.heap.size := hb
    rw [hb'] at b1
    cases b1
    exact Nat.lt_irrefl _ (Array.getElem?_eq_some_iff.1 b2).1) (fun b hb => by
    cases hb
    exact .inl h.fr.size)
  have hrow : ∀ G : Nat → Nat → Prop, (∀ j, j < str.size → G w.heap.size j) → RepRow P G w1 E (bytesTo str) (.slice (some ⟨w.heap.size, 0, none⟩) str.size cap) := fun G hG => by
    have hL : RepL P G w1 [.int .u8] (bytesTo str) (str.data.toList.map fun b => Value.int .u8 b.toNat) := by
      refine ⟨by simp [bytesTo], fun u hu => ?_, fun i j k dd hd hkk => ?_⟩
      · obtain ⟨b, _, rfl⟩ := List.mem_map.1 hu
        rfl
      · cases j with
        | succ j => simp at hkk
        | zero =>
          simp at hkk
          subst hkk
          simp only [bytesTo, List.getElem?_map] at hd
          obtain ⟨b, hb, rfl⟩ := Option.map_eq_some_iff.1 hd
          exact ⟨.int .u8 b.toNat, by simp [hb], rfl, fun E' hE => by cases hE⟩
    have := hL.row (kinds_byte h3) (β := w.heap.size) (off := 0) (cap := cap) (by simpa [bytesTo] using q3) (fun q u hq => by
      rw [List.getElem?_map] at hq
      obtain ⟨b, hb, rfl⟩ := Option.map_eq_some_iff.1 hq
      rw [Array.getElem?_toList] at hb
      have hlt := (Array.getElem?_eq_some_iff.1 hb).1
      refine ⟨hG _ (by rw [Nat.zero_add]; exact hlt), ?_⟩
      unfold World.cell?
      dsimp only
      rw [q2.new]
      simpa using q4 q b hb)
    have e : (bytesTo str).length = str.size := by simp [bytesTo]
    rw [e] at this
    exact this
  refine ⟨_, w1, q1, ⟨_, hI.put (some d) (x := .row (some d) E (bytesTo str)) ⟨hrow _ fun j hj => .inr ⟨rfl, hj⟩, fun m hm => ?_⟩⟩, ⟨_, (h.fresh q2 str.size).put (some d) (x := .row none E (bytesTo str)) ⟨hrow _ fun j hj => .inr ⟨rfl, hj⟩, fun m hm => by cases hm⟩⟩⟩
  cases hm
  show (if d = d then _ else _) = _
  rw [if_pos rfl]
end
end Go.Proofs.YtckdgcpomkefpaaDoor.En
end
section
set_option linter.unusedVariables false
set_option linter.unusedSimpArgs false
namespace Go.Proofs.YtckdgcpomkefpaaDoor.En
open Go
section
variable {P : Program} {F : Fx} {g : Gh} {s : St} {a : Act} {w : World}
def TBof (g : Gh) (β : Nat) : Prop := ∃ n y E, g.tk n = some (y, E) ∧ y.ownBlock = some β
def BBof (g : Gh) (bs : Bx) (β : Nat) : Prop := ∃ i cs, bs[i]? = some (some cs) ∧ g.bx i = some β
def TTof (g : Gh) (bs : Bx) (β j : Nat) : Prop := BBof g bs β ∨ (TBof g β ∧ ¬ g.G β j)
def OutV : AV → Prop
  | .box _ _ => False
  | .fn _ _ _ => False
  | .tup vs => (∀ (j : Nat) d o, vs[j]? ≠ some (.box d o)) ∧ (∀ (j : Nat) f a b, vs[j]? ≠ some (.fn f a b)) ∧ (∀ (j : Nat) cs, vs[j]? = some (.agg cs) → ∀ (i : Nat) c, cs[i]? = some c → c.bare = c) ∧
      ∀ (j j' m : Nat) E l E' l', vs[j]? = some (.row (some m) E l) → vs[j']? = some (.row (some m) E' l') → j = j'
  | .agg cs => (∀ (j : Nat) d o, cs[j]? ≠ some (.box d o)) ∧ (∀ (j : Nat) f a b, cs[j]? ≠ some (.fn f a b)) ∧
      ∀ (j j' m : Nat) E l E' l', cs[j]? = some (.row (some m) E l) → cs[j']? = some (.row (some m) E' l') → j = j'
  | _ => True
def tokLt (bs : Bx) : AV → Prop
  | .row (some m) _ _ => m < 1024
  | .tup vs => ∀ (j m : Nat) E l, vs[j]? = some (.row (some m) E l) → m < 1024
  | .agg vs => ∀ (j m : Nat) E l, vs[j]? = some (.row (some m) E l) → m < 1024 ∨ ∀ c, bs[m / 1024 - 1]? ≠ some (some c)
  | _ => True
structure CallPost (P : Program) (g : Gh) (w : World) (bs : Bx) (v : AV) (bs' : Bx) (x : Value) (g' : Gh) (w' : World) : Prop where
  mem : Mem P g' w' bs'
  len : bs'.length = bs.length
  some_ : ∀ (i : Nat) cs', bs'[i]? = some (some cs') → ∃ cs, bs[i]? = some (some cs)
  rep : RepS P g' w' v x
  fr : Fr (TTof g bs) w w'
  g0 : ∀ β j, g.G β j → g'.G β j
  gfr : ∀ β j, g'.G β j → β < w.heap.size → g.G β j ∨ TBof g β
  tb : ∀ n y E β, g'.tk n = some (y, E) → y.ownBlock = some β → w.heap.size ≤ β ∨ TBof g β
  bx : ∀ (i : Nat) cs, bs[i]? = some (some cs) → g'.bx i = g.bx i
  canon : ∀ (i j m : Nat) cs E l, bs'[i]? = some (some cs) → cs[j]? = some (.row (some m) E l) → m = sub i j
  outv : OutV v
  lt : tokLt bs v
def SoundCall (P : Program) (call : CallF) : Prop := ∀ f xs bs out, call f xs bs = some (true, out) → (∃ fn, P.funcs[f]? = some fn ∧ fn.body.isSome = true ∧ (fn.name == "runtime.NumGoroutine") = false) ∧ ∀ (g : Gh) (w : World) (vs : Array Value), Mem P g w bs → Laid g w → bs.length = xs.length → vs.size = xs.length →
  (∀ (i : Nat) x, xs[i]? = some x → ∃ v, vs[i]? = some v ∧ RepS P g w x v) →
  Calls P f vs w fun e w' => match out with
    | .ret v bs' => ∃ x g', e = .returned x ∧ CallPost P g w bs v bs' x g' w'
    | .thr x => e = .panicked [{ v := x, recovered := false }] ∧ Fr (TTof g bs) w w'
inductive ArgR (P : Program) (take : Option Nat) (s : St) (T : TypeId) (x : AV) (i : Nat) : AV → Option (List AV) → Option Nat → Prop
  | box (d : Nat) (cs : List AV) : x = .box d 0 → s.boxAt d = some cs → cs.length ≤ 1024 → ArgR P take s T x i (.box i 0) (some (giveL d i 0 cs)) (some d)
  | row (t : Option Nat) (E : TypeId) (l : List Dat) : x = .row t E l → ArgR P take s T x i (.row none E l) none none
  | take (n : Nat) (E : TypeId) (l : List Dat) : x = .row (some n) E l → take = some i → n < 1024 → ArgR P take s T x i (.row (some i) E l) none none
  | nil (E : TypeId) : x = .v (.slice none 0 0) → elemT P T = some E → ArgR P take s T x i (.row (some i) E []) none none
  | v (y : Value) : x = .v y → ArgR P take s T x i (.v y) none none
  | agg (cs : List AV) : x = .agg cs → ArgR P take s T x i (.agg ((nilL (kinds P T) cs).map AV.bare)) none none
structure ArgsR (P : Program) (take : Option Nat) (s : St) (Ts : List TypeId) (xs : List AV) (i : Nat) (p : Pass) : Prop where
  lx : p.xs.length = xs.length
  lb : p.bs.length = xs.length
  ll : p.ls.length = xs.length
  each : ∀ (k : Nat) x, xs[k]? = some x → ∃ T x' b l, Ts[k]? = some T ∧ p.xs[k]? = some x' ∧ p.bs[k]? = some b ∧ p.ls[k]? = some l ∧ ArgR P take s T x (i + k) x' b l
  inj : ∀ (k k' d : Nat), p.ls[k]? = some (some d) → p.ls[k']? = some (some d) → k = k'
  tk : ∀ (k n : Nat) E l, xs[k]? = some (.row (some n) E l) → take = some (i + k) → n < 1024 → p.tk = some n
theorem argsFor_spec {take : Option Nat} : ∀ (Ts : List TypeId) (xs : List AV) (i : Nat) (p : Pass), argsFor P take s Ts xs i = some p → ArgsR P take s Ts xs i p
  | [], [], i, p, h => by
    cases h
    exact ⟨rfl, rfl, rfl, fun k x h => by simp at h, fun k k' d h => by simp at h, fun k n E l h => by simp at h⟩
  | T :: Ts, x :: xs, i, p, h => by
    simp only [argsFor] at h
    have h' := Option.bind_eq_some_iff.1 h
    clear h
    obtain ⟨q, hq, h⟩ := h'
    have ih := argsFor_spec Ts xs (i + 1) q hq
    have mk : ∀ (x' : AV) (b : Option (List AV)) (l : Option Nat) (tk : Option Nat), ArgR P take s T x i x' b l → (∀ d, l = some d → ¬ q.ls.contains (some d) = true) → ((∀ n E l, x = .row (some n) E l → take = some i → n < 1024 → tk = some n) ∧ (tk = q.tk ∨ take = some i)) →
        ArgsR P take s (T :: Ts) (x :: xs) i ⟨x' :: q.xs, b :: q.bs, l :: q.ls, tk⟩ := fun x' b l tk hr hl ht => by
      refine ⟨by simp [ih.lx], by simp [ih.lb], by simp [ih.ll], fun k y hk => ?_, fun k k' d h1 h2 => ?_, fun k n E l' hk h1 h2 => ?_⟩
      · cases k with
        | zero => simp at hk; subst hk; exact ⟨T, x', b, l, rfl, rfl, rfl, rfl, hr⟩
        | succ k =>
          obtain ⟨T', x2, b2, l2, e1, e2, e3, e4, e5⟩ := ih.each k y (by simpa using hk)
          refine ⟨T', x2, b2, l2, by simpa using e1, by simpa using e2, by simpa using e3, by simpa using e4, ?_⟩
          rw [show i + (k + 1) = i + 1 + k by omega]
          exact e5
      · have mem : ∀ (k : Nat), q.ls[k]? = some (some d) → q.ls.contains (some d) = true := fun k hk => by
          rw [List.contains_iff_mem]; exact List.mem_of_getElem? hk
        cases k with
        | zero =>
          simp at h1
          cases k' with
          | zero => rfl
          | succ k' => exact absurd (mem k' (by simpa using h2)) (hl d h1)
        | succ k =>
          cases k' with
          | zero => simp at h2; exact absurd (mem k (by simpa using h1)) (hl d h2)
          | succ k' => rw [ih.inj k k' d (by simpa using h1) (by simpa using h2)]
      · cases k with
        | zero => simp at hk; exact ht.1 n E l' hk h1 h2
        | succ k =>
          have := ih.tk k n E l' (by simpa using hk) (by rw [h1]; congr 1; omega) h2
          rcases ht.2 with e | e
          · rw [e]; exact this
          · rw [h1] at e; injection e with e; omega
    split at h
    · rename_i d off
      split at h
      · rename_i E hu
        have h' := Option.bind_eq_some_iff.1 h
        clear h
        obtain ⟨cs, hcs, h⟩ := h'
        cases hc : (off == 0 && szT P E == some cs.length && Nat.ble cs.length 1024 && !q.ls.contains (some d)) <;> rw [hc] at h <;> cases h
        simp only [Bool.and_eq_true] at hc
        obtain ⟨⟨⟨c1, c2⟩, c3⟩, c4⟩ := hc
        have : off = 0 := by simpa using c1
        subst this
        exact mk _ _ _ _ (.box d cs rfl hcs (Nat.le_of_ble_eq_true c3)) (fun e he => by cases he; simpa using c4) ⟨fun n E l he => (by cases he), .inl rfl⟩
      · cases h
    · rename_i t E l
      split at h
      · rename_i n
        cases hc : (take == some i && Nat.blt n 1024) <;> rw [hc] at h <;> cases h
        · refine mk _ _ _ _ (.row _ E l rfl) (fun e he => by cases he) ⟨fun n' E' l' he h1 h2 => ?_, .inl rfl⟩
          cases he
          have e1 : (take == some i) = true := by rw [h1]; simp
          have e2 : Nat.blt n 1024 = true := Nat.ble_eq_true_of_le h2
          rw [e1, e2] at hc
          cases hc
        · simp only [Bool.and_eq_true] at hc
          have e1 : take = some i := by simpa using hc.1
          exact mk _ _ _ _ (.take n E l rfl e1 (Nat.le_of_ble_eq_true hc.2)) (fun e he => by cases he) ⟨fun n' E' l' he h1 h2 => (by cases he; rfl), .inr e1⟩
      · cases h
        exact mk _ _ _ _ (.row _ E l rfl) (fun e he => by cases he) ⟨fun n' E' l' he h1 h2 => (by cases he), .inl rfl⟩
    · split at h
      · rename_i E hE
        cases h
        exact mk _ _ _ _ (.nil E rfl hE) (fun e he => by cases he) ⟨fun n E l he => (by cases he), .inl rfl⟩
      · cases h
    · rename_i y _
      cases h
      exact mk _ _ _ _ (.v y rfl) (fun e he => by cases he) ⟨fun n E l he => (by cases he), .inl rfl⟩
    · rename_i cs
      cases h
      exact mk _ _ _ _ (.agg cs rfl) (fun e he => by cases he) ⟨fun n E l he => (by cases he), .inl rfl⟩
    · cases h
  | [], _ :: _, i, p, h => by simp [argsFor] at h
  | _ :: _, [], i, p, h => by simp [argsFor] at h
end
end Go.Proofs.YtckdgcpomkefpaaDoor.En
end
section
set_option linter.unusedVariables false
set_option linter.unusedSimpArgs false
namespace Go.Proofs.YtckdgcpomkefpaaDoor.En
open Go
section
variable {P : Program} {F : Fx} {g : Gh} {s : St} {a : Act} {w : World}
theorem giveL_get (e d : Nat) : ∀ (cs : List AV) (j0 j : Nat), (giveL e d j0 cs)[j]? = (cs[j]?).map fun c => c.give e d (j0 + j)
  | [], j0, j => by simp [giveL]
  | c :: cs, j0, 0 => by simp [giveL]
  | c :: cs, j0, j + 1 => by simp [giveL, giveL_get e d cs (j0 + 1) j, Nat.add_assoc, Nat.add_comm 1 j]
theorem giveL_len (e d : Nat) : ∀ (cs : List AV) (j0 : Nat), (giveL e d j0 cs).length = cs.length
  | [], j0 => rfl
  | c :: cs, j0 => by simp [giveL, giveL_len e d cs (j0 + 1)]
theorem Rep0.G {g' : Gh} {w' : World} (hG : ∀ β j, g.G β j → g'.G β j ∧ w'.cell? ⟨β, j, none⟩ = w.cell? ⟨β, j, none⟩) {x : AV} {v : Value} (h : Rep0 P g w x v) : Rep0 P g' w' x v := by
  cases x <;> simp only [Rep0] at h ⊢ <;> first | exact h | exact ⟨h.1, h.2.mono hG⟩
theorem RepRo.G {g' : Gh} {w' : World} (hG : ∀ β j, g.G β j → g'.G β j ∧ w'.cell? ⟨β, j, none⟩ = w.cell? ⟨β, j, none⟩) {cs : List AV} {v : Value} (h : RepC P g w (.ro cs) v) : RepC P g' w' (.ro cs) v := by
  obtain ⟨β, o, h1, h2⟩ := h
  refine ⟨β, o, h1, fun i c hi => ?_⟩
  obtain ⟨u, e1, e2, e3⟩ := h2 i c hi
  exact ⟨u, (hG _ _ e2).2.trans e1, (hG _ _ e2).1, e3.G hG⟩
theorem give_rep {g' : Gh} {w' : World} {T : TypeId} {e d j β : Nat} {c : AV} {u : Value} (hG : ∀ β j, g.G β j → g'.G β j ∧ w'.cell? ⟨β, j, none⟩ = w.cell? ⟨β, j, none⟩) (htk : ∀ v, g.tk (sub e j) = some v → g'.tk (sub d j) = some v) (h : RepB P g w T β j c u) : RepB P g' w' T β j (c.give e d j) u := by
  cases c with
  | row t E l =>
    obtain ⟨h1, h2⟩ := (show RepC P g w (.row t E l) u from h)
    cases t with
    | none => exact ⟨h1.mono hG, fun n hn => by cases hn⟩
    | some m =>
      refine ⟨h1.mono hG, fun n hn => ?_⟩
      cases hm : (m == sub e j) <;> rw [hm] at hn
      · cases hn
      · cases hn
        have : m = sub e j := by simpa using hm
        subst this
        exact htk _ (h2 _ rfl)
  | box b o =>
    obtain ⟨β', h1, h2⟩ := (show RepC P g w (.box b o) u from h)
    rw [h2]; rfl
  | fn f xs cs =>
    obtain ⟨us, ws, h2, _⟩ := (show RepC P g w (.fn f xs cs) u from h)
    rw [h2]; rfl
  | ro cs => exact RepRo.G hG h
  | v x => exact h
  | dead => exact h
  | self => exact h
  | agg cs => exact h
  | tup cs => exact h
theorem nil1_rep {k : CK} {c : AV} {u : Value} (h : RepC P g w c u) : RepC P g w (nil1 k c) u := by
  unfold nil1
  split
  · obtain ⟨rfl, _⟩ := (show u = .slice none 0 0 ∧ _ from h)
    exact ⟨.nil _ _ _, fun n hn => by cases hn⟩
  · exact h
theorem nil2_get : ∀ (ks : List CK) (cs : List AV) (j : Nat) (c' : AV), (nil2 ks cs)[j]? = some c' → ∃ c, cs[j]? = some c ∧ ∀ u, RepC P g w c u → RepC P g w c' u
  | [], cs, j, c', h => ⟨c', h, fun _ h => h⟩
  | k :: ks, [], j, c', h => by simp [nil2] at h
  | k :: ks, c :: cs, 0, c', h => by
    simp [nil2] at h
    subst h
    exact ⟨c, rfl, fun u hu => nil1_rep hu⟩
  | k :: ks, c :: cs, j + 1, c', h => nil2_get ks cs j c' (by simpa [nil2] using h)
theorem nilL_get (ks : Option (List CK)) (cs : List AV) (j : Nat) (c' : AV) (h : (nilL ks cs)[j]? = some c') : ∃ c, cs[j]? = some c ∧ ∀ u, RepC P g w c u → RepC P g w c' u := by
  cases ks with
  | none => exact ⟨c', h, fun _ h => h⟩
  | some ks => exact nil2_get ks cs j c' h
theorem nil2_len : ∀ (ks : List CK) (cs : List AV), (nil2 ks cs).length = cs.length
  | [], cs => rfl
  | k :: ks, [] => rfl
  | k :: ks, c :: cs => by simp [nil2, nil2_len ks cs]
theorem nilL_len (ks : Option (List CK)) (cs : List AV) : (nilL ks cs).length = cs.length := by
  cases ks with
  | none => rfl
  | some ks => exact nil2_len ks cs
theorem bare_rep {g' : Gh} {w' : World} {c : AV} {u : Value} (hG : ∀ β j, g.G β j → g'.G β j ∧ w'.cell? ⟨β, j, none⟩ = w.cell? ⟨β, j, none⟩) (h : RepC P g w c u) : RepC P g' w' c.bare u := by
  cases c with
  | row t E l => exact ⟨h.1.mono hG, fun n hn => by cases hn⟩
  | box b o =>
    obtain ⟨β', h1, h2⟩ := h
    rw [h2]; rfl
  | fn f xs cs =>
    obtain ⟨us, ws, h2, _⟩ := h
    rw [h2]; rfl
  | ro cs => exact RepRo.G hG h
  | v x => exact h
  | dead => exact h
  | self => exact h
  | agg cs => exact h
  | tup cs => exact h
def tkC (P : Program) (g : Gh) (take : Option Nat) (Ts : List TypeId) (xs : List AV) (ls : List (Option Nat)) (n : Nat) : Option (Value × TypeId) :=
  if n < 1024 then (match xs[n]? with
    | some (.row (some m) _ _) => if take = some n ∧ m < 1024 then g.tk m else none
    | some (.v (.slice none 0 0)) => ((Ts[n]?).bind (elemT P)).map fun E => (.slice none 0 0, E)
    | _ => none)
  else (match ls[n / 1024 - 1]? with | some (some d) => g.tk (sub d (n % 1024)) | _ => none)
def bxC (g : Gh) (ls : List (Option Nat)) (i : Nat) : Option Nat := match ls[i]? with | some (some d) => g.bx d | _ => none
def ghC (P : Program) (g : Gh) (take : Option Nat) (Ts : List TypeId) (xs : List AV) (ls : List (Option Nat)) : Gh := ⟨g.G, tkC P g take Ts xs ls, bxC g ls⟩
theorem tkC_from {take : Option Nat} {Ts : List TypeId} {xs : List AV} {ls : List (Option Nat)} {n : Nat} {v : Value} {E : TypeId} (h : tkC P g take Ts xs ls n = some (v, E)) :
    (v = .slice none 0 0) ∨ (n < 1024 ∧ take = some n ∧ ∃ m E' l, m < 1024 ∧ xs[n]? = some (.row (some m) E' l) ∧ g.tk m = some (v, E)) ∨ (∃ d, 1024 ≤ n ∧ ls[n / 1024 - 1]? = some (some d) ∧ g.tk (sub d (n % 1024)) = some (v, E)) := by
  unfold tkC at h
  split at h
  · rename_i hn
    split at h
    · rename_i m E' l hx
      split at h
      · rename_i hm; exact .inr (.inl ⟨hn, hm.1, m, E', l, hm.2, hx, h⟩)
      · cases h
    · obtain ⟨E', h1, h2⟩ := Option.map_eq_some_iff.1 h
      cases h2
      exact .inl rfl
    · cases h
  · rename_i hn
    split at h
    · rename_i d hd; exact .inr (.inr ⟨d, by omega, hd, h⟩)
    · cases h
theorem sub_ge (d j : Nat) : 1024 ≤ sub d j := by unfold sub; omega
theorem sub_inj {d d' j j' : Nat} (hj : j < 1024) (hj' : j' < 1024) (h : sub d j = sub d' j') : d = d' ∧ j = j' := by unfold sub at h; omega
theorem tkC_src {take : Option Nat} {Ts : List TypeId} {xs : List AV} {ls : List (Option Nat)} {n : Nat} {v : Value} {E : TypeId} (h : tkC P g take Ts xs ls n = some (v, E)) {β : Nat} (hv : v.ownBlock = some β) :
    ∃ c, g.tk c = some (v, E) ∧ ((n < 1024 ∧ take = some n ∧ c < 1024 ∧ ∃ E' l, xs[n]? = some (.row (some c) E' l)) ∨ ∃ d, 1024 ≤ n ∧ ls[n / 1024 - 1]? = some (some d) ∧ c = sub d (n % 1024)) := by
  rcases tkC_from h with rfl | ⟨h1, h2, m, E', l, h3, h4, h5⟩ | ⟨d, h1, h2, h3⟩
  · cases hv
  · exact ⟨m, h5, .inl ⟨h1, h2, h3, E', l, h4⟩⟩
  · exact ⟨_, h3, .inr ⟨d, h1, h2, rfl⟩⟩
theorem pass_mem (h : Inv P F g s a w) {take : Option Nat} {Ts : List TypeId} {xs : List AV} {p : Pass} (hp : ArgsR P take s Ts xs 0 p) (hlen : xs.length ≤ 1024) :
    Mem P (ghC P g take Ts xs p.ls) w p.bs := by
  have hbox : ∀ (i : Nat) cs', p.bs[i]? = some (some cs') → ∃ d cs, p.ls[i]? = some (some d) ∧ s.b[d]? = some (some cs) ∧ cs.length ≤ 1024 ∧ cs' = giveL d i 0 cs ∧ i < 1024 := fun i cs' hi => by
    have hlt := (List.getElem?_eq_some_iff.1 hi).1
    rw [hp.lb] at hlt
    obtain ⟨T, x', b, l, e1, e2, e3, e4, e5⟩ := hp.each i xs[i] (List.getElem?_eq_getElem hlt)
    rw [hi] at e3
    cases e3
    rw [Nat.zero_add] at e5
    cases e5 with
    | box d cs h1 h2 h3 => exact ⟨d, cs, e4, boxAt_eq h2, h3, rfl, by omega⟩
  have hbxi : ∀ (i d : Nat), p.ls[i]? = some (some d) → (ghC P g take Ts xs p.ls).bx i = g.bx d := fun i d hd => by
    show bxC g p.ls i = _
    unfold bxC; rw [hd]
  have htki : ∀ (i d j : Nat), p.ls[i]? = some (some d) → i < 1024 → j < 1024 → (ghC P g take Ts xs p.ls).tk (sub i j) = g.tk (sub d j) := fun i d j hd hi hj => by
    show tkC P g take Ts xs p.ls (sub i j) = _
    unfold tkC
    rw [if_neg (by have := sub_ge i j; omega), sub_div i j hj, sub_mod i j hj]
    simp [hd]
  have hap : ∀ n m v v' E E' β, tkC P g take Ts xs p.ls n = some (v, E) → tkC P g take Ts xs p.ls m = some (v', E') → v.ownBlock = some β → v'.ownBlock = some β → n = m := fun n m v v' E E' β hn hm hv hv' => by
    obtain ⟨c, c1, c2⟩ := tkC_src hn hv
    obtain ⟨c', d1, d2⟩ := tkC_src hm hv'
    have hcc := h.mem.tkap c c' v v' E E' β c1 d1 hv hv'
    subst hcc
    rcases c2 with ⟨a1, a2, a3, _⟩ | ⟨d, a1, a2, a3⟩ <;> rcases d2 with ⟨b1, b2, b3, _⟩ | ⟨d', b1, b2, b3⟩
    · rw [a2] at b2; injection b2
    · have := sub_ge d' (m % 1024); omega
    · have := sub_ge d (n % 1024); omega
    · obtain ⟨e1, e2⟩ := sub_inj (Nat.mod_lt _ (by decide)) (Nat.mod_lt _ (by decide)) (a3.symm.trans b3)
      subst e1
      have := hp.inj _ _ d a2 b2
      omega
  refine ⟨h.mem.gsz, fun i cs' hi => ?_, fun i i' β cs cs' hi hi' hβ hβ' => ?_, fun n v E hn => ?_, fun n m v v' E E' β hn hm hv hv' => hap n m v v' E E' β hn hm hv hv', fun n v E β i cs hn hv hi hβ => ?_⟩
  · obtain ⟨d, cs, h1, h2, h3, rfl, h4⟩ := hbox i cs' hi
    obtain ⟨β, us, T, e1, e2, e3, e4, e5⟩ := h.mem.box d cs h2
    refine ⟨β, us, T, (hbxi i d h1).trans e1, e2, by rw [giveL_len]; exact e3, e4, fun j c hj => ?_⟩
    rw [giveL_get] at hj
    obtain ⟨c0, hc0, rfl⟩ := Option.map_eq_some_iff.1 hj
    obtain ⟨u, hu, hr⟩ := e5 j c0 hc0
    rw [Nat.zero_add]
    refine ⟨u, hu, give_rep (g := g) (fun β j hj => ⟨hj, rfl⟩) (fun v hv => ?_) hr⟩
    rw [htki i d j h1 h4 (Nat.lt_of_lt_of_le (List.getElem?_eq_some_iff.1 hc0).1 h3)]
    exact hv
  · obtain ⟨d, c1, h1, h2, _, _, _⟩ := hbox i cs hi
    obtain ⟨d', c2, h1', h2', _, _, _⟩ := hbox i' cs' hi'
    rw [hbxi i d h1] at hβ
    rw [hbxi i' d' h1'] at hβ'
    have := h.mem.apart d d' β c1 c2 h2 h2' hβ hβ'
    subst this
    exact hp.inj i i' d h1 h1'
  · rcases tkC_from hn with rfl | ⟨_, _, m, _, _, _, _, h5⟩ | ⟨d, _, _, h3⟩
    · exact .inl rfl
    · exact (h.mem.own m v E h5).keep fun β hβ => ⟨rfl, fun j hj => hj⟩
    · exact (h.mem.own _ v E h3).keep fun β hβ => ⟨rfl, fun j hj => hj⟩
  · obtain ⟨c, c1, _⟩ := tkC_src hn hv
    obtain ⟨d, c2, h1, h2, _, _, _⟩ := hbox i cs hi
    rw [hbxi i d h1] at hβ
    exact h.mem.tkbx c v E β d c2 c1 hv h2 hβ
theorem pass_args (h : Inv P F g s a w) {take : Option Nat} {Ts : List TypeId} {xs : List AV} {p : Pass} (hp : ArgsR P take s Ts xs 0 p) (hlen : xs.length ≤ 1024) {vs : Array Value}
    (hv : ∀ (i : Nat) x, xs[i]? = some x → ∃ v, vs[i]? = some v ∧ RepS P g w x v) (i : Nat) (x' : AV) (hi : p.xs[i]? = some x') : ∃ v, vs[i]? = some v ∧ RepS P (ghC P g take Ts xs p.ls) w x' v := by
  have hlt := (List.getElem?_eq_some_iff.1 hi).1
  rw [hp.lx] at hlt
  have hget := List.getElem?_eq_getElem hlt
  obtain ⟨T, x2, b, l, e1, e2, e3, e4, e5⟩ := hp.each i xs[i] hget
  rw [hi] at e2
  cases e2
  rw [Nat.zero_add] at e5
  obtain ⟨v, h1, h2⟩ := hv i _ hget
  refine ⟨v, h1, ?_⟩
  have hi1 : i < 1024 := by omega
  generalize xs[i] = x at hget h2 e5
  cases e5 with
  | box d cs hx h3 h4 =>
    subst hx
    obtain ⟨β, hb, hv⟩ := (show RepC P g w (.box d 0) v from h2)
    refine ⟨β, ?_, hv⟩
    show bxC g p.ls i = _
    unfold bxC
    rw [e4]
    exact hb
  | row t E l hx =>
    subst hx
    exact ⟨(show RepC P g w (.row t E l) v from h2).1, fun n hn => by cases hn⟩
  | take n E l hx h3 h4 =>
    subst hx
    obtain ⟨r1, r2⟩ := (show RepC P g w (.row (some n) E l) v from h2)
    refine ⟨r1, fun m hm => ?_⟩
    cases hm
    show tkC P g take Ts xs p.ls i = _
    unfold tkC
    rw [if_pos hi1, hget]
    show (if take = some i ∧ n < 1024 then g.tk n else none) = _
    rw [if_pos ⟨h3, h4⟩]
    exact r2 n rfl
  | nil E hx hE =>
    subst hx
    obtain ⟨rfl, _⟩ := (show v = .slice none 0 0 ∧ _ from h2)
    refine ⟨.nil _ _ _, fun m hm => ?_⟩
    cases hm
    show tkC P g take Ts xs p.ls i = _
    unfold tkC
    rw [if_pos hi1, hget]
    show ((Ts[i]?).bind (elemT P)).map _ = _
    rw [e1]
    simp [hE]
  | v y hx =>
    subst hx
    exact h2
  | agg cs hx =>
    subst hx
    obtain ⟨us, r1, r2, r3⟩ := h2
    refine ⟨us, r1, by simp [r2, nilL_len], fun j c hj => ?_⟩
    rw [List.getElem?_map] at hj
    obtain ⟨c1, hc1, rfl⟩ := Option.map_eq_some_iff.1 hj
    obtain ⟨c0, hc0, hall⟩ := nilL_get (P := P) (g := g) (w := w) _ _ _ _ hc1
    obtain ⟨u, hu, hr⟩ := r3 j c0 hc0
    exact ⟨u, hu, bare_rep (g := g) (fun β j hj => ⟨hj, rfl⟩) (hall u hr)⟩
theorem pass_T (h : Inv P F g s a w) {take : Option Nat} {Ts : List TypeId} {xs : List AV} {p : Pass} (hp : ArgsR P take s Ts xs 0 p) {β j : Nat} (hlt : β < F.w0.heap.size) (t : TTof (ghC P g take Ts xs p.ls) p.bs β j) : F.T β j := by
  rcases t with ⟨i, cs', hi, hβ⟩ | ⟨⟨n, y, E, hn, hv⟩, hnG⟩
  · have hl := (List.getElem?_eq_some_iff.1 hi).1
    rw [hp.lb] at hl
    obtain ⟨T, x', b, l, e1, e2, e3, e4, e5⟩ := hp.each i xs[i] (List.getElem?_eq_getElem hl)
    rw [hi] at e3
    cases e3
    cases e5 with
    | box d cs q1 q2 q3 =>
      have : bxC g p.ls i = some β := hβ
      unfold bxC at this
      rw [e4] at this
      rcases h.bb d cs β (boxAt_eq q2) this with e | e
      · omega
      · exact .inl e
  · obtain ⟨c, c1, c2⟩ := tkC_src hn hv
    rcases h.tb c y E β c1 hv with e | e
    · omega
    · exact .inr ⟨e, fun hF => hnG (h.g0 β j hF)⟩
end
end Go.Proofs.YtckdgcpomkefpaaDoor.En
end
end
