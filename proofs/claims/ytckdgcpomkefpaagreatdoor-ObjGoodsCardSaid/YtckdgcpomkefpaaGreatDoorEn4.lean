/- Memory that is made or written: the plain state goes along. -/
import Derived.Test.YtckdgcpomkefpaaGreatDoorEn3
set_option linter.unusedVariables false
set_option linter.unusedSimpArgs false
namespace Go.Proofs.YtckdgcpomkefpaaGreatDoor.En
open Go
section
variable {P : Program} {F : Fx} {g : Gh} {s : St} {a : Act} {w : World}

/-- A world with one block more. -/
structure Push (w w1 : World) (o : Obj) : Prop where
  heap : w1.heap = w.heap.push o
  os : w1.os = w.os
  tape : w1.tape = w.tape
  output : w1.output = w.output
theorem Push.alloc (w : World) (o : Obj) : Push w (w.alloc o) o := ⟨rfl, rfl, rfl, rfl⟩
theorem Push.drew (w : World) (o : Obj) : Push w (w.drew.alloc o) o := ⟨rfl, rfl, rfl, rfl⟩
theorem Push.old {w1 : World} {o : Obj} (h : Push w w1 o) {β : Nat} (hβ : β < w.heap.size) : w1.heap[β]? = w.heap[β]? := by
  rw [h.heap, Array.getElem?_push, if_neg (by omega)]
theorem Push.new {w1 : World} {o : Obj} (h : Push w w1 o) : w1.heap[w.heap.size]? = some o := by
  rw [h.heap, Array.getElem?_push, if_pos rfl]
theorem Push.size {w1 : World} {o : Obj} (h : Push w w1 o) : w1.heap.size = w.heap.size + 1 := by rw [h.heap]; simp
theorem Push.fr {w1 : World} {o : Obj} (h : Push w w1 o) (T : Nat → Nat → Prop) : Fr T w w1 :=
  ⟨h.os, h.tape, h.output, by rw [h.size]; omega, fun β o' ho => .inl (by rw [h.old (Array.getElem?_eq_some_iff.1 ho).1]; exact ho)⟩
theorem Push.cell {w1 : World} {o : Obj} (h : Push w w1 o) {β j : Nat} (hβ : β < w.heap.size) : w1.cell? ⟨β, j, none⟩ = w.cell? ⟨β, j, none⟩ :=
  World.cell?_of_block (a := ⟨β, j, none⟩) (h.old hβ)
def Gh.more (g : Gh) (β0 K : Nat) : Gh := { g with G := fun β j => g.G β j ∨ (β = β0 ∧ j < K) }
theorem Own.keep {g' : Gh} {w' : World} {v : Value} {E : TypeId} (h : Own P g w v E) (hb : ∀ β, v.ownBlock = some β → w'.heap[β]? = w.heap[β]? ∧ ∀ j, g'.G β j → g.G β j) : Own P g' w' v E := by
  rcases h with e | ⟨β, k, cap, us, ks, rfl, e2, e3, e4, e5, e6, e7⟩
  · exact .inl e
  · obtain ⟨b1, b2⟩ := hb β rfl
    exact .inr ⟨β, k, cap, us, ks, rfl, b1.trans e2, e3, e4, e5, e6, fun j hj hg => e7 j hj (b2 j hg)⟩
theorem Own.lt {v : Value} {E : TypeId} (h : Own P g w v E) {β : Nat} (hv : v.ownBlock = some β) : β < w.heap.size := by
  rcases h with e | ⟨β', k, cap, us, ks, rfl, e2, e3, e4, e5, e6, e7⟩
  · subst e; cases hv
  · cases hv; exact (Array.getElem?_eq_some_iff.1 e2).1
/-- A new block, of which the first K cells stay. -/
theorem Inv.fresh (h : Inv P F g s a w) {w1 : World} {o : Obj} (hw : Push w w1 o) (K : Nat) : Inv P F (g.more w.heap.size K) s a w1 := by
  have hle : g.Le (g.more w.heap.size K) w w1 := ⟨fun β j hj => ⟨.inl hj, hw.cell (h.mem.gsz β j hj)⟩, fun n v hv => hv, fun d β hd => hd⟩
  refine ⟨⟨fun β j hj => ?_, fun d cs hd => ?_, h.mem.apart, fun n v E hn => ?_, h.mem.tkap, h.mem.tkbx⟩, h.blen, h.len, fun i x hi => ?_, h.dfr, h.fr.trans (hw.fr F.T) (fun _ _ _ t => t) (fun _ _ _ t => t), fun β j hj => .inl (h.g0 β j hj), fun β j hj hlt => ?_, h.tb, h.bb, h.pbx⟩
  · rcases hj with hj | ⟨rfl, _⟩
    · have := h.mem.gsz β j hj; rw [hw.size]; omega
    · rw [hw.size]; omega
  · obtain ⟨β, us, T, e1, e2, e3, e4, e5⟩ := h.mem.box d cs hd
    have hlt := (Array.getElem?_eq_some_iff.1 e2).1
    refine ⟨β, us, T, e1, (hw.old hlt).trans e2, e3, fun j hj => ?_, fun j c hc => let ⟨u, hu, hr⟩ := e5 j c hc; ⟨u, hu, hr.mono hle⟩⟩
    rcases hj with hj | ⟨rfl, _⟩
    · exact e4 j hj
    · omega
  · exact (h.mem.own n v E hn).keep fun β hβ => by
      have hlt := (h.mem.own n v E hn).lt hβ
      refine ⟨hw.old hlt, fun j hj => ?_⟩
      rcases hj with hj | ⟨rfl, _⟩
      · exact hj
      · omega
  · obtain ⟨v, h1, h2⟩ := h.tm i x hi
    exact ⟨v, h1, h2.mono hle⟩
  · rcases hj with hj | ⟨rfl, _⟩
    · exact h.gfr β j hj hlt
    · have := h.fr.size; omega
/-- A draw. -/
theorem Inv.drew (h : Inv P F g s a w) : Inv P F g s a w.drew := by
  have hle : g.Le g w w.drew := ⟨fun β j hj => ⟨hj, rfl⟩, fun n v hv => hv, fun d β hd => hd⟩
  refine ⟨⟨h.mem.gsz, fun d cs hd => ?_, h.mem.apart, fun n v E hn => h.mem.own n v E hn, h.mem.tkap, h.mem.tkbx⟩, h.blen, h.len, fun i x hi => ?_, h.dfr, h.fr.trans (Fr.drew w) (fun _ _ _ t => t) (fun _ _ _ t => t.elim), h.g0, h.gfr, h.tb, h.bb, h.pbx⟩
  · obtain ⟨β, us, T, e1, e2, e3, e4, e5⟩ := h.mem.box d cs hd
    exact ⟨β, us, T, e1, e2, e3, e4, fun j c hc => let ⟨u, hu, hr⟩ := e5 j c hc; ⟨u, hu, hr.mono hle⟩⟩
  · obtain ⟨v, h1, h2⟩ := h.tm i x hi
    exact ⟨v, h1, h2.mono hle⟩
def Gh.tok (g : Gh) (n : Nat) (v : Value) (E : TypeId) : Gh := { g with tk := fun m => if m = n then some (v, E) else g.tk m }
def Gh.box (g : Gh) (d : Nat) (o : Option Nat) : Gh := { g with bx := fun e => if e = d then o else g.bx e }
/-- A slice that nobody else may append to. -/
theorem Inv.addTok (h : Inv P F g s a w) {n : Nat} {v : Value} {E : TypeId} (hn : g.tk n = none) (hO : Own P g w v E)
    (hap : ∀ m v' E' β, g.tk m = some (v', E') → v'.ownBlock = some β → v.ownBlock ≠ some β)
    (hbx : ∀ d cs β, s.b[d]? = some (some cs) → g.bx d = some β → v.ownBlock ≠ some β)
    (htb : ∀ β, v.ownBlock = some β → F.w0.heap.size ≤ β ∨ F.TB β) : Inv P F (g.tok n v E) s a w := by
  have hle : g.Le (g.tok n v E) w w := ⟨fun β j hj => ⟨hj, rfl⟩, fun m v' hm => by
    show (if m = n then some (v, E) else g.tk m) = some v'
    rw [if_neg (by rintro rfl; rw [hn] at hm; cases hm)]; exact hm, fun d β hd => hd⟩
  have key : ∀ m v' E', (g.tok n v E).tk m = some (v', E') → (m = n ∧ v' = v ∧ E' = E) ∨ (m ≠ n ∧ g.tk m = some (v', E')) := fun m v' E' hm => by
    have hm' : (if m = n then some (v, E) else g.tk m) = some (v', E') := hm
    by_cases e : m = n
    · rw [if_pos e] at hm'; cases hm'; exact .inl ⟨e, rfl, rfl⟩
    · rw [if_neg e] at hm'; exact .inr ⟨e, hm'⟩
  refine ⟨⟨h.mem.gsz, fun d cs hd => ?_, h.mem.apart, fun m v' E' hm => ?_, fun m m' v1 v2 E1 E2 β hm hm' hv hv' => ?_, fun m v' E' β d cs hm hv hd hβ => ?_⟩, h.blen, h.len, fun i x hi => ?_, h.dfr, h.fr, h.g0, h.gfr, fun m v' E' β hm hv => ?_, h.bb, h.pbx⟩
  · obtain ⟨β, us, T, e1, e2, e3, e4, e5⟩ := h.mem.box d cs hd
    exact ⟨β, us, T, e1, e2, e3, e4, fun j c hc => let ⟨u, hu, hr⟩ := e5 j c hc; ⟨u, hu, hr.mono hle⟩⟩
  · rcases key m v' E' hm with ⟨_, rfl, rfl⟩ | ⟨_, hm⟩
    · exact hO
    · exact h.mem.own m v' E' hm
  · rcases key m v1 E1 hm with ⟨rfl, rfl, rfl⟩ | ⟨n1, hm1⟩ <;> rcases key m' v2 E2 hm' with ⟨rfl, rfl, rfl⟩ | ⟨n2, hm2⟩
    · rfl
    · exact absurd hv (hap m' v2 E2 β hm2 hv')
    · exact absurd hv' (hap m v1 E1 β hm1 hv)
    · exact h.mem.tkap m m' v1 v2 E1 E2 β hm1 hm2 hv hv'
  · rcases key m v' E' hm with ⟨rfl, rfl, rfl⟩ | ⟨n1, hm⟩
    · exact hbx d cs β hd hβ hv
    · exact h.mem.tkbx m v' E' β d cs hm hv hd hβ
  · obtain ⟨u, h1, h2⟩ := h.tm i x hi
    exact ⟨u, h1, h2.mono hle⟩
  · rcases key m v' E' hm with ⟨rfl, rfl, rfl⟩ | ⟨n1, hm⟩
    · exact htb β hv
    · exact h.tb m v' E' β hm hv
/-- Box d is forgotten, and pointers to it. -/
def St.drop (s : St) (d : Nat) : St := ⟨s.t.map (AV.nobox d), (s.b.map (Option.map (List.map (AV.nobox1 d)))).set d none⟩
theorem nobox_C {d : Nat} {x : AV} {v : Value} (h : RepC P g w x v) : RepC P (g.box d none) w (x.nobox1 d) v := by
  cases x with
  | box e o =>
    obtain ⟨β, hb, hv⟩ := h
    by_cases hed : e = d
    · subst hed
      simp only [AV.nobox1, beq_self_eq_true, cond_true]
      rw [hv]; rfl
    · have : (e == d) = false := by simpa using hed
      simp only [AV.nobox1, this, cond_false]
      exact ⟨β, by show (if e = d then none else g.bx e) = some β; rw [if_neg hed]; exact hb, hv⟩
  | _ => exact h
theorem nobox_T {d : Nat} {x : AV} {v : Value} (h : RepT P g w x v) : RepT P (g.box d none) w (x.nobox2 d) v := by
  cases x with
  | agg cs =>
    obtain ⟨vs, h1, h2, h3⟩ := h
    refine ⟨vs, h1, by simp [h2], fun j c hj => ?_⟩
    rw [List.getElem?_map] at hj
    obtain ⟨c0, hc0, rfl⟩ := Option.map_eq_some_iff.1 hj
    obtain ⟨u, hu, hr⟩ := h3 j c0 hc0
    exact ⟨u, hu, nobox_C hr⟩
  | box e o => exact (nobox_C (d := d) (show RepC P g w (.box e o) v from h)).T
  | dead => exact trivial
  | _ => exact h
theorem nobox_S {d : Nat} {x : AV} {v : Value} (h : RepS P g w x v) : RepS P (g.box d none) w (x.nobox d) v := by
  cases x with
  | tup cs =>
    obtain ⟨vs, h1, h2, h3⟩ := h
    refine ⟨vs, h1, by simp [h2], fun j c hj => ?_⟩
    rw [List.getElem?_map] at hj
    obtain ⟨c0, hc0, rfl⟩ := Option.map_eq_some_iff.1 hj
    obtain ⟨u, hu, hr⟩ := h3 j c0 hc0
    exact ⟨u, hu, nobox_T hr⟩
  | agg cs => exact (nobox_T (d := d) (show RepT P g w (.agg cs) v from h)).S
  | box e o => exact (nobox_C (d := d) (show RepC P g w (.box e o) v from h)).S
  | dead => exact trivial
  | _ => exact h
theorem Inv.drop (h : Inv P F g s a w) (d : Nat) (hd : F.np ≤ d) : Inv P F (g.box d none) (s.drop d) a w := by
  refine h.wk rfl (by simp [St.drop]) (by simp [St.drop]) (fun i x' hi => ?_) (fun e cs' he => ?_) id (fun n v hn => hn) (fun _ _ _ _ e => e) (fun i hi _ => by show (if i = d then none else g.bx i) = g.bx i; rw [if_neg (by omega)])
  · simp only [St.drop, List.getElem?_map] at hi
    obtain ⟨x, hx, rfl⟩ := Option.map_eq_some_iff.1 hi
    exact ⟨x, hx, fun v hv => nobox_S hv⟩
  · simp only [St.drop, List.getElem?_set, List.getElem?_map] at he
    split at he
    · split at he <;> cases he
    · rename_i hne
      obtain ⟨o, ho, he⟩ := Option.map_eq_some_iff.1 he
      obtain ⟨cs, rfl, rfl⟩ := Option.map_eq_some_iff.1 he
      refine ⟨cs, ho, by simp, by show (if e = d then none else g.bx e) = g.bx e; rw [if_neg (Ne.symm hne)], fun j c' hj => ?_⟩
      rw [List.getElem?_map] at hj
      obtain ⟨c, hc, rfl⟩ := Option.map_eq_some_iff.1 hj
      refine ⟨c, hc, fun T β u hu => ?_⟩
      by_cases hs : ∃ T', c = .self T'
      · obtain ⟨T', rfl⟩ := hs; exact hu
      · rw [RepB.eq (fun T' e => hs ⟨T', e⟩)] at hu
        exact RepB.of (nobox_C hu)
/-- A new box: its block has just been made. -/
theorem Inv.addBox (h : Inv P F g s a w) {d : Nat} (hd : F.np ≤ d) (hlt : d < s.t.length) (hb : s.b[d]? = some none) (hg : g.bx d = none) {w1 : World} {us : Array Value} {T : TypeId} (hw : Push w w1 (.cells us T (0, 0))) {cs : List AV} (hsz : us.size = cs.length)
    (hr : ∀ (j : Nat) c, cs[j]? = some c → ∃ u, us[j]? = some u ∧ RepB P g w T w.heap.size j c u) :
    Inv P F (g.box d (some w.heap.size)) ((s.setBox d cs).put (some d) (.box d 0)) (a.put (some d) (.pointer (some ⟨w.heap.size, 0, none⟩))) w1 := by
  have hle : g.Le (g.box d (some w.heap.size)) w w1 := ⟨fun β j hj => ⟨hj, hw.cell (h.mem.gsz β j hj)⟩, fun n v hv => hv, fun e β he => by
    show (if e = d then some w.heap.size else g.bx e) = some β
    rw [if_neg (by rintro rfl; rw [hg] at he; cases he)]; exact he⟩
  have hbl : d < s.b.length := by rw [h.blen]; exact hlt
  have hbx : ∀ e cs', (s.b.set d (some cs))[e]? = some (some cs') → (e = d ∧ cs' = cs) ∨ (e ≠ d ∧ s.b[e]? = some (some cs')) := fun e cs' he => by
    rw [List.getElem?_set] at he
    split at he
    · rename_i e1
      (try rw [if_pos hbl] at he)
      cases he
      exact .inl ⟨e1.symm, rfl⟩
    · rename_i e1; exact .inr ⟨Ne.symm e1, he⟩
  have hgd : (g.box d (some w.heap.size)).bx d = some w.heap.size := by show (if d = d then some w.heap.size else g.bx d) = _; rw [if_pos rfl]
  have hge : ∀ e, e ≠ d → (g.box d (some w.heap.size)).bx e = g.bx e := fun e he => by show (if e = d then some w.heap.size else g.bx e) = _; rw [if_neg he]
  have hbs : ∀ e cs' β, s.b[e]? = some (some cs') → g.bx e = some β → β < w.heap.size := fun e cs' β he hβ => by
    obtain ⟨β', us', T', e1, e2, _⟩ := h.mem.box e cs' he
    rw [hβ] at e1; cases e1
    exact (Array.getElem?_eq_some_iff.1 e2).1
  have hI : Inv P F (g.box d (some w.heap.size)) (s.setBox d cs) a w1 := by
    refine ⟨⟨fun β j hj => by have := h.mem.gsz β j hj; rw [hw.size]; omega, fun e cs' he => ?_, fun e e' β cs1 cs2 he he' hβ hβ' => ?_, fun n v E hn => ?_, h.mem.tkap, fun n v E β e cs' hn hv he hβ => ?_⟩, by simpa [St.setBox] using h.blen, h.len, fun i x hi => ?_, h.dfr, h.fr.trans (hw.fr F.T) (fun _ _ _ t => t) (fun _ _ _ t => t), h.g0, h.gfr, h.tb, fun e cs' β he hβ => ?_, fun i hi hn => ?_⟩
    · rcases hbx e cs' he with ⟨rfl, rfl⟩ | ⟨hne, he⟩
      · exact ⟨_, us, T, hgd, hw.new, hsz, fun j hj => by have := h.mem.gsz _ _ hj; omega, fun j c hc => let ⟨u, hu, hh⟩ := hr j c hc; ⟨u, hu, hh.mono hle⟩⟩
      · obtain ⟨β, us', T', e1, e2, e3, e4, e5⟩ := h.mem.box e cs' he
        exact ⟨β, us', T', (hge e hne).trans e1, (hw.old (Array.getElem?_eq_some_iff.1 e2).1).trans e2, e3, e4, fun j c hc => let ⟨u, hu, hh⟩ := e5 j c hc; ⟨u, hu, hh.mono hle⟩⟩
    · rcases hbx e cs1 he with ⟨rfl, rfl⟩ | ⟨hne, he1⟩ <;> rcases hbx e' cs2 he' with ⟨rfl, rfl⟩ | ⟨hne', he2⟩
      · rfl
      · rw [hgd] at hβ; cases hβ
        have := hbs e' cs2 _ he2 ((hge e' hne') ▸ hβ'); omega
      · rw [hgd] at hβ'; cases hβ'
        have := hbs e cs1 _ he1 ((hge e hne) ▸ hβ); omega
      · exact h.mem.apart e e' β cs1 cs2 he1 he2 ((hge e hne) ▸ hβ) ((hge e' hne') ▸ hβ')
    · exact (h.mem.own n v E hn).keep fun β hβ => ⟨hw.old ((h.mem.own n v E hn).lt hβ), fun j hj => hj⟩
    · rcases hbx e cs' he with ⟨rfl, rfl⟩ | ⟨hne, he⟩
      · rw [hgd] at hβ; cases hβ
        have := (h.mem.own n v E hn).lt hv; omega
      · exact h.mem.tkbx n v E β e cs' hn hv he ((hge e hne) ▸ hβ)
    · obtain ⟨v, h1, h2⟩ := h.tm i x hi
      exact ⟨v, h1, h2.mono hle⟩
    · rcases hbx e cs' he with ⟨rfl, rfl⟩ | ⟨hne, he⟩
      · rw [hgd] at hβ; cases hβ; exact .inl h.fr.size
      · exact h.bb e cs' β he ((hge e hne) ▸ hβ)
    · rw [hge i (by omega)]; exact h.pbx i hi hn
  exact hI.put (some d) (x := .box d 0) ⟨_, hgd, rfl⟩
/-- One block of cells is written. -/
structure Wr (w w1 : World) (β0 : Nat) (us' : Array Value) (T : TypeId) (fz : Nat × Nat) : Prop where
  other : ∀ β, β ≠ β0 → w1.heap[β]? = w.heap[β]?
  new : w1.heap[β0]? = some (.cells us' T fz)
  size : w1.heap.size = w.heap.size
  os : w1.os = w.os
  tape : w1.tape = w.tape
  output : w1.output = w.output
theorem Wr.setRow {w : World} {β0 : Nat} {us us' : Array Value} {T : TypeId} {fz : Nat × Nat} (h : w.heap[β0]? = some (.cells us T fz)) : Wr w (w.setRow β0 us') β0 us' T fz :=
  ⟨fun β hβ => setRow_other w β0 β us' hβ, setRow_heap w β0 us us' T fz h, by simp [World.setRow], rfl, rfl, rfl⟩
/-- Cells of a block that may be written: no box's, nobody else's to append to, none that stays. -/
theorem Inv.touch (h : Inv P F g s a w) {w1 : World} {β0 K : Nat} {us us' : Array Value} {T : TypeId} {fz : Nat × Nat} (h0 : w.heap[β0]? = some (.cells us T fz)) (hw : Wr w w1 β0 us' T fz)
    (hs : us'.size = us.size) (hG : ∀ j, g.G β0 j → us'[j]? = us[j]?) (htk : ∀ n v E, g.tk n = some (v, E) → v.ownBlock ≠ some β0) (hbx : ∀ d cs, s.b[d]? = some (some cs) → g.bx d ≠ some β0) (hT : β0 < F.w0.heap.size → F.TB β0) :
    Inv P F (g.more β0 K) s a w1 := by
  have hlt := (Array.getElem?_eq_some_iff.1 h0).1
  have hsame := hw.other
  have hnew := hw.new
  have hcell : ∀ β j, g.G β j → w1.cell? ⟨β, j, none⟩ = w.cell? ⟨β, j, none⟩ := fun β j hj => by
    by_cases e : β = β0
    · subst e
      simp [World.cell?, hnew, h0, hG j hj]
    · exact World.cell?_of_block (a := ⟨β, j, none⟩) (hsame β e)
  have hle : g.Le (g.more β0 K) w w1 := ⟨fun β j hj => ⟨.inl hj, hcell β j hj⟩, fun n v hv => hv, fun d β hd => hd⟩
  have hsz := hw.size
  refine ⟨⟨fun β j hj => ?_, fun d cs hd => ?_, h.mem.apart, fun n v E hn => ?_, h.mem.tkap, h.mem.tkbx⟩, h.blen, h.len, fun i x hi => ?_, h.dfr, h.fr.trans (T' := fun β j => β = β0 ∧ ¬ g.G β j) ⟨hw.os, hw.tape, hw.output, by omega, fun β o hβ => ?_⟩ (fun _ _ _ t => t) (fun β j hβ t => ?_), fun β j hj => .inl (h.g0 β j hj), fun β j hj hlt' => ?_, h.tb, h.bb, h.pbx⟩
  · rcases hj with hj | ⟨rfl, _⟩
    · have := h.mem.gsz β j hj; omega
    · omega
  · obtain ⟨β, us2, T2, e1, e2, e3, e4, e5⟩ := h.mem.box d cs hd
    have hne : β ≠ β0 := fun e => hbx d cs hd (e ▸ e1)
    refine ⟨β, us2, T2, e1, (hsame β hne).trans e2, e3, fun j hj => ?_, fun j c hc => let ⟨u, hu, hr⟩ := e5 j c hc; ⟨u, hu, hr.mono hle⟩⟩
    rcases hj with hj | ⟨rfl, _⟩
    · exact e4 j hj
    · exact hne rfl
  · exact (h.mem.own n v E hn).keep fun β hβ => by
      have hne : β ≠ β0 := fun e => htk n v E hn (e ▸ hβ)
      refine ⟨hsame β hne, fun j hj => ?_⟩
      rcases hj with hj | ⟨rfl, _⟩
      · exact hj
      · exact absurd rfl hne
  · obtain ⟨v, h1, h2⟩ := h.tm i x hi
    exact ⟨v, h1, h2.mono hle⟩
  · by_cases e : β = β0
    · subst e
      rw [h0] at hβ
      cases hβ
      refine .inr ⟨us, T, fz, us', fz, rfl, hnew, hs, fun j hj => ?_, fun _ => rfl⟩
      by_cases hg : g.G β j
      · exact hG j hg
      · exact absurd ⟨rfl, hg⟩ hj
    · exact .inl ((hsame β e).trans hβ)
  · obtain ⟨rfl, hg⟩ := t
    exact .inr ⟨hT hβ, fun hF => hg (h.g0 _ _ hF)⟩
  · rcases hj with hj | ⟨rfl, _⟩
    · exact h.gfr β j hj hlt'
    · exact .inr (hT hlt')
/-- Cells of a box are written. -/
theorem Inv.setBox (h : Inv P F g s a w) {d β0 : Nat} {w1 : World} {cs cs' : List AV} {us us' : Array Value} {T : TypeId} (hd : s.b[d]? = some (some cs)) (hβ : g.bx d = some β0) (h0 : w.heap[β0]? = some (.cells us T (0, 0))) (hw : Wr w w1 β0 us' T (0, 0))
    (hs : us'.size = us.size) (hl : cs'.length = cs.length) (hr : ∀ (j : Nat) c, cs'[j]? = some c → ∃ u, us'[j]? = some u ∧ RepB P g w T β0 j c u) :
    Inv P F g (s.setBox d cs') a w1 := by
  have hlt := (Array.getElem?_eq_some_iff.1 h0).1
  obtain ⟨β', us0, T0, b1, b2, b3, b4, b5⟩ := h.mem.box d cs hd
  rw [hβ] at b1
  cases b1
  rw [h0] at b2
  cases b2
  have hsame := hw.other
  have hnew := hw.new
  have hle : g.Le g w w1 := ⟨fun β j hj => ⟨hj, World.cell?_of_block (a := ⟨β, j, none⟩) (hsame β fun e => b4 j (e ▸ hj))⟩, fun n v hv => hv, fun d β hd => hd⟩
  have hsz := hw.size
  have hbl : d < s.b.length := (List.getElem?_eq_some_iff.1 hd).1
  have hbx : ∀ e c1, (s.b.set d (some cs'))[e]? = some (some c1) → (e = d ∧ c1 = cs') ∨ (e ≠ d ∧ s.b[e]? = some (some c1)) := fun e c1 he => by
    rw [List.getElem?_set] at he
    split at he
    · rename_i e1
      (try rw [if_pos hbl] at he)
      cases he
      exact .inl ⟨e1.symm, rfl⟩
    · rename_i e1; exact .inr ⟨Ne.symm e1, he⟩
  have hold : ∀ e c1, (s.b.set d (some cs'))[e]? = some (some c1) → ∃ c2, s.b[e]? = some (some c2) := fun e c1 he => by
    rcases hbx e c1 he with ⟨rfl, _⟩ | ⟨_, he⟩
    · exact ⟨cs, hd⟩
    · exact ⟨c1, he⟩
  refine ⟨⟨fun β j hj => by have := h.mem.gsz β j hj; omega, fun e c1 he => ?_, fun e e' β c1 c2 he he' hβ1 hβ2 => ?_, fun n v E hn => ?_, h.mem.tkap, fun n v E β e c1 hn hv he hβ1 => ?_⟩, by simpa [St.setBox] using h.blen, h.len, fun i x hi => ?_, h.dfr, h.fr.trans (T' := fun β j => β = β0) ⟨hw.os, hw.tape, hw.output, by omega, fun β o hbo => ?_⟩ (fun _ _ _ t => t) (fun β j hβ1 t => ?_), h.g0, h.gfr, h.tb, fun e c1 β he hβ1 => ?_, h.pbx⟩
  · rcases hbx e c1 he with ⟨rfl, rfl⟩ | ⟨hne, he⟩
    · exact ⟨β0, us', T, hβ, hnew, by rw [hs, b3, hl], b4, fun j c hc => let ⟨u, hu, hh⟩ := hr j c hc; ⟨u, hu, hh.mono hle⟩⟩
    · obtain ⟨β, us2, T2, e1, e2, e3, e4, e5⟩ := h.mem.box e c1 he
      have : β ≠ β0 := fun e0 => hne (h.mem.apart e d β0 c1 cs he hd (e0 ▸ e1) hβ)
      exact ⟨β, us2, T2, e1, (hsame β this).trans e2, e3, e4, fun j c hc => let ⟨u, hu, hh⟩ := e5 j c hc; ⟨u, hu, hh.mono hle⟩⟩
  · obtain ⟨c3, he⟩ := hold e c1 he
    obtain ⟨c4, he'⟩ := hold e' c2 he'
    exact h.mem.apart e e' β c3 c4 he he' hβ1 hβ2
  · exact (h.mem.own n v E hn).keep fun β hβ1 => ⟨hsame β fun e => h.mem.tkbx n v E β0 d cs hn (e ▸ hβ1) hd hβ, fun j hj => hj⟩
  · obtain ⟨c3, he⟩ := hold e c1 he
    exact h.mem.tkbx n v E β e c3 hn hv he hβ1
  · obtain ⟨v, h1, h2⟩ := h.tm i x hi
    exact ⟨v, h1, h2.mono hle⟩
  · by_cases e : β = β0
    · rw [e] at hbo ⊢
      rw [h0] at hbo
      cases hbo
      exact .inr ⟨us, T, (0, 0), us', (0, 0), rfl, hnew, hs, fun j hj => absurd rfl hj, fun _ => rfl⟩
    · exact .inl ((hsame β e).trans hbo)
  · subst t
    rcases h.bb d cs β hd hβ with hb | hb
    · omega
    · exact .inl hb
  · obtain ⟨c3, he⟩ := hold e c1 he
    exact h.bb e c3 β he hβ1
end
end Go.Proofs.YtckdgcpomkefpaaGreatDoor.En
