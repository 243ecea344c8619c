/- Part 2 of a proof: what it needs of the program's functions as plain Lean functions, with the proof that the machine's calls come to them, and of plain laws; put together out of smaller texts. No conditions besides those that each statement names. -/
import Derived.Test.YtckdgcpomkefpaaGreatDoorLa1
section
set_option linter.unusedVariables false
set_option linter.unusedSimpArgs false
namespace Go.Proofs.YtckdgcpomkefpaaGreatDoor.En
open Go
section
variable {P : Program} {F : Fx} {g : Gh} {s : St} {a : Act} {w : World}
theorem packC_flat {k : CK} {c : AV} {d : Dat} (h : packC k c = some d) (j : Nat) : d.at j = d := by
  cases k <;> cases c <;> simp only [packC] at h <;> first | cases h; done | skip
  all_goals (try (split at h <;> first | cases h; done | skip))
  all_goals (try (rename_i x; cases x <;> simp only [packC] at h <;> first | cases h; done | skip))
  all_goals (try (split at h <;> first | cases h; done | skip))
  all_goals first | (cases h; rfl) | skip
theorem packC_rep {k : CK} {c : AV} {d : Dat} {u : Value} (h : packC k c = some d) (hr : RepC P g w c u) : scal k d u ∧ ∀ E', k = .row E' → RepRow P g.G w E' d.toL u := by
  unfold packC at h
  split at h
  · split at h
    · rename_i e; subst e; cases h; obtain ⟨rfl, _⟩ := hr; exact ⟨rfl, fun E' e => by cases e⟩
    · cases h
  · cases h; obtain ⟨rfl, _⟩ := hr; exact ⟨rfl, fun E' e => by cases e⟩
  · cases h; obtain ⟨rfl, _⟩ := hr; exact ⟨rfl, fun E' e => by cases e⟩
  · split at h
    · rename_i e; subst e; cases h; exact ⟨trivial, fun E' e => by cases e; exact hr.1⟩
    · cases h
  · cases h; obtain ⟨rfl, _⟩ := hr; exact ⟨trivial, fun E' e => .nil _ _ _⟩
  · cases h
theorem packL_get : ∀ (ks : List CK) (cs : List AV) (l : List Dat), packL ks cs = some l → cs.length = ks.length ∧ l.length = ks.length ∧ ∀ (j : Nat) k c, ks[j]? = some k → cs[j]? = some c → ∃ d, l[j]? = some d ∧ packC k c = some d
  | [], [], l, h => by cases h; exact ⟨rfl, rfl, fun j k c h => by simp at h⟩
  | k :: ks, c :: cs, l, h => by
    simp only [packL] at h
    obtain ⟨d, h1, h⟩ := Option.bind_eq_some_iff.1 h
    obtain ⟨l', h2, h⟩ := Option.bind_eq_some_iff.1 h
    cases h
    obtain ⟨e1, e2, e3⟩ := packL_get ks cs l' h2
    refine ⟨by simp [e1], by simp [e2], fun j k' c' hk hc => ?_⟩
    cases j with
    | zero => simp at hk hc; subst hk hc; exact ⟨d, rfl, h1⟩
    | succ j => simpa using e3 j k' c' (by simpa using hk) (by simpa using hc)
  | [], _ :: _, l, h => by cases h
  | _ :: _, [], l, h => by cases h
theorem pack_get {ks : List CK} {X : AV} {d : Dat} (h : pack ks X = some d) : X.cells.length = ks.length ∧ ∀ (j : Nat) k c, ks[j]? = some k → X.cells[j]? = some c → packC k c = some (d.at j) := by
  by_cases ha : ∃ cs, X = .agg cs
  · obtain ⟨cs, rfl⟩ := ha
    simp only [pack] at h
    obtain ⟨l, h1, h⟩ := Option.bind_eq_some_iff.1 h
    cases h
    obtain ⟨e1, e2, e3⟩ := packL_get ks cs l h1
    refine ⟨e1, fun j k c hk hc => ?_⟩
    obtain ⟨d, h2, h3⟩ := e3 j k c hk hc
    rw [h3]
    simp [Dat.at, List.getD_eq_getElem?_getD, h2]
  · have hc : X.cells = [X] := by cases X <;> first | rfl | exact absurd ⟨_, rfl⟩ ha
    unfold pack at h
    split at h
    · exact absurd ⟨_, rfl⟩ ha
    · split at h
      · rename_i k
        rw [hc]
        refine ⟨rfl, fun j k' c hk hcc => ?_⟩
        cases j with
        | succ j => simp at hk
        | zero => simp at hk hcc; subst hk hcc; rw [packC_flat h]; exact h
      · cases h
theorem parts_sound {ks : List CK} : ∀ (ps : List (Nat × AV)) (vs : List (Nat × Value)) (n : Nat) (l : List Dat) (us : Array Value),
    partsF ks ps n = some l → (∀ p ∈ ps, p.2.cells.all AV.one = true) → ps.length = vs.length → (∀ (i : Nat) m x, ps[i]? = some (m, x) → ∃ v, vs[i]? = some (m, v) ∧ RepS P g w x v) → (n + l.length) * ks.length ≤ us.size →
    l.length = ps.length ∧ ∃ us', Instr.fill (fun i => some (i * ks.length, ks.length)) us vs = some us' ∧ us'.size = us.size ∧ (∀ q, q < n * ks.length → us'[q]? = us[q]?) ∧
      ∀ (i j : Nat) k d, l[i]? = some d → ks[j]? = some k → ∃ u, us'[(n + i) * ks.length + j]? = some u ∧ u.oneCell' = true ∧ scal k (d.at j) u ∧ ∀ E', k = .row E' → RepRow P g.G w E' (d.at j).toL u
  | [], vs, n, l, us, h, ho, hl, hp, hs => by
    cases h
    have : vs = [] := List.eq_nil_of_length_eq_zero (by simpa using hl.symm)
    subst this
    exact ⟨rfl, us, rfl, rfl, fun _ _ => rfl, fun i j k d h => by simp at h⟩
  | (i, x) :: ps, vs, n, l, us, h, ho, hl, hp, hs => by
    simp only [partsF] at h
    cases hin : (i == n) <;> rw [hin] at h
    · cases h
    simp only [cond_true] at h
    have hin : i = n := by simpa using hin
    subst hin
    obtain ⟨d, h1, h⟩ := Option.bind_eq_some_iff.1 h
    obtain ⟨l', h2, h⟩ := Option.bind_eq_some_iff.1 h
    cases h
    cases vs with
    | nil => simp at hl
    | cons v0 vs =>
    obtain ⟨v, hv, hx⟩ := hp 0 i x rfl
    simp at hv
    subst hv
    obtain ⟨p1, p2⟩ := pack_get h1
    obtain ⟨c1, c2⟩ := cells_rep hx (ho (i, x) (by simp))
    have hsz : v.cells.size = ks.length := by rw [c1, p1]
    have hle : i * ks.length + ks.length ≤ us.size := by
      refine Nat.le_trans ?_ hs
      rw [← Nat.succ_mul]
      exact Nat.mul_le_mul_right _ (by simp)
    have hz : ∀ off, v.cells.zipIdx.foldl (fun cs (c, j) => cs.setIfInBounds (off + j) c) us = (v.cells.toList.zipIdx 0).foldl (fun cs (c, j) => cs.setIfInBounds (off + j) c) us := fun off => by
      rw [← Array.foldl_toList, Array.toList_zipIdx]
    have hfs := foldl_set v.cells.toList 0 (i * ks.length) us (by simp [hsz]; omega)
    obtain ⟨e0, us', e1, e2, e3, e4⟩ := parts_sound ps vs (i + 1) l' (v.cells.zipIdx.foldl (fun cs (c, j) => cs.setIfInBounds (i * ks.length + j) c) us) h2 (fun p hp => ho p (by simp [hp])) (by simpa using hl) (fun q m y hq => by simpa using hp (q + 1) m y (by simpa using hq)) (by
      rw [hz, size_foldl_set]
      have : i + 1 + l'.length = i + (d :: l').length := by simp; omega
      rw [this]; exact hs)
    refine ⟨by simp [e0], us', ?_, by rw [e2, hz, size_foldl_set], fun q hq => ?_, fun q j k d' hd hk => ?_⟩
    · simp only [Instr.fill]
      rw [if_neg (by simp [hsz]; omega)]
      exact e1
    · rw [e3 q (Nat.lt_of_lt_of_le hq (Nat.mul_le_mul_right _ (by omega))), hz, hfs q, if_neg (by omega)]
    · have hj := (List.getElem?_eq_some_iff.1 hk).1
      cases q with
      | succ q =>
        have := e4 q j k d' (by simpa using hd) hk
        rw [show i + 1 + q = i + (q + 1) by omega] at this
        exact this
      | zero =>
        simp at hd
        subst hd
        obtain ⟨u, hu, hr⟩ := c2 j (x.cells[j]'(by omega)) (List.getElem?_eq_getElem (by omega))
        refine ⟨u, ?_, hr.one, packC_rep (p2 j k _ hk (List.getElem?_eq_getElem (by omega))) hr⟩
        rw [Nat.add_zero, e3 _ (by rw [Nat.add_mul]; omega), hz, hfs, if_pos (by simp [hsz]; omega)]
        simpa using hu
theorem bslice_sound (h : Inv P F g s a w) {T E : TypeId} {n d : Nat} {ps : Array (Nat × Operand)} {ks : List CK} {l : List Dat} (hE : elemT P T = some E) (hks : kinds P E = some ks) (hl : partsF ks (ps.toList.map fun (i, x) => (i, s.ev x)) 0 = some l) (hn : l.length = n)
    (hz : szT P E = some ks.length) (hzc : (zeroCells P E).isSome = true) (hbig : n * ks.length ≤ 16777216) (hp0 : 0 < ks.length) (hone : ps.toList.all (fun p => (s.ev p.2).cells.all AV.one) = true) (hd : d < s.t.length)
    (hk : ∀ i x, (i, x) ∈ ps.toList → RepS P g w (s.ev x) (a.eval x)) :
    ∃ v w', (Instr.buildSlice T n (ps.map fun (i, x) => (i, a.eval x))).run P w = .ok v w' ∧ (∃ g', Inv P F g' ((s.kill d).put (some d) (.row (some d) E l)) (a.put (some d) v) w') ∧
      ∃ g', Inv P F g' (s.put (some d) (.row none E l)) (a.put (some d) v) w' := by
  have hE' := elemT_eq hE
  obtain ⟨z, hz'⟩ := Option.isSome_iff_exists.1 hzc
  obtain ⟨zv, hzr, hzs, hz1⟩ := zero_rep (P := P) (w := w) hz'
  obtain ⟨m, hm, hms⟩ := runs_sizeOf (P := P) (w := w) hz
  subst hms
  have hk1 := h.kills (killF_kills d)
  have hd0 : (g.kills (killF d)).tk d = none := kills_tk (killF_kills d) (killF_self d)
  -- the cells, zero at first
  obtain ⟨z0, hz0⟩ : ∃ z0 : Array Value, z0 = if n * ks.length = 0 then #[] else zv.cells := ⟨_, rfl⟩
  obtain ⟨p0, us', p1, p2, p3, p4⟩ := parts_sound (g := g) (w := w) (ps.toList.map fun (i, x) => (i, s.ev x)) (ps.map fun (i, x) => (i, a.eval x)).toList 0 l ((Array.range (n * ks.length)).map (z0[· % z0.size]!)) hl (fun p hp => by
    obtain ⟨⟨qi, qx⟩, hq, rfl⟩ := List.mem_map.1 hp
    exact List.all_eq_true.1 hone (qi, qx) hq) (by simp) (fun i m x hi => by
    rw [List.getElem?_map] at hi
    obtain ⟨⟨q, y⟩, hq, he⟩ := Option.map_eq_some_iff.1 hi
    cases he
    exact ⟨a.eval y, by simp at hq ⊢; exact ⟨_, _, hq, rfl, rfl⟩, hk _ y (List.mem_of_getElem? hq)⟩) (by simp [hn])
  have hsz : us'.size = n * ks.length := by rw [p2]; simp
  have hL : RepL P g.G w ks l us'.toList := by
    refine ⟨by simp [hsz, hn], fun u hu => ?_, fun i j k dd hdd hkk => ?_⟩
    · obtain ⟨q, hq, rfl⟩ := List.mem_iff_getElem.1 hu
      have hq' : q < n * ks.length := by rw [← hsz]; simpa using hq
      have a1 : q / ks.length < l.length := by rw [hn]; exact (Nat.div_lt_iff_lt_mul hp0).2 hq'
      have a2 := Nat.mod_lt q hp0
      have a3 : q / ks.length * ks.length + q % ks.length = q := by rw [Nat.mul_comm]; exact Nat.div_add_mod q ks.length
      obtain ⟨u, h1, h2, _⟩ := p4 _ _ _ _ (List.getElem?_eq_getElem a1) (List.getElem?_eq_getElem a2)
      rw [Nat.zero_add, a3] at h1
      have : us'[q]? = some us'.toList[q] := by rw [← Array.getElem?_toList]; exact List.getElem?_eq_getElem hq
      rw [this] at h1
      cases h1
      exact h2
    · obtain ⟨u, h1, h2, h3, h4⟩ := p4 i j k dd hdd hkk
      rw [Nat.zero_add] at h1
      exact ⟨u, by simpa using h1, h3, h4⟩
  have hw := Push.alloc w (.cells us' E (0, 0))
  have hf := hk1.fresh hw (n * ks.length)
  have hnew := hw.new
  have hcell : ∀ (q : Nat) u, us'.toList[q]? = some u → q < n * ks.length ∧ (w.alloc (.cells us' E (0, 0))).cell? ⟨w.heap.size, 0 + q, none⟩ = some u := fun q u hq => by
    have hq' := (List.getElem?_eq_some_iff.1 hq).1
    refine ⟨by rw [← hsz]; simpa using hq', ?_⟩
    unfold World.cell?
    dsimp only
    rw [hnew]
    simpa using hq
  have hrun : (Instr.buildSlice T n (ps.map fun (i, x) => (i, a.eval x))).run P w = .ok (.slice (some ⟨w.heap.size, 0, none⟩) n n) (w.alloc (.cells us' E (0, 0))) := by
    have hb : ¬ (n * ks.length > 2 ^ 24) := by omega
    simp only [Instr.buildSlice, Sem.run_bind, run_underlying hE', Result.andThen_ok, hm, if_neg hb]
    by_cases e : n * ks.length = 0
    · rw [if_pos e] at hz0 ⊢
      subst hz0
      simp only [Sem.run_bind, Sem.run_pure, Result.andThen_ok]
      rw [p1]
      simp [newRow]
    · rw [if_neg e] at hz0 ⊢
      subst hz0
      simp only [Sem.run_bind, hzr, Result.andThen_ok, Sem.run_pure]
      rw [p1]
      simp [newRow]
  have hOwn : Own P ((g.kills (killF d)).more w.heap.size (n * ks.length)) (w.alloc (.cells us' E (0, 0))) (.slice (some ⟨w.heap.size, 0, none⟩) n n) E := by
    refine .inr ⟨w.heap.size, n, n, us', ks, (0, 0), rfl, hnew, hks, Nat.le_refl _, ?_, hsz, fun j hj hg => ?_, fzOk0 _⟩
    · have : n ≤ n * ks.length := Nat.le_mul_of_pos_right _ hp0
      unfold maxLen; omega
    · rcases hg with hg | ⟨_, hg⟩
      · have := h.mem.gsz _ _ hg; omega
      · omega
  have hI := hf.addTok (n := d) (v := .slice (some ⟨w.heap.size, 0, none⟩) n n) (E := E) hd0 hOwn (fun m v' E' b hm hv' hb => by
    cases hb
    exact Nat.lt_irrefl _ ((hk1.mem.own m v' E' hm).lt hv')) (fun e cs b he hb hvb' => by
    cases hvb'
    obtain ⟨β', us0, T0, b1, b2, _⟩ := hk1.mem.box e cs he
    have hb' : (g.kills (killF d)).bx e = some w.heap.size := hb
    rw [hb'] at b1
    cases b1
    exact Nat.lt_irrefl _ (Array.getElem?_eq_some_iff.1 b2).1) (fun b hb => by
    cases hb
    exact .inl h.fr.size)
  have hGm : ∀ b j, g.G b j → ((g.kills (killF d)).more w.heap.size (n * ks.length)).G b j ∧ (w.alloc (.cells us' E (0, 0))).cell? ⟨b, j, none⟩ = w.cell? ⟨b, j, none⟩ := fun b j hj =>
    ⟨.inl hj, hw.cell (h.mem.gsz b j hj)⟩
  have hrow := RepL.row (G := (((g.kills (killF d)).more w.heap.size (n * ks.length)).tok d (.slice (some ⟨w.heap.size, 0, none⟩) n n) E).G) (w := w.alloc (.cells us' E (0, 0))) (β := w.heap.size) (off := 0) (cap := n) (hL.mono hGm) hks (by omega) (fun q u hq => by
    obtain ⟨c1, c2⟩ := hcell q u hq
    exact ⟨.inr ⟨rfl, by omega⟩, c2⟩)
  rw [hn] at hrow
  refine ⟨_, _, hrun, ⟨_, hI.put (some d) (x := .row (some d) E l) ⟨hrow, fun m hm => ?_⟩⟩, ⟨_, (h.fresh hw (n * ks.length)).put (some d) (x := .row none E l) ⟨hrow, fun m hm => by cases hm⟩⟩⟩
  cases hm
  show (if d = d then _ else _) = _
  rw [if_pos rfl]
theorem run_s2b {src dst E : TypeId} (str : ByteArray) (h1 : P.underlying src = some .string) (h2 : P.underlying dst = some (.slice E)) (h3 : P.underlying E = some (.int .u8)) (hb : str.size ≤ fitsN) :
    ∃ (w1 : World) (us : Array Value) (cap : Nat), (convert src dst (.string str)).run P w = .ok (.slice (some ⟨w.heap.size, 0, none⟩) str.size cap) w1 ∧ Push w w1 (.cells us E (us.size, us.size + 1)) ∧ str.size ≤ cap ∧ us.size = cap ∧ cap ≤ maxLen ∧
      ∀ (q : Nat) b, str.data[q]? = some b → us[q]? = some (.int .u8 b.toNat) := by
  obtain ⟨cap, hcap⟩ : ∃ cap, cap = grownCap w str.size 0 E := ⟨_, rfl⟩
  have hge : str.size ≤ cap := hcap ▸ grownCap_ge _ _ _ _
  obtain ⟨us, hus⟩ : ∃ us : Array Value, us = str.data.map (fun b => Value.int .u8 b.toNat) ++ Array.replicate (cap - str.size) (.int .u8 0) := ⟨_, rfl⟩
  have hw := Push.drew w (.cells us E (0, 0))
  have hsh : (w.drew.alloc (.cells us E (0, 0))).shape? w.heap.size = some (E, us.size) := by
    unfold World.shape?; rw [hw.new]
  refine ⟨(w.drew.alloc (.cells us E (0, 0))).freeze ⟨w.heap.size, us.size, none⟩ 1, us, cap, ?_, ?_, hge, by rw [hus]; simp; omega, hcap ▸ grownCap_le_maxLen _ _ _ _ (by unfold maxLen; unfold fitsN at hb; omega), fun q b hq => ?_⟩
  · simp only [convert, Sem.run_bind, run_underlying h1, run_underlying h2, run_underlying h3, Result.andThen_ok, Conv.stringToBytes]
    have hc : (choose (.appendCap str.size 0 E)).run P w = .ok cap w.drew := by
      simp only [choose, Sem.run, Question.forced, Bool.false_eq_true, if_false]
      rw [show (Question.appendCap str.size 0 E).cut (w.tape w.drawn (Question.appendCap str.size 0 E)) = cap from hcap.symm]
      rfl
    simp only [hc, Result.andThen_ok, newRow, Sem.run_bind]
    rw [← hus]
    have hn : (newObj (.cells us E (0, 0))).run P w.drew = .ok w.heap.size (w.drew.alloc (.cells us E (0, 0))) := rfl
    simp only [hn, Result.andThen_ok, Sem.run_pure, markStringish, Sem.run_bind]
    have hs2 : (shape w.heap.size).run P (w.drew.alloc (.cells us E (0, 0))) = .ok (some (E, us.size)) (w.drew.alloc (.cells us E (0, 0))) := by
      show Result.ok ((w.drew.alloc (.cells us E (0, 0))).shape? w.heap.size) _ = _
      rw [hsh]
    simp only [hs2, Result.andThen_ok]
    rfl
  · refine ⟨?_, rfl, rfl, rfl⟩
    apply Array.ext_getElem?
    intro i
    show ((if (1 : Nat) = 0 then _ else _ : World)).heap[i]? = _
    rw [if_neg (by decide)]
    simp only [Array.getElem?_modify, Array.getElem?_push]
    have hh : (w.drew.alloc (.cells us E (0, 0))).heap = w.heap.push (.cells us E (0, 0)) := rfl
    rw [hh, Array.getElem?_push]
    by_cases e : w.heap.size = i
    · subst e
      simp
    · rw [if_neg e, if_neg (fun h => e h.symm), if_neg (fun h => e h.symm)]
  · have hlt := (Array.getElem?_eq_some_iff.1 hq).1
    rw [hus, Array.getElem?_append_left (by simpa using hlt), Array.getElem?_map, hq]
    rfl
theorem Inv.mark (h : Inv P F g s a w) {n : Nat} {v : Value} {E : TypeId} (hu8 : E = u8Id) (ht : g.tk n = some (v, E)) {β : Nat} {us : Array Value} {T0 : TypeId} {fz fz' : Nat × Nat} (hv : v.ownBlock = some β) (h0 : w.heap[β]? = some (.cells us T0 fz)) {w1 : World} (hw : Wr w w1 β us T0 fz') (hz : fzOk fz' us.size) : Inv P F g s a w1 := by
  have hcell : ∀ b j, w1.cell? ⟨b, j, none⟩ = w.cell? ⟨b, j, none⟩ := fun b j => by
    by_cases e : b = β
    · subst e; simp [World.cell?, h0, hw.new]
    · exact World.cell?_of_block (a := ⟨b, j, none⟩) (hw.other b e)
  have hle : g.Le g w w1 := ⟨fun b j hj => ⟨hj, hcell b j⟩, fun m v hm => hm, fun d b hd => hd⟩
  obtain ⟨j0, hj0⟩ : ∃ j, ¬ g.G β j := by
    rcases h.mem.own n v E ht with e | ⟨b, k, cap, us', ks, fz0, rfl, e2, e3, e4, e5, e6, e7, e8⟩
    · subst e; cases hv
    · cases hv; exact ⟨_, e7 _ (Nat.le_refl _)⟩
  have hT0 : T0 = u8Id := by
    rcases h.mem.own n v E ht with e | ⟨b, k, cap, us', ks, fz0, rfl, e2, e3, e4, e5, e6, e7, e8⟩
    · subst e; cases hv
    · cases hv
      rw [h0] at e2
      cases e2
      exact hu8
  have hfr : Fr (fun b j => b = β ∧ ¬ g.G b j) w w1 := by
    refine ⟨hw.os, hw.tape, hw.output, Nat.le_of_eq hw.size.symm, fun b o ho => ?_⟩
    by_cases e : b = β
    · subst e
      rw [h0] at ho
      cases ho
      exact .inr ⟨us, T0, fz, us, fz', rfl, hw.new, rfl, fun _ _ => rfl, .inr ⟨⟨j0, rfl, hj0⟩, hT0⟩, fun _ _ q => .inl q⟩
    · exact .inl ((hw.other b e).trans ho)
  refine ⟨⟨fun b j hj => by rw [hw.size]; exact h.mem.gsz b j hj, fun d cs hd => ?_, h.mem.apart, fun m v' E' hm => ?_, h.mem.tkap, h.mem.tkbx, fun d cs β hd hβ => (h.mem.ty d cs β hd hβ).mono hfr⟩, h.blen, h.len, fun i x hi => ?_, h.dfr, h.fr.trans hfr (fun _ _ _ t => t) (fun b j hlt t => ?_), h.g0, h.gfr, h.tb, h.bb, h.pbx⟩
  · obtain ⟨b, us', T, e1, e2, e3, e4, e5⟩ := h.mem.box d cs hd
    exact ⟨b, us', T, e1, (hw.other b fun e => h.mem.tkbx n v E b d cs ht (e ▸ hv) hd e1).trans e2, e3, e4, fun j c hc => let ⟨u, hu, hr⟩ := e5 j c hc; ⟨u, hu, hr.mono hle⟩⟩
  · rcases h.mem.own m v' E' hm with e | ⟨b, k, cap, us', ks, fz0, rfl, e2, e3, e4, e5, e6, e7, e8⟩
    · exact .inl e
    · by_cases e : b = β
      · subst e
        rw [h0] at e2
        cases e2
        exact .inr ⟨b, k, cap, us, ks, fz', rfl, hw.new, e3, e4, e5, e6, e7, hz⟩
      · exact .inr ⟨b, k, cap, us', ks, fz0, rfl, (hw.other b e).trans e2, e3, e4, e5, e6, e7, e8⟩
  · obtain ⟨u, h1, h2⟩ := h.tm i x hi
    exact ⟨u, h1, h2.mono hle⟩
  · obtain ⟨rfl, hng⟩ := t
    exact .inr ⟨(h.tb n v E b ht hv).resolve_left (by omega), fun hG => hng (h.g0 b j hG)⟩
theorem mark_sound (h : Inv P F g s a w) {src dst E : TypeId} {n : Nat} {l : List Dat} {v : Value} (hs : src = dst) (hu : u8T P dst E = true) (hl : 0 < l.length) (hv : RepC P g w (.row (some n) E l) v) :
    ∃ w1, (convert src dst v).run P w = .ok v w1 ∧ Inv P F g s a w1 := by
  subst hs
  obtain ⟨hrow, htk⟩ := hv
  have ht := htk n rfl
  obtain ⟨E', h2, h3, hu8⟩ : ∃ E', P.underlying src = some (.slice E') ∧ P.underlying E' = some (.int .u8) ∧ E = u8Id := by
    unfold u8T at hu
    split at hu
    · rename_i E' hE
      rw [Bool.and_eq_true, Bool.and_eq_true] at hu
      have e : E' = E := by simpa using hu.1
      subst e
      refine ⟨E', hE, ?_, Nat.eq_of_beq_eq_true hu.2.1⟩
      have := hu.2.2
      split at this
      · rename_i e; exact e
      · cases this
    · cases hu
  rcases h.mem.own n v E ht with e | ⟨β, k, cap, us, ks, fz, rfl, e2, e3, e4, e5, e6, e7, e8⟩
  · obtain ⟨A, c, hsl⟩ := hrow.slice
    rw [e] at hsl
    injection hsl with _ hz _
    omega
  · refine ⟨w.freeze ⟨β, us.size, none⟩ 1, ?_, h.mark hu8 ht (β := β) rfl e2 (fz' := if fz.1 == fz.2 then (us.size, us.size + 1) else (min fz.1 us.size, max fz.2 (us.size + 1))) ⟨fun b hb => ?_, ?_, ?_, rfl, rfl, rfl⟩ ?_⟩
    · have hsh : (shape β).run P w = .ok (some (E, us.size)) w := by
        show Result.ok (w.shape? β) _ = _
        unfold World.shape?; rw [e2]
      simp only [convert, Sem.run_bind, run_underlying h2, run_underlying h3, Result.andThen_ok, markStringish, hsh, beq_self_eq_true]
      rfl
    · show (w.heap.modify β _)[b]? = w.heap[b]?
      rw [Array.getElem?_modify, if_neg (fun e => hb e.symm)]
    · show (w.heap.modify β _)[β]? = _
      rw [Array.getElem?_modify, if_pos rfl, e2]
      rfl
    · show (w.heap.modify β _).size = w.heap.size
      simp
    · cases hf : (fz.1 == fz.2)
      · have hne : ¬ fz.1 = fz.2 := by simpa using hf
        rcases e8 with e | e
        · exact absurd e hne
        · exact .inr (by simp; omega)
      · exact .inr (by simp)
theorem s2b_sound (h : Inv P F g s a w) {src dst E : TypeId} (str : ByteArray) (h1 : P.underlying src = some .string) (h2 : P.underlying dst = some (.slice E)) (h3 : P.underlying E = some (.int .u8)) (hb : str.size ≤ fitsN) (d : Nat) :
    ∃ v w', (convert src dst (.string str)).run P w = .ok v w' ∧ (∃ g', Inv P F g' ((s.kill d).put (some d) (.row (some d) E (bytesTo str))) (a.put (some d) v) w') ∧
      ∃ g', Inv P F g' (s.put (some d) (.row none E (bytesTo str))) (a.put (some d) v) w' := by
  obtain ⟨w1, us, cap, q1, q2, q3, q5, q6, q4⟩ := run_s2b (P := P) (w := w) (src := src) (dst := dst) str h1 h2 h3 hb
  have hk1 := h.kills (killF_kills d)
  have hd0 : (g.kills (killF d)).tk d = none := kills_tk (killF_kills d) (killF_self d)
  have hf := hk1.fresh q2 str.size
  have hOwn : Own P ((g.kills (killF d)).more w.heap.size str.size) w1 (.slice (some ⟨w.heap.size, 0, none⟩) str.size cap) E := by
    refine .inr ⟨w.heap.size, str.size, cap, us, [.int .u8], _, rfl, q2.new, kinds_byte h3, q3, q6, by simpa using q5, fun j hj hg => ?_, .inr (Nat.le_refl _)⟩
    rcases hg with hg | ⟨_, hg⟩
    · have := h.mem.gsz _ _ hg; omega
    · simp at hj; omega
  have hI := hf.addTok (n := d) (v := .slice (some ⟨w.heap.size, 0, none⟩) str.size cap) (E := E) hd0 hOwn (fun m v' E' b hm hv' hb => by
    cases hb
    exact Nat.lt_irrefl _ ((hk1.mem.own m v' E' hm).lt hv')) (fun e cs b he hb hvb' => by
    cases hvb'
    obtain ⟨β', us0, T0, b1, b2, _⟩ := hk1.mem.box e cs he
    have hb' : (g.kills (killF d)).bx e = some w.heap.size := hb
    rw [hb'] at b1
    cases b1
    exact Nat.lt_irrefl _ (Array.getElem?_eq_some_iff.1 b2).1) (fun b hb => by
    cases hb
    exact .inl h.fr.size)
  have hrow : ∀ G : Nat → Nat → Prop, (∀ j, j < str.size → G w.heap.size j) → RepRow P G w1 E (bytesTo str) (.slice (some ⟨w.heap.size, 0, none⟩) str.size cap) := fun G hG => by
    have hL : RepL P G w1 [.int .u8] (bytesTo str) (str.data.toList.map fun b => Value.int .u8 b.toNat) := by
      refine ⟨by simp [bytesTo], fun u hu => ?_, fun i j k dd hd hkk => ?_⟩
      · obtain ⟨b, _, rfl⟩ := List.mem_map.1 hu
        rfl
      · cases j with
        | succ j => simp at hkk
        | zero =>
          simp at hkk
          subst hkk
          simp only [bytesTo, List.getElem?_map] at hd
          obtain ⟨b, hb, rfl⟩ := Option.map_eq_some_iff.1 hd
          exact ⟨.int .u8 b.toNat, by simp [hb], rfl, fun E' hE => by cases hE⟩
    have := hL.row (kinds_byte h3) (β := w.heap.size) (off := 0) (cap := cap) (by simpa [bytesTo] using q3) (fun q u hq => by
      rw [List.getElem?_map] at hq
      obtain ⟨b, hb, rfl⟩ := Option.map_eq_some_iff.1 hq
      rw [Array.getElem?_toList] at hb
      have hlt := (Array.getElem?_eq_some_iff.1 hb).1
      refine ⟨hG _ (by rw [Nat.zero_add]; exact hlt), ?_⟩
      unfold World.cell?
      dsimp only
      rw [q2.new]
      simpa using q4 q b hb)
    have e : (bytesTo str).length = str.size := by simp [bytesTo]
    rw [e] at this
    exact this
  refine ⟨_, w1, q1, ⟨_, hI.put (some d) (x := .row (some d) E (bytesTo str)) ⟨hrow _ fun j hj => .inr ⟨rfl, hj⟩, fun m hm => ?_⟩⟩, ⟨_, (h.fresh q2 str.size).put (some d) (x := .row none E (bytesTo str)) ⟨hrow _ fun j hj => .inr ⟨rfl, hj⟩, fun m hm => by cases hm⟩⟩⟩
  cases hm
  show (if d = d then _ else _) = _
  rw [if_pos rfl]
end
end Go.Proofs.YtckdgcpomkefpaaGreatDoor.En
end
section
set_option linter.unusedVariables false
set_option linter.unusedSimpArgs false
namespace Go.Proofs.YtckdgcpomkefpaaGreatDoor.En
open Go
section
variable {P : Program} {F : Fx} {g : Gh} {s : St} {a : Act} {w : World}
def TBof (g : Gh) (β : Nat) : Prop := ∃ n y E, g.tk n = some (y, E) ∧ y.ownBlock = some β
def BBof (g : Gh) (bs : Bx) (β : Nat) : Prop := ∃ i cs, bs[i]? = some (some cs) ∧ g.bx i = some β
def TTof (g : Gh) (bs : Bx) (β j : Nat) : Prop := BBof g bs β ∨ (TBof g β ∧ ¬ g.G β j)
def OutV : AV → Prop
  | .box _ _ => False
  | .fn _ _ _ => False
  | .tup vs => (∀ (j : Nat) d o, vs[j]? ≠ some (.box d o)) ∧ (∀ (j : Nat) f a b, vs[j]? ≠ some (.fn f a b)) ∧ (∀ (j : Nat) cs, vs[j]? = some (.agg cs) → ∀ (i : Nat) c, cs[i]? = some c → c.bare = c) ∧
      ∀ (j j' m : Nat) E l E' l', vs[j]? = some (.row (some m) E l) → vs[j']? = some (.row (some m) E' l') → j = j'
  | .agg cs => (∀ (j : Nat) d o, cs[j]? ≠ some (.box d o)) ∧ (∀ (j : Nat) f a b, cs[j]? ≠ some (.fn f a b)) ∧
      ∀ (j j' m : Nat) E l E' l', cs[j]? = some (.row (some m) E l) → cs[j']? = some (.row (some m) E' l') → j = j'
  | _ => True
def tokLt (bs : Bx) : AV → Prop
  | .row (some m) _ _ => m < 1024
  | .tup vs => ∀ (j m : Nat) E l, vs[j]? = some (.row (some m) E l) → m < 1024
  | .agg vs => ∀ (j m : Nat) E l, vs[j]? = some (.row (some m) E l) → m < 1024 ∨ ∀ c, bs[m / 1024 - 1]? ≠ some (some c)
  | _ => True
structure CallPost (P : Program) (g : Gh) (w : World) (bs : Bx) (v : AV) (bs' : Bx) (x : Value) (g' : Gh) (w' : World) : Prop where
  mem : Mem P g' w' bs'
  len : bs'.length = bs.length
  some_ : ∀ (i : Nat) cs', bs'[i]? = some (some cs') → ∃ cs, bs[i]? = some (some cs)
  rep : RepS P g' w' v x
  fr : Fr (TTof g bs) w w'
  g0 : ∀ β j, g.G β j → g'.G β j
  gfr : ∀ β j, g'.G β j → β < w.heap.size → g.G β j ∨ TBof g β
  tb : ∀ n y E β, g'.tk n = some (y, E) → y.ownBlock = some β → w.heap.size ≤ β ∨ TBof g β
  bx : ∀ (i : Nat) cs, bs[i]? = some (some cs) → g'.bx i = g.bx i
  canon : ∀ (i j m : Nat) cs E l, bs'[i]? = some (some cs) → cs[j]? = some (.row (some m) E l) → m = sub i j
  outv : OutV v
  lt : tokLt bs v
def PostOf (P : Program) (g : Gh) (w : World) (bs : Bx) (out : Out) (e : Ending) (w' : World) : Prop := match out.flat with
  | .ret v bs' => ∃ x g', e = .returned x ∧ CallPost P g w bs v bs' x g' w'
  | .thr x => e = .panicked [{ v := x, recovered := false }] ∧ Fr (TTof g bs) w w'
  | .alt _ _ _ => False
theorem PostOf.congr {P : Program} {g : Gh} {w : World} {bs : Bx} {o o' : Out} (h : o.flat = o'.flat) {e : Ending} {w' : World} (hp : PostOf P g w bs o e w') : PostOf P g w bs o' e w' := by
  unfold PostOf at *
  rw [← h]
  exact hp
def SoundCall (P : Program) (call : CallF) : Prop := ∀ f xs bs out, call f xs bs = some (true, out) → (∃ fn, P.funcs[f]? = some fn ∧ fn.body.isSome = true ∧ (fn.name == "runtime.NumGoroutine") = false) ∧ ∀ (g : Gh) (w : World) (vs : Array Value), Mem P g w bs → Laid g w → bs.length = xs.length → vs.size = xs.length →
  (∀ (i : Nat) x, xs[i]? = some x → ∃ v, vs[i]? = some v ∧ RepS P g w x v) →
  Calls P f vs w (PostOf P g w bs out)
inductive ArgR (P : Program) (take : Option Nat) (s : St) (T : TypeId) (x : AV) (i : Nat) : AV → Option (List AV) → Option Nat → Prop
  | box (d : Nat) (cs : List AV) : x = .box d 0 → s.boxAt d = some cs → cs.length ≤ 1024 → ArgR P take s T x i (.box i 0) (some (giveL d i 0 cs)) (some d)
  | row (t : Option Nat) (E : TypeId) (l : List Dat) : x = .row t E l → ArgR P take s T x i (.row none E l) none none
  | take (n : Nat) (E : TypeId) (l : List Dat) : x = .row (some n) E l → take = some i → n < 1024 → ArgR P take s T x i (.row (some i) E l) none none
  | nil (E : TypeId) : x = .v (.slice none 0 0) → elemT P T = some E → ArgR P take s T x i (.row (some i) E []) none none
  | v (y : Value) : x = .v y → ArgR P take s T x i (.v y) none none
  | agg (cs : List AV) : x = .agg cs → ArgR P take s T x i (.agg ((nilL (kinds P T) cs).map AV.bare)) none none
structure ArgsR (P : Program) (take : Option Nat) (s : St) (Ts : List TypeId) (xs : List AV) (i : Nat) (p : Pass) : Prop where
  lx : p.xs.length = xs.length
  lb : p.bs.length = xs.length
  ll : p.ls.length = xs.length
  each : ∀ (k : Nat) x, xs[k]? = some x → ∃ T x' b l, Ts[k]? = some T ∧ p.xs[k]? = some x' ∧ p.bs[k]? = some b ∧ p.ls[k]? = some l ∧ ArgR P take s T x (i + k) x' b l
  inj : ∀ (k k' d : Nat), p.ls[k]? = some (some d) → p.ls[k']? = some (some d) → k = k'
  tk : ∀ (k n : Nat) E l, xs[k]? = some (.row (some n) E l) → take = some (i + k) → n < 1024 → p.tk = some n
theorem argsFor_spec {take : Option Nat} : ∀ (Ts : List TypeId) (xs : List AV) (i : Nat) (p : Pass), argsFor P take s Ts xs i = some p → ArgsR P take s Ts xs i p
  | [], [], i, p, h => by
    cases h
    exact ⟨rfl, rfl, rfl, fun k x h => by simp at h, fun k k' d h => by simp at h, fun k n E l h => by simp at h⟩
  | T :: Ts, x :: xs, i, p, h => by
    simp only [argsFor] at h
    have h' := Option.bind_eq_some_iff.1 h
    clear h
    obtain ⟨q, hq, h⟩ := h'
    have ih := argsFor_spec Ts xs (i + 1) q hq
    have mk : ∀ (x' : AV) (b : Option (List AV)) (l : Option Nat) (tk : Option Nat), ArgR P take s T x i x' b l → (∀ d, l = some d → ¬ q.ls.contains (some d) = true) → ((∀ n E l, x = .row (some n) E l → take = some i → n < 1024 → tk = some n) ∧ (tk = q.tk ∨ take = some i)) →
        ArgsR P take s (T :: Ts) (x :: xs) i ⟨x' :: q.xs, b :: q.bs, l :: q.ls, tk⟩ := fun x' b l tk hr hl ht => by
      refine ⟨by simp [ih.lx], by simp [ih.lb], by simp [ih.ll], fun k y hk => ?_, fun k k' d h1 h2 => ?_, fun k n E l' hk h1 h2 => ?_⟩
      · cases k with
        | zero => simp at hk; subst hk; exact ⟨T, x', b, l, rfl, rfl, rfl, rfl, hr⟩
        | succ k =>
          obtain ⟨T', x2, b2, l2, e1, e2, e3, e4, e5⟩ := ih.each k y (by simpa using hk)
          refine ⟨T', x2, b2, l2, by simpa using e1, by simpa using e2, by simpa using e3, by simpa using e4, ?_⟩
          rw [show i + (k + 1) = i + 1 + k by omega]
          exact e5
      · have mem : ∀ (k : Nat), q.ls[k]? = some (some d) → q.ls.contains (some d) = true := fun k hk => by
          rw [List.contains_iff_mem]; exact List.mem_of_getElem? hk
        cases k with
        | zero =>
          simp at h1
          cases k' with
          | zero => rfl
          | succ k' => exact absurd (mem k' (by simpa using h2)) (hl d h1)
        | succ k =>
          cases k' with
          | zero => simp at h2; exact absurd (mem k (by simpa using h1)) (hl d h2)
          | succ k' => rw [ih.inj k k' d (by simpa using h1) (by simpa using h2)]
      · cases k with
        | zero => simp at hk; exact ht.1 n E l' hk h1 h2
        | succ k =>
          have := ih.tk k n E l' (by simpa using hk) (by rw [h1]; congr 1; omega) h2
          rcases ht.2 with e | e
          · rw [e]; exact this
          · rw [h1] at e; injection e with e; omega
    split at h
    · rename_i d off
      split at h
      · rename_i E hu
        have h' := Option.bind_eq_some_iff.1 h
        clear h
        obtain ⟨cs, hcs, h⟩ := h'
        cases hc : (off == 0 && szT P E == some cs.length && Nat.ble cs.length 1024 && !q.ls.contains (some d)) <;> rw [hc] at h <;> cases h
        simp only [Bool.and_eq_true] at hc
        obtain ⟨⟨⟨c1, c2⟩, c3⟩, c4⟩ := hc
        have : off = 0 := by simpa using c1
        subst this
        exact mk _ _ _ _ (.box d cs rfl hcs (Nat.le_of_ble_eq_true c3)) (fun e he => by cases he; simpa using c4) ⟨fun n E l he => (by cases he), .inl rfl⟩
      · cases h
    · rename_i t E l
      split at h
      · rename_i n
        cases hc : (take == some i && Nat.blt n 1024) <;> rw [hc] at h <;> cases h
        · refine mk _ _ _ _ (.row _ E l rfl) (fun e he => by cases he) ⟨fun n' E' l' he h1 h2 => ?_, .inl rfl⟩
          cases he
          have e1 : (take == some i) = true := by rw [h1]; simp
          have e2 : Nat.blt n 1024 = true := Nat.ble_eq_true_of_le h2
          rw [e1, e2] at hc
          cases hc
        · simp only [Bool.and_eq_true] at hc
          have e1 : take = some i := by simpa using hc.1
          exact mk _ _ _ _ (.take n E l rfl e1 (Nat.le_of_ble_eq_true hc.2)) (fun e he => by cases he) ⟨fun n' E' l' he h1 h2 => (by cases he; rfl), .inr e1⟩
      · cases h
        exact mk _ _ _ _ (.row _ E l rfl) (fun e he => by cases he) ⟨fun n' E' l' he h1 h2 => (by cases he), .inl rfl⟩
    · split at h
      · rename_i E hE
        cases h
        exact mk _ _ _ _ (.nil E rfl hE) (fun e he => by cases he) ⟨fun n E l he => (by cases he), .inl rfl⟩
      · cases h
    · rename_i y _
      cases h
      exact mk _ _ _ _ (.v y rfl) (fun e he => by cases he) ⟨fun n E l he => (by cases he), .inl rfl⟩
    · rename_i cs
      cases h
      exact mk _ _ _ _ (.agg cs rfl) (fun e he => by cases he) ⟨fun n E l he => (by cases he), .inl rfl⟩
    · cases h
  | [], _ :: _, i, p, h => by simp [argsFor] at h
  | _ :: _, [], i, p, h => by simp [argsFor] at h
end
end Go.Proofs.YtckdgcpomkefpaaGreatDoor.En
end
section
set_option linter.unusedVariables false
set_option linter.unusedSimpArgs false
namespace Go.Proofs.YtckdgcpomkefpaaGreatDoor.En
open Go
section
variable {P : Program} {F : Fx} {g : Gh} {s : St} {a : Act} {w : World}
theorem giveL_get (e d : Nat) : ∀ (cs : List AV) (j0 j : Nat), (giveL e d j0 cs)[j]? = (cs[j]?).map fun c => c.give e d (j0 + j)
  | [], j0, j => by simp [giveL]
  | c :: cs, j0, 0 => by simp [giveL]
  | c :: cs, j0, j + 1 => by simp [giveL, giveL_get e d cs (j0 + 1) j, Nat.add_assoc, Nat.add_comm 1 j]
theorem giveL_len (e d : Nat) : ∀ (cs : List AV) (j0 : Nat), (giveL e d j0 cs).length = cs.length
  | [], j0 => rfl
  | c :: cs, j0 => by simp [giveL, giveL_len e d cs (j0 + 1)]
theorem Rep0.G {g' : Gh} {w' : World} (hG : ∀ β j, g.G β j → g'.G β j ∧ w'.cell? ⟨β, j, none⟩ = w.cell? ⟨β, j, none⟩) {x : AV} {v : Value} (h : Rep0 P g w x v) : Rep0 P g' w' x v := by
  cases x <;> simp only [Rep0] at h ⊢ <;> first | exact h | exact ⟨h.1, h.2.mono hG⟩
theorem RepRo.G {g' : Gh} {w' : World} (hG : ∀ β j, g.G β j → g'.G β j ∧ w'.cell? ⟨β, j, none⟩ = w.cell? ⟨β, j, none⟩) {cs : List AV} {v : Value} (h : RepC P g w (.ro cs) v) : RepC P g' w' (.ro cs) v := by
  obtain ⟨β, o, h1, h2⟩ := h
  refine ⟨β, o, h1, fun i c hi => ?_⟩
  obtain ⟨u, e1, e2, e3⟩ := h2 i c hi
  exact ⟨u, (hG _ _ e2).2.trans e1, (hG _ _ e2).1, e3.G hG⟩
theorem give_rep {g' : Gh} {w' : World} {T : TypeId} {e d j β : Nat} {c : AV} {u : Value} (hG : ∀ β j, g.G β j → g'.G β j ∧ w'.cell? ⟨β, j, none⟩ = w.cell? ⟨β, j, none⟩) (htk : ∀ v, g.tk (sub e j) = some v → g'.tk (sub d j) = some v) (h : RepB P g w T β j c u) : RepB P g' w' T β j (c.give e d j) u := by
  cases c with
  | row t E l =>
    obtain ⟨h1, h2⟩ := (show RepC P g w (.row t E l) u from h)
    cases t with
    | none => exact ⟨h1.mono hG, fun n hn => by cases hn⟩
    | some m =>
      refine ⟨h1.mono hG, fun n hn => ?_⟩
      cases hm : (m == sub e j) <;> rw [hm] at hn
      · cases hn
      · cases hn
        have : m = sub e j := by simpa using hm
        subst this
        exact htk _ (h2 _ rfl)
  | box b o =>
    obtain ⟨β', h1, h2⟩ := (show RepC P g w (.box b o) u from h)
    rw [h2]; rfl
  | fn f xs cs =>
    obtain ⟨us, ws, h2, _⟩ := (show RepC P g w (.fn f xs cs) u from h)
    rw [h2]; rfl
  | ro cs => exact RepRo.G hG h
  | v x => exact h
  | err => exact h
  | dead => exact h
  | self => exact h
  | agg cs => exact h
  | tup cs => exact h
theorem nil1_rep {k : CK} {c : AV} {u : Value} (h : RepC P g w c u) : RepC P g w (nil1 k c) u := by
  unfold nil1
  split
  · obtain ⟨rfl, _⟩ := (show u = .slice none 0 0 ∧ _ from h)
    exact ⟨.nil _ _ _, fun n hn => by cases hn⟩
  · exact h
theorem nil2_get : ∀ (ks : List CK) (cs : List AV) (j : Nat) (c' : AV), (nil2 ks cs)[j]? = some c' → ∃ c, cs[j]? = some c ∧ ∀ u, RepC P g w c u → RepC P g w c' u
  | [], cs, j, c', h => ⟨c', h, fun _ h => h⟩
  | k :: ks, [], j, c', h => by simp [nil2] at h
  | k :: ks, c :: cs, 0, c', h => by
    simp [nil2] at h
    subst h
    exact ⟨c, rfl, fun u hu => nil1_rep hu⟩
  | k :: ks, c :: cs, j + 1, c', h => nil2_get ks cs j c' (by simpa [nil2] using h)
theorem nilL_get (ks : Option (List CK)) (cs : List AV) (j : Nat) (c' : AV) (h : (nilL ks cs)[j]? = some c') : ∃ c, cs[j]? = some c ∧ ∀ u, RepC P g w c u → RepC P g w c' u := by
  cases ks with
  | none => exact ⟨c', h, fun _ h => h⟩
  | some ks => exact nil2_get ks cs j c' h
theorem nil2_len : ∀ (ks : List CK) (cs : List AV), (nil2 ks cs).length = cs.length
  | [], cs => rfl
  | k :: ks, [] => rfl
  | k :: ks, c :: cs => by simp [nil2, nil2_len ks cs]
theorem nilL_len (ks : Option (List CK)) (cs : List AV) : (nilL ks cs).length = cs.length := by
  cases ks with
  | none => rfl
  | some ks => exact nil2_len ks cs
theorem bare_rep {g' : Gh} {w' : World} {c : AV} {u : Value} (hG : ∀ β j, g.G β j → g'.G β j ∧ w'.cell? ⟨β, j, none⟩ = w.cell? ⟨β, j, none⟩) (h : RepC P g w c u) : RepC P g' w' c.bare u := by
  cases c with
  | row t E l => exact ⟨h.1.mono hG, fun n hn => by cases hn⟩
  | box b o =>
    obtain ⟨β', h1, h2⟩ := h
    rw [h2]; rfl
  | fn f xs cs =>
    obtain ⟨us, ws, h2, _⟩ := h
    rw [h2]; rfl
  | ro cs => exact RepRo.G hG h
  | v x => exact h
  | err => exact h
  | dead => exact h
  | self => exact h
  | agg cs => exact h
  | tup cs => exact h
def tkC (P : Program) (g : Gh) (take : Option Nat) (Ts : List TypeId) (xs : List AV) (ls : List (Option Nat)) (n : Nat) : Option (Value × TypeId) :=
  if n < 1024 then (match xs[n]? with
    | some (.row (some m) _ _) => if take = some n ∧ m < 1024 then g.tk m else none
    | some (.v (.slice none 0 0)) => ((Ts[n]?).bind (elemT P)).map fun E => (.slice none 0 0, E)
    | _ => none)
  else (match ls[n / 1024 - 1]? with | some (some d) => g.tk (sub d (n % 1024)) | _ => none)
def bxC (g : Gh) (ls : List (Option Nat)) (i : Nat) : Option Nat := match ls[i]? with | some (some d) => g.bx d | _ => none
def ghC (P : Program) (g : Gh) (take : Option Nat) (Ts : List TypeId) (xs : List AV) (ls : List (Option Nat)) : Gh := ⟨g.G, tkC P g take Ts xs ls, bxC g ls⟩
theorem tkC_from {take : Option Nat} {Ts : List TypeId} {xs : List AV} {ls : List (Option Nat)} {n : Nat} {v : Value} {E : TypeId} (h : tkC P g take Ts xs ls n = some (v, E)) :
    (v = .slice none 0 0) ∨ (n < 1024 ∧ take = some n ∧ ∃ m E' l, m < 1024 ∧ xs[n]? = some (.row (some m) E' l) ∧ g.tk m = some (v, E)) ∨ (∃ d, 1024 ≤ n ∧ ls[n / 1024 - 1]? = some (some d) ∧ g.tk (sub d (n % 1024)) = some (v, E)) := by
  unfold tkC at h
  split at h
  · rename_i hn
    split at h
    · rename_i m E' l hx
      split at h
      · rename_i hm; exact .inr (.inl ⟨hn, hm.1, m, E', l, hm.2, hx, h⟩)
      · cases h
    · obtain ⟨E', h1, h2⟩ := Option.map_eq_some_iff.1 h
      cases h2
      exact .inl rfl
    · cases h
  · rename_i hn
    split at h
    · rename_i d hd; exact .inr (.inr ⟨d, by omega, hd, h⟩)
    · cases h
theorem sub_ge (d j : Nat) : 1024 ≤ sub d j := by unfold sub; omega
theorem sub_inj {d d' j j' : Nat} (hj : j < 1024) (hj' : j' < 1024) (h : sub d j = sub d' j') : d = d' ∧ j = j' := by unfold sub at h; omega
theorem tkC_src {take : Option Nat} {Ts : List TypeId} {xs : List AV} {ls : List (Option Nat)} {n : Nat} {v : Value} {E : TypeId} (h : tkC P g take Ts xs ls n = some (v, E)) {β : Nat} (hv : v.ownBlock = some β) :
    ∃ c, g.tk c = some (v, E) ∧ ((n < 1024 ∧ take = some n ∧ c < 1024 ∧ ∃ E' l, xs[n]? = some (.row (some c) E' l)) ∨ ∃ d, 1024 ≤ n ∧ ls[n / 1024 - 1]? = some (some d) ∧ c = sub d (n % 1024)) := by
  rcases tkC_from h with rfl | ⟨h1, h2, m, E', l, h3, h4, h5⟩ | ⟨d, h1, h2, h3⟩
  · cases hv
  · exact ⟨m, h5, .inl ⟨h1, h2, h3, E', l, h4⟩⟩
  · exact ⟨_, h3, .inr ⟨d, h1, h2, rfl⟩⟩
theorem pass_mem (h : Inv P F g s a w) {take : Option Nat} {Ts : List TypeId} {xs : List AV} {p : Pass} (hp : ArgsR P take s Ts xs 0 p) (hlen : xs.length ≤ 1024) :
    Mem P (ghC P g take Ts xs p.ls) w p.bs := by
  have hbox : ∀ (i : Nat) cs', p.bs[i]? = some (some cs') → ∃ d cs, p.ls[i]? = some (some d) ∧ s.b[d]? = some (some cs) ∧ cs.length ≤ 1024 ∧ cs' = giveL d i 0 cs ∧ i < 1024 := fun i cs' hi => by
    have hlt := (List.getElem?_eq_some_iff.1 hi).1
    rw [hp.lb] at hlt
    obtain ⟨T, x', b, l, e1, e2, e3, e4, e5⟩ := hp.each i xs[i] (List.getElem?_eq_getElem hlt)
    rw [hi] at e3
    cases e3
    rw [Nat.zero_add] at e5
    cases e5 with
    | box d cs h1 h2 h3 => exact ⟨d, cs, e4, boxAt_eq h2, h3, rfl, by omega⟩
  have hbxi : ∀ (i d : Nat), p.ls[i]? = some (some d) → (ghC P g take Ts xs p.ls).bx i = g.bx d := fun i d hd => by
    show bxC g p.ls i = _
    unfold bxC; rw [hd]
  have htki : ∀ (i d j : Nat), p.ls[i]? = some (some d) → i < 1024 → j < 1024 → (ghC P g take Ts xs p.ls).tk (sub i j) = g.tk (sub d j) := fun i d j hd hi hj => by
    show tkC P g take Ts xs p.ls (sub i j) = _
    unfold tkC
    rw [if_neg (by have := sub_ge i j; omega), sub_div i j hj, sub_mod i j hj]
    simp [hd]
  have hap : ∀ n m v v' E E' β, tkC P g take Ts xs p.ls n = some (v, E) → tkC P g take Ts xs p.ls m = some (v', E') → v.ownBlock = some β → v'.ownBlock = some β → n = m := fun n m v v' E E' β hn hm hv hv' => by
    obtain ⟨c, c1, c2⟩ := tkC_src hn hv
    obtain ⟨c', d1, d2⟩ := tkC_src hm hv'
    have hcc := h.mem.tkap c c' v v' E E' β c1 d1 hv hv'
    subst hcc
    rcases c2 with ⟨a1, a2, a3, _⟩ | ⟨d, a1, a2, a3⟩ <;> rcases d2 with ⟨b1, b2, b3, _⟩ | ⟨d', b1, b2, b3⟩
    · rw [a2] at b2; injection b2
    · have := sub_ge d' (m % 1024); omega
    · have := sub_ge d (n % 1024); omega
    · obtain ⟨e1, e2⟩ := sub_inj (Nat.mod_lt _ (by decide)) (Nat.mod_lt _ (by decide)) (a3.symm.trans b3)
      subst e1
      have := hp.inj _ _ d a2 b2
      omega
  refine ⟨h.mem.gsz, fun i cs' hi => ?_, fun i i' β cs cs' hi hi' hβ hβ' => ?_, fun n v E hn => ?_, fun n m v v' E E' β hn hm hv hv' => hap n m v v' E E' β hn hm hv hv', fun n v E β i cs hn hv hi hβ => ?_, fun i cs β hi hβ => (by
    obtain ⟨d, c2, h1, h2, _, _, _⟩ := hbox i cs hi
    rw [hbxi i d h1] at hβ
    exact h.mem.ty d c2 β h2 hβ)⟩
  · obtain ⟨d, cs, h1, h2, h3, rfl, h4⟩ := hbox i cs' hi
    obtain ⟨β, us, T, e1, e2, e3, e4, e5⟩ := h.mem.box d cs h2
    refine ⟨β, us, T, (hbxi i d h1).trans e1, e2, by rw [giveL_len]; exact e3, e4, fun j c hj => ?_⟩
    rw [giveL_get] at hj
    obtain ⟨c0, hc0, rfl⟩ := Option.map_eq_some_iff.1 hj
    obtain ⟨u, hu, hr⟩ := e5 j c0 hc0
    rw [Nat.zero_add]
    refine ⟨u, hu, give_rep (g := g) (fun β j hj => ⟨hj, rfl⟩) (fun v hv => ?_) hr⟩
    rw [htki i d j h1 h4 (Nat.lt_of_lt_of_le (List.getElem?_eq_some_iff.1 hc0).1 h3)]
    exact hv
  · obtain ⟨d, c1, h1, h2, _, _, _⟩ := hbox i cs hi
    obtain ⟨d', c2, h1', h2', _, _, _⟩ := hbox i' cs' hi'
    rw [hbxi i d h1] at hβ
    rw [hbxi i' d' h1'] at hβ'
    have := h.mem.apart d d' β c1 c2 h2 h2' hβ hβ'
    subst this
    exact hp.inj i i' d h1 h1'
  · rcases tkC_from hn with rfl | ⟨_, _, m, _, _, _, _, h5⟩ | ⟨d, _, _, h3⟩
    · exact .inl rfl
    · exact (h.mem.own m v E h5).keep fun β hβ => ⟨rfl, fun j hj => hj⟩
    · exact (h.mem.own _ v E h3).keep fun β hβ => ⟨rfl, fun j hj => hj⟩
  · obtain ⟨c, c1, _⟩ := tkC_src hn hv
    obtain ⟨d, c2, h1, h2, _, _, _⟩ := hbox i cs hi
    rw [hbxi i d h1] at hβ
    exact h.mem.tkbx c v E β d c2 c1 hv h2 hβ
theorem pass_args (h : Inv P F g s a w) {take : Option Nat} {Ts : List TypeId} {xs : List AV} {p : Pass} (hp : ArgsR P take s Ts xs 0 p) (hlen : xs.length ≤ 1024) {vs : Array Value}
    (hv : ∀ (i : Nat) x, xs[i]? = some x → ∃ v, vs[i]? = some v ∧ RepS P g w x v) (i : Nat) (x' : AV) (hi : p.xs[i]? = some x') : ∃ v, vs[i]? = some v ∧ RepS P (ghC P g take Ts xs p.ls) w x' v := by
  have hlt := (List.getElem?_eq_some_iff.1 hi).1
  rw [hp.lx] at hlt
  have hget := List.getElem?_eq_getElem hlt
  obtain ⟨T, x2, b, l, e1, e2, e3, e4, e5⟩ := hp.each i xs[i] hget
  rw [hi] at e2
  cases e2
  rw [Nat.zero_add] at e5
  obtain ⟨v, h1, h2⟩ := hv i _ hget
  refine ⟨v, h1, ?_⟩
  have hi1 : i < 1024 := by omega
  generalize xs[i] = x at hget h2 e5
  cases e5 with
  | box d cs hx h3 h4 =>
    subst hx
    obtain ⟨β, hb, hv⟩ := (show RepC P g w (.box d 0) v from h2)
    refine ⟨β, ?_, hv⟩
    show bxC g p.ls i = _
    unfold bxC
    rw [e4]
    exact hb
  | row t E l hx =>
    subst hx
    exact ⟨(show RepC P g w (.row t E l) v from h2).1, fun n hn => by cases hn⟩
  | take n E l hx h3 h4 =>
    subst hx
    obtain ⟨r1, r2⟩ := (show RepC P g w (.row (some n) E l) v from h2)
    refine ⟨r1, fun m hm => ?_⟩
    cases hm
    show tkC P g take Ts xs p.ls i = _
    unfold tkC
    rw [if_pos hi1, hget]
    show (if take = some i ∧ n < 1024 then g.tk n else none) = _
    rw [if_pos ⟨h3, h4⟩]
    exact r2 n rfl
  | nil E hx hE =>
    subst hx
    obtain ⟨rfl, _⟩ := (show v = .slice none 0 0 ∧ _ from h2)
    refine ⟨.nil _ _ _, fun m hm => ?_⟩
    cases hm
    show tkC P g take Ts xs p.ls i = _
    unfold tkC
    rw [if_pos hi1, hget]
    show ((Ts[i]?).bind (elemT P)).map _ = _
    rw [e1]
    simp [hE]
  | v y hx =>
    subst hx
    exact h2
  | agg cs hx =>
    subst hx
    obtain ⟨us, r1, r2, r3⟩ := h2
    refine ⟨us, r1, by simp [r2, nilL_len], fun j c hj => ?_⟩
    rw [List.getElem?_map] at hj
    obtain ⟨c1, hc1, rfl⟩ := Option.map_eq_some_iff.1 hj
    obtain ⟨c0, hc0, hall⟩ := nilL_get (P := P) (g := g) (w := w) _ _ _ _ hc1
    obtain ⟨u, hu, hr⟩ := r3 j c0 hc0
    exact ⟨u, hu, bare_rep (g := g) (fun β j hj => ⟨hj, rfl⟩) (hall u hr)⟩
theorem pass_T (h : Inv P F g s a w) {take : Option Nat} {Ts : List TypeId} {xs : List AV} {p : Pass} (hp : ArgsR P take s Ts xs 0 p) {β j : Nat} (hlt : β < F.w0.heap.size) (t : TTof (ghC P g take Ts xs p.ls) p.bs β j) : F.T β j := by
  rcases t with ⟨i, cs', hi, hβ⟩ | ⟨⟨n, y, E, hn, hv⟩, hnG⟩
  · have hl := (List.getElem?_eq_some_iff.1 hi).1
    rw [hp.lb] at hl
    obtain ⟨T, x', b, l, e1, e2, e3, e4, e5⟩ := hp.each i xs[i] (List.getElem?_eq_getElem hl)
    rw [hi] at e3
    cases e3
    cases e5 with
    | box d cs q1 q2 q3 =>
      have : bxC g p.ls i = some β := hβ
      unfold bxC at this
      rw [e4] at this
      rcases h.bb d cs β (boxAt_eq q2) this with e | e
      · omega
      · exact .inl e
  · obtain ⟨c, c1, c2⟩ := tkC_src hn hv
    rcases h.tb c y E β c1 hv with e | e
    · omega
    · exact .inr ⟨e, fun hF => hnG (h.g0 β j hF)⟩
end
end Go.Proofs.YtckdgcpomkefpaaGreatDoor.En
end
section
set_option linter.unusedVariables false
set_option linter.unusedSimpArgs false
namespace Go.Proofs.YtckdgcpomkefpaaGreatDoor.En
open Go
section
variable {P : Program} {F : Fx} {g : Gh} {s : St} {a : Act} {w : World}
theorem backS_spec : ∀ (ls : List (Option Nat)) (i : Nat) (bs : Bx) (s s2 : St), backS i ls bs s = some s2 → (∀ (k k' d : Nat), ls[k]? = some (some d) → ls[k']? = some (some d) → k = k') →
    s2.t = s.t ∧ s2.b.length = s.b.length ∧ (∀ (k d : Nat), ls[k]? = some (some d) → ∃ cs old, bs[k]? = some (some cs) ∧ s.b[d]? = some (some old) ∧ cs.length = old.length ∧ s2.b[d]? = some (some (giveL (i + k) d 0 cs))) ∧
      ∀ d : Nat, (∀ k : Nat, ls[k]? ≠ some (some d)) → s2.b[d]? = s.b[d]?
  | [], i, bs, s, s2, h, _ => by
    simp only [backS] at h
    cases h
    exact ⟨rfl, rfl, fun k d h => by simp at h, fun _ _ => rfl⟩
  | none :: ls, i, bs, s, s2, h, hi => by
    cases bs with
    | nil => simp [backS] at h
    | cons b bs =>
      simp only [backS] at h
      obtain ⟨e1, e2, e3, e4⟩ := backS_spec ls (i + 1) bs s s2 h (fun k k' d h1 h2 => by have := hi (k + 1) (k' + 1) d (by simpa using h1) (by simpa using h2); omega)
      refine ⟨e1, e2, fun k d hk => ?_, fun d hd => e4 d fun k hk => hd (k + 1) (by simpa using hk)⟩
      cases k with
      | zero => simp at hk
      | succ k =>
        obtain ⟨cs, old, f1, f2, f3, f4⟩ := e3 k d (by simpa using hk)
        exact ⟨cs, old, by simpa using f1, f2, f3, by rw [show i + (k + 1) = i + 1 + k by omega]; exact f4⟩
  | some d0 :: ls, i, bs, s, s2, h, hi => by
    cases bs with
    | nil => simp [backS] at h
    | cons b bs =>
      cases b with
      | none => simp [backS] at h
      | some cs0 =>
        simp only [backS] at h
        obtain ⟨old, h1, h2⟩ := Option.bind_eq_some_iff.1 h
        cases hc : Nat.beq cs0.length old.length <;> rw [hc] at h2
        · cases h2
        simp only [cond_true] at h2
        have hb := boxAt_eq h1
        have hlt := (List.getElem?_eq_some_iff.1 hb).1
        obtain ⟨e1, e2, e3, e4⟩ := backS_spec ls (i + 1) bs (s.setBox d0 (giveL i d0 0 cs0)) s2 h2 (fun k k' d h1 h2 => by have := hi (k + 1) (k' + 1) d (by simpa using h1) (by simpa using h2); omega)
        have hne : ∀ (k : Nat), ls[k]? ≠ some (some d0) := fun k hk => by
          have := hi 0 (k + 1) d0 rfl (by simpa using hk); omega
        have hset : ∀ d, d ≠ d0 → (s.setBox d0 (giveL i d0 0 cs0)).b[d]? = s.b[d]? := fun d hd => by
          simp only [St.setBox, List.getElem?_set]; rw [if_neg (Ne.symm hd)]
        refine ⟨e1, by rw [e2]; simp [St.setBox], fun k d hk => ?_, fun d hd => ?_⟩
        · cases k with
          | zero =>
            simp at hk
            subst hk
            refine ⟨cs0, old, rfl, hb, Nat.eq_of_beq_eq_true hc, ?_⟩
            rw [e4 d0 hne]
            simp [St.setBox, hlt]
          | succ k =>
            have hk' : ls[k]? = some (some d) := by simpa using hk
            obtain ⟨cs, old', f1, f2, f3, f4⟩ := e3 k d hk'
            have hd0 : d ≠ d0 := fun e => hne k (e ▸ hk')
            rw [hset d hd0] at f2
            exact ⟨cs, old', by simpa using f1, f2, f3, by rw [show i + (k + 1) = i + 1 + k by omega]; exact f4⟩
        · rw [e4 d fun k hk => hd (k + 1) (by simpa using hk)]
          exact hset d fun e => hd 0 (by rw [e]; rfl)
def resTok (v : AV) (dst : Option Nat) (n : Nat) : Option Nat := match dst with
  | some d => (match v with
    | .row (some m) _ _ => if n = d then some m else none
    | .tup vs => if n / 1024 = d + 1 then (match vs[n % 1024]? with | some (.row (some m) _ _) => some m | _ => none) else none
    | .agg vs => if n / 1024 = d + 1 then (match vs[n % 1024]? with | some (.row (some m) _ _) => some m | _ => none) else none
    | _ => none)
  | none => none
def boxTok (ls : List (Option Nat)) (i n : Nat) : Option Nat := match ls with
  | [] => none
  | some d :: ls => if n / 1024 = d + 1 then some (sub i (n % 1024)) else boxTok ls (i + 1) n
  | none :: ls => boxTok ls (i + 1) n
theorem boxTok_some : ∀ (ls : List (Option Nat)) (i n m : Nat), boxTok ls i n = some m → ∃ k d, ls[k]? = some (some d) ∧ n / 1024 = d + 1 ∧ m = sub (i + k) (n % 1024)
  | [], i, n, m, h => by cases h
  | some d :: ls, i, n, m, h => by
    simp only [boxTok] at h
    split at h
    · rename_i e; cases h; exact ⟨0, d, rfl, e, rfl⟩
    · obtain ⟨k, d', h1, h2, h3⟩ := boxTok_some ls (i + 1) n m h
      exact ⟨k + 1, d', by simpa using h1, h2, by rw [h3]; congr 1; omega⟩
  | none :: ls, i, n, m, h => by
    simp only [boxTok] at h
    obtain ⟨k, d', h1, h2, h3⟩ := boxTok_some ls (i + 1) n m h
    exact ⟨k + 1, d', by simpa using h1, h2, by rw [h3]; congr 1; omega⟩
theorem boxTok_of : ∀ (ls : List (Option Nat)) (i n k d : Nat), (∀ (k k' d : Nat), ls[k]? = some (some d) → ls[k']? = some (some d) → k = k') → ls[k]? = some (some d) → n / 1024 = d + 1 → boxTok ls i n = some (sub (i + k) (n % 1024))
  | [], i, n, k, d, _, h, _ => by simp at h
  | some d0 :: ls, i, n, k, d, hi, h, hn => by
    simp only [boxTok]
    cases k with
    | zero => simp at h; subst h; rw [if_pos hn]; rfl
    | succ k =>
      have hne : ¬ n / 1024 = d0 + 1 := fun e => by
        have : d = d0 := by omega
        have := hi 0 (k + 1) d0 rfl (by rw [← this]; exact h)
        omega
      rw [if_neg hne, boxTok_of ls (i + 1) n k d (fun k k' d h1 h2 => by have := hi (k + 1) (k' + 1) d (by simpa using h1) (by simpa using h2); omega) (by simpa using h) hn]
      congr 2; omega
  | none :: ls, i, n, k, d, hi, h, hn => by
    simp only [boxTok]
    cases k with
    | zero => simp at h
    | succ k =>
      rw [boxTok_of ls (i + 1) n k d (fun k k' d h1 h2 => by have := hi (k + 1) (k' + 1) d (by simpa using h1) (by simpa using h2); omega) (by simpa using h) hn]
      congr 2; omega
theorem lostF_kills (p : Pass) (dst : Option Nat) : Kills (lostF p dst) := ⟨rfl, fun n => by
  show (bif lostB p dst n then none else some n) = some n ∨ (bif lostB p dst n then none else some n) = none
  cases lostB p dst n <;> simp⟩
theorem lostF_none {p : Pass} {dst : Option Nat} {n : Nat} (h : p.tk = some n ∨ (∃ (k : Nat) (d : Nat), p.ls[k]? = some (some d) ∧ n / 1024 = d + 1) ∨ ∃ d, dst = some d ∧ (n = d ∨ n / 1024 = d + 1)) : lostF p dst (some n) = none := by
  have : lostB p dst n = true := by
    unfold lostB
    rcases h with h | ⟨k, d, h1, h2⟩ | ⟨d, rfl, h⟩
    · simp [h]
    · have : p.ls.any (lossOf n) = true := by
        rw [List.any_eq_true]
        exact ⟨some d, List.mem_of_getElem? h1, by simp [lossOf, h2]⟩
      rw [this, Bool.or_true, Bool.true_or]
    · rcases h with h | h <;> simp [h]
  show (bif lostB p dst n then none else some n) = none
  rw [this]
  rfl
def ghA (g g' : Gh) (p : Pass) (dst : Option Nat) (v : AV) : Gh := ⟨g'.G, fun n => match resTok v dst n with
  | some m => g'.tk m
  | none => (match boxTok p.ls 0 n with
    | some m => g'.tk m
    | none => (match lostF p dst (some n) with | some _ => g.tk n | none => none)), g.bx⟩
theorem ghA_cases {g' : Gh} {p : Pass} {dst : Option Nat} {v : AV} {n : Nat} {y : Value} {E : TypeId} (h : (ghA g g' p dst v).tk n = some (y, E)) :
    (∃ m, resTok v dst n = some m ∧ g'.tk m = some (y, E)) ∨ (resTok v dst n = none ∧ ∃ m, boxTok p.ls 0 n = some m ∧ g'.tk m = some (y, E)) ∨ (lostF p dst (some n) ≠ none ∧ g.tk n = some (y, E)) := by
  have h' : (match resTok v dst n with
    | some m => g'.tk m
    | none => (match boxTok p.ls 0 n with
      | some m => g'.tk m
      | none => (match lostF p dst (some n) with | some _ => g.tk n | none => none))) = some (y, E) := h
  split at h'
  · rename_i m hm; exact .inl ⟨m, hm, h'⟩
  · rename_i hm
    split at h'
    · rename_i m hb; exact .inr (.inl ⟨hm, m, hb, h'⟩)
    · split at h'
      · rename_i e; exact .inr (.inr ⟨by rw [e]; simp, h'⟩)
      · cases h'
theorem resTok_lt {v : AV} {dst : Option Nat} {n m : Nat} (h : resTok v dst n = some m) {bs : Bx} (hv : tokLt bs v) : m < 1024 ∨ ∀ c, bs[m / 1024 - 1]? ≠ some (some c) := by
  unfold resTok at h
  split at h
  · split at h
    · split at h
      · cases h; exact .inl hv
      · cases h
    · split at h
      · split at h
        · rename_i e; cases h; exact .inl (hv _ _ _ _ e)
        · cases h
      · cases h
    · split at h
      · split at h
        · rename_i e; cases h; exact hv _ _ _ _ e
        · cases h
      · cases h
    · cases h
  · cases h
theorem resTok_inj {v : AV} {dst : Option Nat} {n n' m : Nat} (h : resTok v dst n = some m) (h' : resTok v dst n' = some m) (hv : OutV v) : n = n' := by
  unfold resTok at h h'
  split at h
  · rename_i d
    dsimp only at h'
    split at h
    · split at h
      · rename_i e
        dsimp only at h'
        split at h'
        · rename_i e'; rw [e, e']
        · cases h'
      · cases h
    · rename_i vs
      dsimp only at h'
      split at h
      · rename_i e
        split at h
        · rename_i m1 E l hm
          cases h
          split at h'
          · rename_i e'
            split at h'
            · rename_i m2 E' l' hm'
              cases h'
              have := hv.2.2.2 _ _ m E l E' l' hm hm'
              omega
            · cases h'
          · cases h'
        · cases h
      · cases h
    · rename_i vs
      dsimp only at h'
      split at h
      · rename_i e
        split at h
        · rename_i m1 E l hm
          cases h
          split at h'
          · rename_i e'
            split at h'
            · rename_i m2 E' l' hm'
              cases h'
              have := hv.2.2 _ _ m E l E' l' hm hm'
              omega
            · cases h'
          · cases h'
        · cases h
      · cases h
    · cases h
  · cases h
theorem resTok_dst {v : AV} {dst : Option Nat} {n m : Nat} (h : resTok v dst n = some m) : ∃ d, dst = some d ∧ (n = d ∨ n / 1024 = d + 1) := by
  unfold resTok at h
  split at h
  · rename_i d
    refine ⟨d, rfl, ?_⟩
    split at h
    · split at h
      · rename_i e; exact .inl e
      · cases h
    · split at h
      · rename_i e; exact .inr e
      · cases h
    · split at h
      · rename_i e; exact .inr e
      · cases h
    · cases h
  · cases h
theorem nameL_get (d : Nat) : ∀ (cs : List AV) (j0 j : Nat), (nameL d j0 cs)[j]? = (cs[j]?).map fun c => c.name (sub d (j0 + j))
  | [], j0, j => by simp [nameL]
  | c :: cs, j0, 0 => by simp [nameL]
  | c :: cs, j0, j + 1 => by simp [nameL, nameL_get d cs (j0 + 1) j, Nat.add_assoc, Nat.add_comm 1 j]
theorem nameL_len (d : Nat) : ∀ (cs : List AV) (j0 : Nat), (nameL d j0 cs).length = cs.length
  | [], j0 => rfl
  | c :: cs, j0 => by simp [nameL, nameL_len d cs (j0 + 1)]
theorem name_rep {g1 g2 : Gh} {m0 : Nat} {c : AV} {u : Value} (hG : g2.G = g1.G) (hb : ∀ d o, c ≠ .box d o) (hfn : ∀ f a b, c ≠ .fn f a b) (htk : ∀ m E l, c = .row (some m) E l → ∀ v, g1.tk m = some v → g2.tk m0 = some v) (ha : ∀ cs, c = .agg cs → ∀ (i : Nat) x, cs[i]? = some x → x.bare = x) (h : RepT P g1 w c u) : RepT P g2 w (c.name m0) u := by
  have hGG : ∀ β j, g1.G β j → g2.G β j ∧ w.cell? ⟨β, j, none⟩ = w.cell? ⟨β, j, none⟩ := fun β j hj => ⟨by rw [hG]; exact hj, rfl⟩
  cases c with
  | row t E l =>
    obtain ⟨h1, h2⟩ := (show RepC P g1 w (.row t E l) u from h)
    cases t with
    | none => exact (show RepC P g2 w (.row none E l) u from ⟨h1.mono hGG, fun n hn => by cases hn⟩)
    | some m =>
      refine (show RepC P g2 w (.row (some m0) E l) u from ⟨h1.mono hGG, fun n hn => ?_⟩)
      cases hn
      exact htk m E l rfl _ (h2 m rfl)
  | box d o => exact absurd rfl (hb d o)
  | fn f a b => exact absurd rfl (hfn f a b)
  | agg cs =>
    obtain ⟨vs, h1, h2, h3⟩ := h
    refine ⟨vs, h1, h2, fun j c hj => ?_⟩
    obtain ⟨u, hu, hr⟩ := h3 j c hj
    have := bare_rep (g := g1) (g' := g2) hGG hr
    rw [ha cs rfl j c hj] at this
    exact ⟨u, hu, this⟩
  | ro cs => exact (show RepC P g2 w (.ro cs) u from RepRo.G hGG (show RepC P g1 w (.ro cs) u from h))
  | err => exact h
  | dead => exact trivial
  | v x => exact h
  | self => exact h
  | tup cs => exact h
theorem nameC_rep {g1 g2 : Gh} {m0 : Nat} {c : AV} {u : Value} (hG : g2.G = g1.G) (hb : ∀ d o, c ≠ .box d o) (hfn : ∀ f a b, c ≠ .fn f a b) (htk : ∀ m E l, c = .row (some m) E l → ∀ v, g1.tk m = some v → g2.tk m0 = some v) (h : RepC P g1 w c u) : RepC P g2 w (c.name m0) u := by
  have hGG : ∀ β j, g1.G β j → g2.G β j ∧ w.cell? ⟨β, j, none⟩ = w.cell? ⟨β, j, none⟩ := fun β j hj => ⟨by rw [hG]; exact hj, rfl⟩
  cases c with
  | row t E l =>
    obtain ⟨h1, h2⟩ := h
    cases t with
    | none => exact (show RepC P g2 w (.row none E l) u from ⟨h1.mono hGG, fun n hn => by cases hn⟩)
    | some m =>
      refine (show RepC P g2 w (.row (some m0) E l) u from ⟨h1.mono hGG, fun n hn => ?_⟩)
      cases hn
      exact htk m E l rfl _ (h2 m rfl)
  | box d o => exact absurd rfl (hb d o)
  | fn f a b => exact absurd rfl (hfn f a b)
  | agg cs => exact h.elim
  | ro cs => exact (show RepC P g2 w (.ro cs) u from RepRo.G hGG h)
  | err => exact h
  | dead => exact h
  | v x => exact h
  | self => exact h.elim
  | tup cs => exact h.elim
theorem back_inv (h : Inv P F g s a w) {take : Option Nat} {Ts : List TypeId} {xs : List AV} {p : Pass} (hp : ArgsR P take s Ts xs 0 p) (hlen : xs.length ≤ 1024) {v y : AV} {bs : Bx} {x : Value} {g' : Gh} {w' : World} {dst : Option Nat} {s2 : St}
    (post : CallPost P (ghC P g take Ts xs p.ls) w p.bs v bs x g' w') (hd : dstOk p dst = true) (hb : backS 0 p.ls bs (s.tok (lostF p dst)) = some s2) (hy : newTok dst v = some y) :
    ∃ g2, Inv P F g2 (s2.put dst y) (a.put dst x) w' := by
  have hkl := lostF_kills p dst
  have h1 := h.kills hkl
  obtain ⟨b1, b2, b3, b4⟩ := backS_spec p.ls 0 bs _ s2 hb hp.inj
  -- a callee's token comes from one that is lost here
  have hsrc : ∀ β, TBof (ghC P g take Ts xs p.ls) β → ∃ c y E, g.tk c = some (y, E) ∧ y.ownBlock = some β ∧ lostF p dst (some c) = none := fun β ⟨n, y, E, hn, hv⟩ => by
    obtain ⟨c, c1, c2⟩ := tkC_src hn hv
    refine ⟨c, y, E, c1, hv, lostF_none ?_⟩
    rcases c2 with ⟨a1, a2, a3, E', l, a4⟩ | ⟨d, a1, a2, a3⟩
    · exact .inl (hp.tk n c E' l a4 (by rw [Nat.zero_add]; exact a2) a3)
    · exact .inr (.inl ⟨_, d, a2, by rw [a3]; exact sub_div d _ (Nat.mod_lt _ (by decide))⟩)
  have hbb : ∀ β, BBof (ghC P g take Ts xs p.ls) p.bs β → ∃ (k d : Nat) (cs : List AV), p.ls[k]? = some (some d) ∧ s.b[d]? = some (some cs) ∧ g.bx d = some β := fun β ⟨i, cs', hi, hβ⟩ => by
    have hlt := (List.getElem?_eq_some_iff.1 hi).1
    rw [hp.lb] at hlt
    obtain ⟨T, x', b, l, e1, e2, e3, e4, e5⟩ := hp.each i xs[i] (List.getElem?_eq_getElem hlt)
    rw [hi] at e3
    cases e3
    cases e5 with
    | box d cs q1 q2 q3 =>
      refine ⟨i, d, cs, e4, boxAt_eq q2, ?_⟩
      have : bxC g p.ls i = some β := hβ
      unfold bxC at this
      rw [e4] at this
      exact this
  have hpb : ∀ (k d : Nat), p.ls[k]? = some (some d) → k < 1024 ∧ ∃ cs, p.bs[k]? = some (some (giveL d k 0 cs)) ∧ s.b[d]? = some (some cs) ∧ cs.length ≤ 1024 := fun k d hk => by
    have hlt := (List.getElem?_eq_some_iff.1 hk).1
    rw [hp.ll] at hlt
    obtain ⟨T, x', b, l, e1, e2, e3, e4, e5⟩ := hp.each k xs[k] (List.getElem?_eq_getElem hlt)
    rw [hk] at e4
    cases e4
    rw [Nat.zero_add] at e5
    cases e5 with
    | box d cs q1 q2 q3 => exact ⟨by omega, cs, e3, boxAt_eq q2, q3⟩
  -- what stays as it was
  have hGm : ∀ β j, g.G β j → g'.G β j ∧ w'.cell? ⟨β, j, none⟩ = w.cell? ⟨β, j, none⟩ := fun β j hj => by
    refine ⟨post.g0 β j hj, post.fr.cell (h.mem.gsz β j hj) ?_⟩
    rintro (hB | ⟨_, hG⟩)
    · obtain ⟨k, d, cs, _, q2, q3⟩ := hbb β hB
      obtain ⟨β', us, T, e1, _, _, e4, _⟩ := h.mem.box d cs q2
      rw [q3] at e1
      cases e1
      exact e4 j hj
    · exact hG hj
  have hold : ∀ β, β < w.heap.size → (∀ d cs k, p.ls[k]? = some (some d) → s.b[d]? = some (some cs) → g.bx d ≠ some β) → (∀ c y E, g.tk c = some (y, E) → y.ownBlock = some β → lostF p dst (some c) ≠ none) →
      w'.heap[β]? = w.heap[β]? ∧ ∀ j, g'.G β j → g.G β j := fun β hlt q1 q2 => by
    have nB : ¬ BBof (ghC P g take Ts xs p.ls) p.bs β := fun hB => by
      obtain ⟨k, d, cs, r1, r2, r3⟩ := hbb β hB
      exact q1 d cs k r1 r2 r3
    have nT : ¬ TBof (ghC P g take Ts xs p.ls) β := fun hT => by
      obtain ⟨c, y, E, r1, r2, r3⟩ := hsrc β hT
      exact q2 c y E r1 r2 r3
    refine ⟨post.fr.same hlt fun j hj => ?_, fun j hj => ?_⟩
    · rcases hj with hj | ⟨hj, _⟩
      · exact nB hj
      · exact nT hj
    · rcases post.gfr β j hj hlt with hj | hj
      · exact hj
      · exact absurd hj nT
  generalize hg2 : ghA g g' p dst v = g2
  have hG2 : g2.G = g'.G := by rw [← hg2]; rfl
  have hb2 : g2.bx = g.bx := by rw [← hg2]; rfl
  have hcase : ∀ n y E, g2.tk n = some (y, E) → (∃ m, resTok v dst n = some m ∧ g'.tk m = some (y, E)) ∨ (resTok v dst n = none ∧ ∃ m, boxTok p.ls 0 n = some m ∧ g'.tk m = some (y, E)) ∨ (lostF p dst (some n) ≠ none ∧ g.tk n = some (y, E)) := fun n y E hn => ghA_cases (g := g) (by rw [hg2]; exact hn)
  have hnew : ∀ n y E, g2.tk n = some (y, E) → (∃ m, g'.tk m = some (y, E)) ∨ (lostF p dst (some n) ≠ none ∧ g.tk n = some (y, E)) := fun n y E hn => by
    rcases hcase n y E hn with ⟨m, _, e⟩ | ⟨_, m, _, e⟩ | e
    · exact .inl ⟨m, e⟩
    · exact .inl ⟨m, e⟩
    · exact .inr e
  have hkeepTk : ∀ n v', (g.kills (lostF p dst)).tk n = some v' → g2.tk n = some v' := fun n v' hn => by
    have hn' : (match lostF p dst (some n) with | some _ => g.tk n | none => none) = some v' := hn
    have hl : lostF p dst (some n) ≠ none := fun e => by rw [e] at hn'; cases hn'
    rw [← hg2]
    show (match resTok v dst n with
      | some m => g'.tk m
      | none => (match boxTok p.ls 0 n with
        | some m => g'.tk m
        | none => (match lostF p dst (some n) with | some _ => g.tk n | none => none))) = some v'
    have e1 : resTok v dst n = none := by
      cases hr : resTok v dst n with
      | none => rfl
      | some m => obtain ⟨d, q1, q2⟩ := resTok_dst hr; exact absurd (lostF_none (.inr (.inr ⟨d, q1, q2⟩))) hl
    have e2 : boxTok p.ls 0 n = none := by
      cases hr : boxTok p.ls 0 n with
      | none => rfl
      | some m => obtain ⟨k, d, q1, q2, _⟩ := boxTok_some _ _ _ _ hr; exact absurd (lostF_none (.inr (.inl ⟨k, d, q1, q2⟩))) hl
    rw [e1, e2]
    exact hn'
  have hle : (g.kills (lostF p dst)).Le g2 w w' := ⟨fun β j hj => by rw [hG2]; exact hGm β j hj, hkeepTk, fun d β hd => by rw [hb2]; exact hd⟩
  -- tokens that were lost are nobody's
  have hlost : ∀ n y E β, lostF p dst (some n) ≠ none → g.tk n = some (y, E) → y.ownBlock = some β → ∀ c y' E', g.tk c = some (y', E') → y'.ownBlock = some β → lostF p dst (some c) ≠ none := fun n y E β hn hy hβ c y' E' hc hβ' => by
    have := h.mem.tkap n c y y' E E' β hy hc hβ hβ'
    subst this
    exact hn
  have hbox2 : ∀ d cs', s2.b[d]? = some (some cs') → (∃ k cs, p.ls[k]? = some (some d) ∧ bs[k]? = some (some cs) ∧ cs' = giveL k d 0 cs) ∨ ((∀ k : Nat, p.ls[k]? ≠ some (some d)) ∧ (s.tok (lostF p dst)).b[d]? = some (some cs')) := fun d cs' hd' => by
    by_cases hk : ∃ k : Nat, p.ls[k]? = some (some d)
    · obtain ⟨k, hk⟩ := hk
      obtain ⟨cs, old, f1, f2, f3, f4⟩ := b3 k d hk
      rw [hd'] at f4
      cases f4
      rw [Nat.zero_add]
      exact .inl ⟨k, cs, hk, f1, rfl⟩
    · have hk' : ∀ k : Nat, p.ls[k]? ≠ some (some d) := fun k e => hk ⟨k, e⟩
      rw [b4 d hk'] at hd'
      exact .inr ⟨hk', hd'⟩
  have hboxOld : ∀ d cs', s2.b[d]? = some (some cs') → ∃ cs, s.b[d]? = some (some cs) := fun d cs' hd' => by
    rcases hbox2 d cs' hd' with ⟨k, cs, q1, _⟩ | ⟨_, q⟩
    · obtain ⟨_, cs0, _, r, _⟩ := hpb k d q1
      exact ⟨cs0, r⟩
    · obtain ⟨cs0, r, _⟩ := tok_b q
      exact ⟨cs0, r⟩
  have hnot : ∀ (k d o : Nat), p.ls[k]? = some (some d) → ∀ j, j < 1024 → o = sub (0 + k) j → (o < 1024 ∨ ∀ c, p.bs[o / 1024 - 1]? ≠ some (some c)) → False := fun k d o h1 j hj e h2 => by
    subst e
    have hge := sub_ge (0 + k) j
    rcases h2 with h2 | h2
    · omega
    · obtain ⟨_, cs0, r1, _⟩ := hpb k d h1
      rw [sub_div (0 + k) j hj, Nat.zero_add, Nat.add_sub_cancel] at h2
      exact h2 _ r1
  have hmem : Mem P g2 w' s2.b := by
    refine ⟨fun β j hj => post.mem.gsz β j (hG2 ▸ hj), fun d cs' hd' => ?_, fun d d' β c1 c2 h1' h2' q1 q2 => ?_, fun n y E hn => ?_, fun n m y y' E E' β hn hm hv hv' => ?_, fun n y E β d cs' hn hv hd' hβ => ?_, fun d cs' β hd' hβ => (by
      obtain ⟨c0, t0⟩ := hboxOld d cs' hd'
      rw [hb2] at hβ
      exact (h.mem.ty d c0 β t0 hβ).mono post.fr)⟩
    · rcases hbox2 d cs' hd' with ⟨k, cs, q1, q2, rfl⟩ | ⟨q1, q2⟩
      · obtain ⟨β, us, T, e1, e2, e3, e4, e5⟩ := post.mem.box k cs q2
        obtain ⟨hk1, cs0, r1, r2, r3⟩ := hpb k d q1
        have hbx : g'.bx k = g.bx d := by
          rw [post.bx k _ r1]
          show bxC g p.ls k = _
          unfold bxC
          rw [q1]
        refine ⟨β, us, T, by rw [hb2, ← hbx]; exact e1, e2, by rw [giveL_len]; exact e3, fun j hj => e4 j (hG2 ▸ hj), fun j c hj => ?_⟩
        rw [giveL_get] at hj
        obtain ⟨c0, hc0, rfl⟩ := Option.map_eq_some_iff.1 hj
        obtain ⟨u, hu, hr⟩ := e5 j c0 hc0
        rw [Nat.zero_add]
        refine ⟨u, hu, give_rep (g := g') (fun β j hj => ⟨by rw [hG2]; exact hj, rfl⟩) (fun vv hvv => ?_) hr⟩
        have hj1 : j < 1024 := by
          have := (List.getElem?_eq_some_iff.1 hc0).1
          obtain ⟨cs2, old2, f1, f2, f3, f4⟩ := b3 k d q1
          rw [q2] at f1
          cases f1
          obtain ⟨cs3, t1, t2⟩ := tok_b f2
          rw [r2] at t1
          cases t1
          rw [f3, t2] at this
          simp at this
          omega
        rw [← hg2]
        show (match resTok v dst (sub d j) with
          | some m => g'.tk m
          | none => (match boxTok p.ls 0 (sub d j) with
            | some m => g'.tk m
            | none => (match lostF p dst (some (sub d j)) with | some _ => g.tk (sub d j) | none => none))) = some vv
        have e1 : resTok v dst (sub d j) = none := by
          cases hr : resTok v dst (sub d j) with
          | none => rfl
          | some m =>
            obtain ⟨dd, t1, t2⟩ := resTok_dst hr
            subst t1
            simp only [dstOk, Bool.and_eq_true] at hd
            have hdd : dd < 1024 := Nat.le_of_ble_eq_true hd.1
            rcases t2 with t2 | t2
            · have := sub_ge d j; omega
            · rw [sub_div d j hj1] at t2
              have : d = dd := by omega
              subst this
              have := hd.2
              rw [show p.ls.contains (some d) = true by rw [List.contains_iff_mem]; exact List.mem_of_getElem? q1] at this
              cases this
        rw [e1, boxTok_of p.ls 0 (sub d j) k d hp.inj q1 (sub_div d j hj1), sub_mod d j hj1, Nat.zero_add]
        exact hvv
      · obtain ⟨β, us, T, e1, e2, e3, e4, e5⟩ := h1.mem.box d cs' q2
        have e1' : g.bx d = some β := e1
        obtain ⟨cs0, t1, _⟩ := tok_b q2
        obtain ⟨o1, o2⟩ := hold β (Array.getElem?_eq_some_iff.1 e2).1 (fun d' cs k r1 r2 r3 => by
          have := h.mem.apart d d' β cs0 cs t1 r2 e1' r3
          subst this
          exact q1 k r1) (fun c y E r1 r2 => by
          exact absurd r2 fun r2 => h.mem.tkbx c y E β d cs0 r1 r2 t1 e1')
        exact ⟨β, us, T, by rw [hb2]; exact e1', o1.trans e2, e3, fun j hj => e4 j (o2 j (hG2 ▸ hj)), fun j c hc => let ⟨u, hu, hr⟩ := e5 j c hc; ⟨u, hu, hr.mono hle⟩⟩
    · obtain ⟨c3, r1⟩ := hboxOld d c1 h1'
      obtain ⟨c4, r2⟩ := hboxOld d' c2 h2'
      rw [hb2] at q1 q2
      exact h.mem.apart d d' β c3 c4 r1 r2 q1 q2
    · rcases hnew n y E hn with ⟨m, e⟩ | ⟨e1, e2⟩
      · exact (post.mem.own m y E e).keep fun β hβ => ⟨rfl, fun j hj => hG2 ▸ hj⟩
      · refine (h.mem.own n y E e2).keep fun β hβ => ?_
        obtain ⟨o1, o2⟩ := hold β ((h.mem.own n y E e2).lt hβ) (fun d cs k r1 r2 r3 => h.mem.tkbx n y E β d cs e2 hβ r2 r3) (fun c y' E' r1 r2 => hlost n y E β e1 e2 hβ c y' E' r1 r2)
        exact ⟨o1, fun j hj => o2 j (hG2 ▸ hj)⟩
    · have hmix : ∀ m y y' E E', (∃ m', g'.tk m' = some (y, E)) → lostF p dst (some m) ≠ none → g.tk m = some (y', E') → y.ownBlock = some β → y'.ownBlock = some β → False := fun m y y' E E' ⟨m', e⟩ e1 e2 hv hv' => by
        have hlt := (h.mem.own m y' E' e2).lt hv'
        rcases post.tb m' y E β e hv with q | q
        · omega
        · obtain ⟨c, y2, E2, r1, r2, r3⟩ := hsrc β q
          exact hlost m y' E' β e1 e2 hv' c y2 E2 r1 r2 r3
      rcases hcase n y E hn with ⟨o, r, e⟩ | ⟨_, o, r, e⟩ | ⟨e1, e2⟩ <;> rcases hcase m y' E' hm with ⟨o', r', e'⟩ | ⟨_, o', r', e'⟩ | ⟨e1', e2'⟩
      · have := post.mem.tkap o o' y y' E E' β e e' hv hv'
        subst this
        exact resTok_inj r r' post.outv
      · have := post.mem.tkap o o' y y' E E' β e e' hv hv'
        subst this
        have t1 := resTok_lt r post.lt
        obtain ⟨k, d, t3, _, t2⟩ := boxTok_some _ _ _ _ r'
        exact (hnot k d o t3 (m % 1024) (Nat.mod_lt _ (by decide)) t2 t1).elim
      · exact (hmix m y y' E E' ⟨o, e⟩ e1' e2' hv hv').elim
      · have := post.mem.tkap o o' y y' E E' β e e' hv hv'
        subst this
        have t1 := resTok_lt r' post.lt
        obtain ⟨k, d, t3, _, t2⟩ := boxTok_some _ _ _ _ r
        exact (hnot k d o t3 (n % 1024) (Nat.mod_lt _ (by decide)) t2 t1).elim
      · have := post.mem.tkap o o' y y' E E' β e e' hv hv'
        subst this
        obtain ⟨k, d, t1, t2, t3⟩ := boxTok_some _ _ _ _ r
        obtain ⟨k', d', t1', t2', t3'⟩ := boxTok_some _ _ _ _ r'
        obtain ⟨u1, u2⟩ := sub_inj (Nat.mod_lt _ (by decide)) (Nat.mod_lt _ (by decide)) (t3.symm.trans t3')
        have : k = k' := by omega
        subst this
        rw [t1] at t1'
        cases t1'
        omega
      · exact (hmix m y y' E E' ⟨o, e⟩ e1' e2' hv hv').elim
      · exact (hmix n y' y E' E ⟨o', e'⟩ e1 e2 hv' hv).elim
      · exact (hmix n y' y E' E ⟨o', e'⟩ e1 e2 hv' hv).elim
      · exact h.mem.tkap n m y y' E E' β e2 e2' hv hv'
    · obtain ⟨c0, t0⟩ := hboxOld d cs' hd'
      rw [hb2] at hβ
      rcases hnew n y E hn with ⟨m, e⟩ | ⟨e1, e2⟩
      · rcases hbox2 d cs' hd' with ⟨k, cs, q1, q2, _⟩ | ⟨q1, q2⟩
        · obtain ⟨hk1, cs0, r1, r2, r3⟩ := hpb k d q1
          have hbx : g'.bx k = g.bx d := by
            rw [post.bx k _ r1]
            show bxC g p.ls k = _
            unfold bxC
            rw [q1]
          exact post.mem.tkbx m y E β k cs e hv q2 (by rw [hbx]; exact hβ)
        · obtain ⟨β', us, T, f1, f2, _⟩ := h.mem.box d c0 t0
          rw [hβ] at f1
          cases f1
          have hlt := (Array.getElem?_eq_some_iff.1 f2).1
          rcases post.tb m y E β e hv with q | q
          · omega
          · obtain ⟨c, y2, E2, r1, r2, r3⟩ := hsrc β q
            exact h.mem.tkbx c y2 E2 β d c0 r1 r2 t0 hβ
      · exact h.mem.tkbx n y E β d c0 e2 hv t0 hβ
  have hI : Inv P F g2 s2 a w' := by
    refine ⟨hmem, by rw [b2, b1]; exact h1.blen, by rw [b1]; exact h1.len, fun i z hi => ?_, h.dfr, h.fr.trans post.fr (fun _ _ _ t => t) (fun β j hlt t => ?_), fun β j hj => by rw [hG2]; exact post.g0 β j (h.g0 β j hj), fun β j hj hlt => ?_, fun n y E β hn hv => ?_, fun d cs' β hd' hβ => ?_, fun i hi hn => by rw [hb2]; exact h.pbx i hi hn⟩
    · rw [b1] at hi
      obtain ⟨u, q1, q2⟩ := h1.tm i z hi
      exact ⟨u, q1, q2.mono hle⟩
    · rcases t with t | ⟨t, hnG⟩
      · obtain ⟨k, d, cs, _, q2, q3⟩ := hbb β t
        rcases h.bb d cs β q2 q3 with e | e
        · omega
        · exact .inl e
      · obtain ⟨c, y, E, r1, r2, _⟩ := hsrc β t
        rcases h.tb c y E β r1 r2 with e | e
        · omega
        · exact .inr ⟨e, fun hF => hnG (h.g0 β j hF)⟩
    · rw [hG2] at hj
      have hs := h.fr.size
      rcases post.gfr β j hj (by omega) with q | q
      · exact h.gfr β j q hlt
      · obtain ⟨c, y, E, r1, r2, _⟩ := hsrc β q
        rcases h.tb c y E β r1 r2 with e | e
        · omega
        · exact .inr e
    · have hs := h.fr.size
      rcases hnew n y E hn with ⟨m, e⟩ | ⟨e1, e2⟩
      · rcases post.tb m y E β e hv with q | q
        · exact .inl (by omega)
        · obtain ⟨c, y', E', r1, r2, _⟩ := hsrc β q
          exact h.tb c y' E' β r1 r2
      · exact h.tb n y E β e2 hv
    · obtain ⟨c0, t0⟩ := hboxOld d cs' hd'
      rw [hb2] at hβ
      exact h.bb d c0 β t0 hβ
  refine ⟨g2, ?_⟩
  cases dst with
  | none => exact hI
  | some d =>
    refine hI.put (some d) ?_
    have hrep := post.rep
    have hov := post.outv
    have htk2 : ∀ n m, resTok v (some d) n = some m → ∀ vv, g'.tk m = some vv → g2.tk n = some vv := fun n m hn vv hvv => by
      rw [← hg2]
      show (match resTok v (some d) n with
        | some m => g'.tk m
        | none => _) = some vv
      rw [hn]
      exact hvv
    by_cases ht : ∃ vs, v = .tup vs
    · obtain ⟨vs, rfl⟩ := ht
      simp only [newTok] at hy
      cases hc : Nat.ble vs.length 1024 <;> rw [hc] at hy <;> cases hy
      have hc' := Nat.le_of_ble_eq_true hc
      obtain ⟨us, r1, r2, r3⟩ := hrep
      refine ⟨us, r1, by rw [nameL_len]; exact r2, fun j c hj => ?_⟩
      rw [nameL_get] at hj
      obtain ⟨c0, hc0, rfl⟩ := Option.map_eq_some_iff.1 hj
      obtain ⟨u, hu, hr⟩ := r3 j c0 hc0
      refine ⟨u, hu, name_rep hG2 (fun d o e => hov.1 j d o (by rw [hc0, e])) (fun f a b e => hov.2.1 j f a b (by rw [hc0, e])) (fun m E l e vv hvv => ?_) (fun cs e => hov.2.2.1 j cs (by rw [hc0, e])) hr⟩
      rw [Nat.zero_add]
      have hj1 : j < 1024 := Nat.lt_of_lt_of_le (List.getElem?_eq_some_iff.1 hc0).1 hc'
      refine htk2 _ m ?_ vv hvv
      simp only [resTok]
      rw [if_pos (sub_div d j hj1), sub_mod d j hj1, hc0, e]
    by_cases ha : ∃ vs, v = .agg vs
    · obtain ⟨vs, rfl⟩ := ha
      simp only [newTok] at hy
      cases hc : Nat.ble vs.length 1024 <;> rw [hc] at hy <;> cases hy
      have hc' := Nat.le_of_ble_eq_true hc
      obtain ⟨us, r1, r2, r3⟩ := (show RepT P g' w' (.agg vs) x from hrep)
      refine (show RepT P g2 w' (.agg (nameL d 0 vs)) x from ⟨us, r1, by rw [nameL_len]; exact r2, fun j c hj => ?_⟩)
      rw [nameL_get] at hj
      obtain ⟨c0, hc0, rfl⟩ := Option.map_eq_some_iff.1 hj
      obtain ⟨u, hu, hr⟩ := r3 j c0 hc0
      refine ⟨u, hu, nameC_rep hG2 (fun d o e => hov.1 j d o (by rw [hc0, e])) (fun f a b e => hov.2.1 j f a b (by rw [hc0, e])) (fun m E l e vv hvv => ?_) hr⟩
      rw [Nat.zero_add]
      have hj1 : j < 1024 := Nat.lt_of_lt_of_le (List.getElem?_eq_some_iff.1 hc0).1 hc'
      refine htk2 _ m ?_ vv hvv
      simp only [resTok]
      rw [if_pos (sub_div d j hj1), sub_mod d j hj1, hc0, e]
    · have hyv : y = v.name d := by
        have : newTok (some d) v = some (v.name d) := by
          cases v <;> first | rfl | exact absurd ⟨_, rfl⟩ ht | exact absurd ⟨_, rfl⟩ ha
        rw [this] at hy
        exact (Option.some.inj hy).symm
      rw [hyv]
      have hnt : ∀ cs, v.name d ≠ .tup cs := fun cs e => by
        cases v with
        | row t E l => cases t <;> cases e
        | tup vs => exact ht ⟨vs, rfl⟩
        | _ => cases e
      rw [RepS.eq hnt]
      rw [RepS.eq (fun cs e => ht ⟨cs, e⟩)] at hrep
      refine name_rep hG2 (fun e o he => by rw [he] at hov; exact hov) (fun e a b he => by rw [he] at hov; exact hov) (fun m E l e vv hvv => ?_) (fun cs e => absurd ⟨cs, e⟩ ha) hrep
      refine htk2 d m ?_ vv hvv
      rw [e]
      simp [resTok]
end
end Go.Proofs.YtckdgcpomkefpaaGreatDoor.En
end
section
set_option linter.unusedVariables false
set_option linter.unusedSimpArgs false
namespace Go.Proofs.YtckdgcpomkefpaaGreatDoor.En
open Go
section
variable {P : Program} {F : Fx} {g : Gh} {s : St} {a : Act} {w : World}
theorem map_get {xs : Array Operand} (h : Inv P F g s a w) (hok : ∀ y ∈ xs.toList, okO y = true) (i : Nat) (x : AV) (hi : (xs.toList.map s.ev)[i]? = some x) : ∃ v, (xs.map a.eval)[i]? = some v ∧ RepS P g w x v := by
  rw [List.getElem?_map] at hi
  obtain ⟨y, hy, rfl⟩ := Option.map_eq_some_iff.1 hi
  refine ⟨a.eval y, ?_, h.ev y (hok y (List.mem_of_getElem? hy))⟩
  rw [Array.getElem?_map, ← Array.getElem?_toList, hy]
  rfl
theorem bif_some {β : Type} {c : Bool} {x : Option β} {o : β} (h : (bif c then x else none) = some o) : c = true ∧ x = some o := by
  cases c
  · cases h
  · exact ⟨rfl, h⟩
theorem append_run {Ts : Array TypeId} {ty : TypeId} {y z : Operand} {dst : Option Tmp} {pos : String} {after : Array Edge} {guard : Option (Nat × Bool)} {v : Value} {w' : World}
    (h : (Builtin.append_ Ts ty #[a.eval y, a.eval z]).run P w = .ok v w') : (execOp a.eval ⟨dst, .call { callee := .builtin .append, args := #[y, z], argTypes := Ts }, ty, pos, after, guard⟩).run P w = .ok (.value v) w' := by
  simp [execOp, resolve, invoke, builtin, h]
theorem ne_u8 {T : TypeId} (h : (!Nat.beq T u8Id) = true) : T ≠ u8Id := fun e => by
  rw [e, Nat.beq_refl] at h
  cases h
theorem Fr.dead {T : Nat → Nat → Prop} (h : Inv P F g s a w) : Fr F.T F.w0 w := h.fr
theorem Rep1.S1 {x : AV} {v : Value} (h : Rep1 g x v) : RepS P g w x v := by
  cases x <;> first | exact h.elim | exact h | exact trivial
theorem callK_sound {β : Type} {takes : FuncId → Option Nat} {call : CallF} {thr : Value → Option β} {o : Oper} {k : St → Option β} {out : β} {f : FuncId} {Ts : Array TypeId} {xs : List AV} {vs : Array Value} {dst : Option Tmp} (hcall : SoundCall P call) (h : Inv P F g s a w)
    (hargs : ∀ (i : Nat) x, xs[i]? = some x → ∃ v, vs[i]? = some v ∧ RepS P g w x v) (hvl : vs.size = xs.length) (hx : callK P takes call thr f Ts xs dst s k = some out) (hdst' : o.dst = dst)
    (hrun : ∀ fn, P.funcs[f]? = some fn → fn.body.isSome = true → (fn.name == "runtime.NumGoroutine") = false → (execOp a.eval o).run P w = .ok (.enter f vs) w) {K : Act → World → Prop} {Q : Exit → Act → World → Prop}
    (hk : ∀ g' s' a' w', k s' = some out → Inv P F g' s' a' w' → K a' w') (ht : ∀ v a' w', thr v = some out → a'.defers = F.ds → Fr F.T F.w0 w' → Q (.panic [{ v := v, recovered := false }]) a' w') : o.wp P a w K Q := by
  unfold callK at hx
  obtain ⟨hsz, hx⟩ := bif_some hx
  obtain ⟨p, hp, hx⟩ := Option.bind_eq_some_iff.1 hx
  obtain ⟨hdst, hx⟩ := bif_some hx
  obtain ⟨⟨qb, r⟩, hr, hx⟩ := Option.bind_eq_some_iff.1 hx
  obtain ⟨hqb, hx⟩ := bif_some hx
  dsimp only at hqb hx
  subst hqb
  obtain ⟨⟨fn, hfn, hbody, hname⟩, hsound⟩ := hcall f p.xs p.bs r hr
  have hspec := argsFor_spec _ _ _ _ hp
  have hlen : xs.length ≤ 1024 := Nat.le_of_ble_eq_true hsz
  have hC := hsound (ghC P g (takes f) (parL P f Ts) xs p.ls) w vs (pass_mem h hspec hlen) ⟨h.laid.G, h.laid.P⟩ (by rw [hspec.lb, hspec.lx]) (by rw [hspec.lx]; exact hvl) (fun i x hi => pass_args h hspec hlen hargs i x hi)
  unfold Oper.wp
  rw [hrun fn hfn hbody hname]
  rw [Oper.upon_enter, hdst']
  refine hC.mono fun e w' he => ?_
  rw [outK_flat] at hx
  unfold PostOf at he
  generalize r.flat = r at hx he
  cases r with
  | alt b x y => exact he.elim
  | thr v =>
    obtain ⟨rfl, hfr⟩ := he
    exact ht v a w' hx h.dfr (h.fr.trans hfr (fun _ _ _ t => t) (fun β j hlt t => pass_T h hspec hlt t))
  | ret v bs =>
    obtain ⟨x, g', rfl, post⟩ := he
    obtain ⟨s2, hb, hx⟩ := Option.bind_eq_some_iff.1 hx
    obtain ⟨y, hy, hx⟩ := Option.bind_eq_some_iff.1 hx
    have hI : ∃ g2, Inv P F g2 (s2.put dst y) (a.put dst x) w' := by
      by_cases hv : ∃ z, v = .v z
      · obtain ⟨z, rfl⟩ := hv
        obtain ⟨g2, hI⟩ := back_inv (dst := none) (y := .dead) h hspec hlen post rfl hb rfl
        have hI' : Inv P F g2 s2 a w' := hI
        refine ⟨g2, hI'.put dst ?_⟩
        cases dst with
        | none => cases hy; exact trivial
        | some d => cases hy; exact post.rep
      · have e : dstN v dst = dst := by cases v <;> first | rfl | exact absurd ⟨_, rfl⟩ hv
        rw [e] at hb
        exact back_inv h hspec hlen post hdst hb hy
    obtain ⟨g2, hI⟩ := hI
    exact hk _ _ _ _ hx hI
theorem evX_sound {β : Type} {takes : FuncId → Option Nat} {call : CallF} {thr : Value → Option β} {o : Oper} {k : St → Option β} {out : β} (hcall : SoundCall P call) (h : Inv P F g s a w) (hok : okOp o = true)
    (hx : evX P F.np takes call thr o s k = some out) {K : Act → World → Prop} {Q : Exit → Act → World → Prop}
    (hk : ∀ g' s' a' w', k s' = some out → Inv P F g' s' a' w' → K a' w') (ht : ∀ v a' w', thr v = some out → a'.defers = F.ds → Fr F.T F.w0 w' → Q (.panic [{ v := v, recovered := false }]) a' w') : o.wp P a w K Q := by
  have hev := fun (y : Operand) (hy : y ∈ o.op.operands.toList) => h.ev y (okOp_mem hok hy)
  obtain ⟨dst, op, ty, pos, after, guard⟩ := o
  unfold evX at hx
  simp only [appendK_eq] at hx
  (try dsimp only at hx)
  split at hx
  case h_1 y d =>
    obtain ⟨g', hI⟩ := h.assign (T := ty) (d := d) (hev y (by simp [Op.operands]))
    exact wp_value (v := a.eval y) (w' := w) rfl (hk _ _ _ _ hx hI)
  case h_2 T d =>
    obtain ⟨z, hz, hx⟩ := Option.bind_eq_some_iff.1 hx
    obtain ⟨ks, hks, hx⟩ := Option.bind_eq_some_iff.1 hx
    cases hc : (Nat.ble F.np d && Nat.ble ks.length 1024 && Nat.beq z.length ks.length && Nat.blt d s.t.length && !Nat.beq T u8Id) <;> rw [hc] at hx
    · cases hx
    simp only [Bool.and_eq_true] at hc
    obtain ⟨zv, z1, z2, z3⟩ := zero_rep (P := P) (w := w) hz
    obtain ⟨g', hI⟩ := h.newBox (Nat.le_of_ble_eq_true hc.1.1.1.1) (Nat.le_of_ble_eq_true hc.1.2) (ne_u8 hc.2) (Push.alloc w (.cells zv.cells T (0, 0))) (ks := ks) (cs := z) (Nat.le_of_ble_eq_true hc.1.1.1.2) (Nat.eq_of_beq_eq_true hc.1.1.2).symm z2 (fun j c hj => by
      obtain ⟨u, q1, rfl, q2⟩ := z3 j c hj
      exact ⟨u, q1, rfl, q2⟩)
    refine wp_value (v := .pointer (some ⟨w.heap.size, 0, none⟩)) (w' := w.alloc (.cells zv.cells T (0, 0))) ?_ (hk _ _ _ _ hx hI)
    simp [execOp, Instr.alloc, z1, newVar, newRow]
  case h_3 T y d =>
    obtain ⟨ks, hks, hx⟩ := Option.bind_eq_some_iff.1 hx
    cases hc : (Nat.ble F.np d && Nat.ble ks.length 1024 && Nat.beq (s.ev y).cells.length ks.length && (s.ev y).cells.all AV.one && Nat.blt d s.t.length && !Nat.beq T u8Id) <;> rw [hc] at hx
    · cases hx
    simp only [Bool.and_eq_true] at hc
    obtain ⟨c1, c2⟩ := cells_rep (hev y (by simp [Op.operands])) hc.1.1.2
    obtain ⟨g', hI⟩ := h.newBox (Nat.le_of_ble_eq_true hc.1.1.1.1.1) (Nat.le_of_ble_eq_true hc.1.2) (ne_u8 hc.2) (Push.alloc w (.cells (a.eval y).cells T (0, 0))) (ks := ks) (cs := (s.ev y).cells) (Nat.le_of_ble_eq_true hc.1.1.1.1.2) (Nat.eq_of_beq_eq_true hc.1.1.1.2).symm c1 c2
    refine wp_value (v := .pointer (some ⟨w.heap.size, 0, none⟩)) (w' := w.alloc (.cells (a.eval y).cells T (0, 0))) ?_ (hk _ _ _ _ hx hI)
    simp [execOp, Instr.box, newVar, newRow]
  case h_4 T n ps d =>
    obtain ⟨E, hE, hx⟩ := Option.bind_eq_some_iff.1 hx
    obtain ⟨ks, hks, hx⟩ := Option.bind_eq_some_iff.1 hx
    obtain ⟨l, hl, hx⟩ := Option.bind_eq_some_iff.1 hx
    obtain ⟨hc, hx⟩ := bif_some hx
    simp only [Bool.and_eq_true] at hc
    obtain ⟨⟨⟨⟨⟨⟨c1, c2⟩, c3⟩, c4⟩, c5⟩, c6⟩, c7⟩ := hc
    obtain ⟨v, w', q1, ⟨g', q2⟩, _⟩ := bslice_sound h (T := T) hE hks hl (Nat.eq_of_beq_eq_true c1) (by simpa using c2) c3 (Nat.le_of_ble_eq_true c4) (Nat.le_of_ble_eq_true c5) c7 (Nat.le_of_ble_eq_true c6) (fun i x hx => hev x (by simp [Op.operands]; exact ⟨_, by simpa using hx⟩))
    refine wp_value (v := v) (w' := w') ?_ (hk _ _ _ _ hx q2)
    simp [execOp, q1]
  case h_5 src dst' y d =>
    have hy := hev y (by simp [Op.operands])
    split at hx
    · rename_i str hyv
      split at hx
      · rename_i E h1 h2
        split at hx
        · rename_i h3
          obtain ⟨hc, hx⟩ := bif_some hx
          simp only [Bool.and_eq_true] at hc
          rw [hyv] at hy
          obtain ⟨ey, _⟩ := (show a.eval y = .string str ∧ _ from hy)
          obtain ⟨v, w1, q1, ⟨g', q2⟩, _⟩ := s2b_sound h (src := src) (dst := dst') str h1 h2 h3 (Nat.le_of_ble_eq_true hc.1) d
          refine wp_value (v := v) (w' := w1) ?_ (hk _ _ _ _ hx q2)
          simp [execOp, ey, q1]
        · cases hx
      · cases hx
    · rename_i n E l hyv
      obtain ⟨hc, hx⟩ := bif_some hx
      simp only [Bool.and_eq_true] at hc
      rw [hyv] at hy
      obtain ⟨w1, q1, q2⟩ := mark_sound h (by simpa using hc.1.2) hc.1.1 (Nat.le_of_ble_eq_true hc.2) (show RepC P g w (.row (some n) E l) (a.eval y) from hy)
      have hy2 := q2.ev y (okOp_mem hok (by simp [Op.operands]))
      rw [hyv] at hy2
      obtain ⟨g', hI⟩ := q2.assign (T := dst') (d := d) hy2
      refine wp_value (v := a.eval y) (w' := w1) ?_ (hk _ _ _ _ hx hI)
      simp [execOp, q1]
    · cases hx
  case h_6 T y z =>
    obtain ⟨s', h1, h2⟩ := Option.bind_eq_some_iff.1 hx
    obtain ⟨g', w', q1, q2⟩ := store_sound h h1 (hev y (by simp [Op.operands])) (hev z (by simp [Op.operands]))
    refine wp_skip' (w' := w') ?_ (hk _ _ _ _ h2 q2)
    simp [execOp, q1]
  case h_7 y =>
    have hy := hev y (by simp [Op.operands])
    split at hx
    · rename_i T x hyv
      rw [hyv] at hy
      obtain ⟨ey, _⟩ := (show a.eval y = .iface T x ∧ _ from hy)
      unfold Oper.wp
      have : (execOp a.eval ⟨dst, .panic y, ty, pos, after, guard⟩).run P w = .halt (.panic (.iface T x)) w := by
        simp [execOp, ey, Instr.panic, goPanic]
      rw [this]
      exact ht _ _ _ hx h.dfr h.fr
    · cases hx
  case h_8 xs Ts d =>
    obtain ⟨hd, hx⟩ := bif_some hx
    obtain ⟨s', h1, h2⟩ := Option.bind_eq_some_iff.1 hx
    have hd' : d < s.t.length := Nat.le_of_ble_eq_true hd
    obtain ⟨xs⟩ := xs
    unfold appendAV at h1
    split at h1
    · rename_i n E l y' hxs
      have hbs := bif_some h1
      clear h1
      obtain ⟨hok', h1⟩ := hbs
      obtain ⟨x0, r, rfl⟩ : ∃ x0 r, xs = x0 :: r := by
        cases xs with
        | nil => simp at hxs
        | cons x r => exact ⟨x, r, rfl⟩
      obtain ⟨y0, r, rfl⟩ : ∃ y0 r', r = y0 :: r' := by
        cases r with
        | nil => simp at hxs
        | cons y r => exact ⟨y, r, rfl⟩
      have hr : r = [] := by
        cases r with
        | nil => rfl
        | cons y r => simp at hxs
      subst hr
      simp at hxs
      obtain ⟨e1, e2⟩ := hxs
      have hx0 := hev x0 (by simp [Op.operands, Call.operands])
      have hy0 := hev y0 (by simp [Op.operands, Call.operands])
      rw [e1] at hx0
      rw [e2] at hy0
      obtain ⟨ks, hks, hp0⟩ : ∃ ks, kinds P E = some ks ∧ 0 < ks.length := by
        unfold appOk at hok'
        split at hok'
        · simp only [Bool.and_eq_true] at hok'
          have o3 := hok'.2
          split at o3
          · rename_i ks i e3 e4
            simp only [Bool.and_eq_true] at o3
            exact ⟨ks, e3, Nat.le_of_ble_eq_true o3.1.1.2⟩
          · cases o3
        · cases hok'
      have fin : ∀ (l2 : List Dat) (ys : List Value), Src P g.G w ks l2 (a.eval y0) ys → l.length + l2.length ≤ fitsN → s' = ((s.kill n).kill d).put (some d) (.row (some d) E (l ++ l2)) → Oper.wp P { dst := some d, op := .call { callee := .builtin .append, args := #[x0, y0], argTypes := Ts }, type := ty, pos := pos, after := after, guard := guard } a w K Q := fun l2 ys hS hlen hs' => by
        obtain ⟨g', v', w', q1, q2⟩ := append_sound h (ty := ty) hok' hks hx0 hS hlen hd'
        subst hs'
        exact wp_value (K := K) (Q := Q) (append_run (dst := some d) (pos := pos) (after := after) (guard := guard) q1) (hk _ _ _ _ h2 q2)
      split at h1
      · rename_i t E' m
        have hbs := bif_some h1
        clear h1
        obtain ⟨hc, h1⟩ := hbs
        simp only [Bool.and_eq_true] at hc
        have : E = E' := by simpa using hc.1
        subst this
        obtain ⟨ys, hS⟩ := (show RepC P g w (.row t E m) (a.eval y0) from hy0).1.src hks hp0
        cases h1
        exact fin m ys hS (by simpa using Nat.le_of_ble_eq_true hc.2) rfl
      · obtain ⟨ey, _⟩ := (show a.eval y0 = .slice none 0 0 ∧ _ from hy0)
        obtain ⟨hc, h1⟩ := bif_some h1
        cases h1
        obtain ⟨ys, hS⟩ := (RepRow.nil (P := P) (G := g.G) (w := w) E none 0).src hks hp0
        exact fin [] ys (by rw [ey]; exact hS) (by simpa using Nat.le_of_ble_eq_true hc) (by simp)
      · rename_i str
        obtain ⟨ey, _⟩ := (show a.eval y0 = .string str ∧ _ from hy0)
        split at h1
        · rename_i hu
          obtain ⟨hc, h1⟩ := bif_some h1
          cases h1
          have hkb := kinds_byte hu
          rw [hkb] at hks
          cases hks
          obtain ⟨ys, hS⟩ := string_src (P := P) (G := g.G) (w := w) str
          refine fin (bytesTo str) ys (by rw [ey]; exact hS) ?_ rfl
          have : (bytesTo str).length = str.size := by simp [bytesTo]
          rw [this]
          exact Nat.le_of_ble_eq_true hc
        · cases h1
      · cases h1
    · rename_i t E' m hxs
      obtain ⟨x0, r, rfl⟩ : ∃ x0 r, xs = x0 :: r := by
        cases xs with
        | nil => simp at hxs
        | cons x r => exact ⟨x, r, rfl⟩
      obtain ⟨y0, r, rfl⟩ : ∃ y0 r', r = y0 :: r' := by
        cases r with
        | nil => simp at hxs
        | cons y r => exact ⟨y, r, rfl⟩
      have hr : r = [] := by
        cases r with
        | nil => rfl
        | cons y r => simp at hxs
      subst hr
      simp at hxs
      obtain ⟨e1, e2⟩ := hxs
      have hx0 := hev x0 (by simp [Op.operands, Call.operands])
      have hy0 := hev y0 (by simp [Op.operands, Call.operands])
      rw [e1] at hx0
      rw [e2] at hy0
      split at h1
      · rename_i E hE
        have hbs := bif_some h1
        clear h1
        obtain ⟨hok', h1⟩ := hbs
        have hbs := bif_some h1
        clear h1
        obtain ⟨hc, h1⟩ := hbs
        simp only [Bool.and_eq_true] at hc
        have : E = E' := by simpa using hc.1
        subst this
        obtain ⟨ks, hks, hp0⟩ : ∃ ks, kinds P E = some ks ∧ 0 < ks.length := by
          unfold appOk at hok'
          split at hok'
          · simp only [Bool.and_eq_true] at hok'
            have o3 := hok'.2
            split at o3
            · rename_i ks i e3 e4
              simp only [Bool.and_eq_true] at o3
              exact ⟨ks, e3, Nat.le_of_ble_eq_true o3.1.1.2⟩
            · cases o3
          · cases hok'
        have hk1 := h.kills (killF_kills d)
        have hd0 : (g.kills (killF d)).tk d = none := kills_tk (killF_kills d) (killF_self d)
        have hk2 := hk1.nils (N := one1 d E) (fun m hm => by
          unfold one1 at hm
          by_cases e : m = d
          · rw [e]; exact hd0
          · rw [if_neg e] at hm; exact absurd rfl hm)
        have hrow := (show RepC P g w (.row t E m) (a.eval y0) from hy0).1
        obtain ⟨ys, hS⟩ := hrow.src hks hp0
        have hxr : RepS P ((g.kills (killF d)).nils (one1 d E)) w (.row (some d) E []) (a.eval x0) := by
          obtain ⟨ex, _⟩ := (show a.eval x0 = .slice none 0 0 ∧ _ from hx0)
          rw [ex]
          refine (show RepC P _ w (.row (some d) E []) _ from ⟨.nil _ _ _, fun q hq => ?_⟩)
          cases hq
          show (match one1 d E d with | some E => some (Value.slice none 0 0, E) | none => _) = _
          simp [one1]
        obtain ⟨g', v', w', q1, q2⟩ := append_sound hk2 (ty := ty) (d := d) (n := d) hok' hks hxr (by exact hS) (by simpa using Nat.le_of_ble_eq_true hc.2) (by simpa [St.kill, St.tok] using hd')
        have ek : ((s.tok (killF d)).kill d).kill d = s.kill d := by
          show ((s.kill d).kill d).kill d = _
          rw [kill_kill, kill_kill]
        rw [ek, List.nil_append] at q2
        cases h1
        exact wp_value (K := K) (Q := Q) (append_run (dst := some d) (pos := pos) (after := after) (guard := guard) q1) (hk _ _ _ _ h2 q2)
      · cases h1
    · cases h1
  case h_9 dst' f xs Ts =>
    exact callK_sound (vs := xs.map a.eval) hcall h (fun i x hi => map_get (P := P) (F := F) (g := g) (w := w) (a := a) h (xs := xs) (fun y hy => okOp_mem hok (by simp [Op.operands, Call.operands]; exact .inr (by simpa using hy))) i x hi) (by simp) hx rfl (fun fn hfn hbody hname => by
      have hb : ¬ fn.body = none := by intro e; rw [e] at hbody; cases hbody
      have hn : ¬ fn.name = "runtime.NumGoroutine" := by simpa using hname
      simp [execOp, resolve, Act.eval, Deferred.ofValue, invoke, callFunc, hfn, hn, hb]) hk ht
  case h_10 dst' t xs Ts =>
    split at hx
    · rename_i f ys cs hst
      have hf := h.get t
      rw [hst] at hf
      obtain ⟨us, ws, ev, e1, e2, e3, e4⟩ := (show RepC P g w (.fn f ys cs) _ from hf)
      have hmg := map_get (P := P) (F := F) (g := g) (w := w) (a := a) h (xs := xs) (fun y hy => okOp_mem hok (by simp [Op.operands, Call.operands]; exact .inr (by simpa using hy)))
      refine callK_sound (vs := us ++ (xs.map a.eval ++ ws)) hcall h (fun i x hi => ?_) (by simp [e1, e2]) hx rfl (fun fn hfn hbody hname => by
        have hb : ¬ fn.body = none := by intro e; rw [e] at hbody; cases hbody
        have hn : ¬ fn.name = "runtime.NumGoroutine" := by simpa using hname
        simp [execOp, resolve, Act.eval, Deferred.ofValue, invoke, callFunc, hfn, hn, hb, ev]) hk ht
      rw [Array.getElem?_append, Array.getElem?_append]
      rw [List.getElem?_append, List.getElem?_append] at hi
      simp only [Array.size_map, List.length_map, Array.length_toList] at hi ⊢
      rw [e1]
      split at hi
      · rename_i hlt
        obtain ⟨u, q1, q2⟩ := e3 i x hi
        exact ⟨u, by rw [if_pos hlt]; exact q1, q2.S1⟩
      · rename_i hlt
        rw [if_neg hlt]
        split at hi
        · rename_i hlt2
          rw [if_pos hlt2]
          exact hmg _ x hi
        · rename_i hlt2
          rw [if_neg hlt2]
          obtain ⟨u, q1, q2⟩ := e4 _ x hi
          exact ⟨u, q1, q2.S1⟩
    · cases hx
  case h_11 => cases hx
end
end Go.Proofs.YtckdgcpomkefpaaGreatDoor.En
end
section
set_option linter.unusedVariables false
set_option linter.unusedSimpArgs false
namespace Go.Proofs.YtckdgcpomkefpaaGreatDoor.En
open Go
theorem pureK_eq {β : Type} (op : BinOp) (x y : Value) (k : Value → Option β) : pureK op x y k = (pureOp op x y).bind k := by
  cases x <;> cases y <;> first | rfl | skip
  case int.int i a j b =>
    cases op <;> first | rfl | skip
    · unfold pureK pureOp; dsimp only; split <;> first | rfl | (cases decide (b = 0) <;> rfl)
    · unfold pureK pureOp; dsimp only; split <;> first | rfl | (cases decide (b = 0) <;> rfl)
    · unfold pureK pureOp; dsimp only; cases decide (b < 0) <;> rfl
    · unfold pureK pureOp; dsimp only; cases decide (b < 0) <;> rfl
  case string.string a b =>
    cases op <;> first | rfl | skip
    unfold pureK pureOp; dsimp only
    cases decide (a.size + b.size ≤ 4611686018427387904) <;> rfl
theorem bif_bind {α β : Type} (c : Bool) (x : Option α) (k : α → Option β) : (bif c then x else none).bind k = bif c then x.bind k else none := by cases c <;> rfl
theorem rhsK_eq {β : Type} (P : Program) (o : Oper) (s : St) (k : AV → Option β) : rhsK P o s k = (rhs P o s).bind k := by
  obtain ⟨dst, op, ty, pos, after, guard⟩ := o
  cases op <;> first | rfl | skip
  case binOp op T x y z =>
    unfold rhsK rhs
    dsimp only
    split
    · rename_i a b _ _
      rw [bif_bind, pureK_eq]
      cases pureOp op a b <;> rfl
    · rfl
    · rfl
  case slice T x lo hi mx =>
    cases mx with
    | some _ => rfl
    | none =>
      unfold rhsK rhs
      dsimp only
      split
      · simp only [Option.bind_assoc, bif_bind, Option.bind_some]
      · simp only [Option.bind_assoc, bif_bind, Option.bind_some]
      · rfl
  case indexAddr T x i =>
    unfold rhsK rhs
    dsimp only
    split
    · simp only [Option.bind_assoc, bif_bind, Option.bind_some]
    · rfl
  case index T x i =>
    unfold rhsK rhs
    dsimp only
    split
    · simp only [Option.bind_assoc, bif_bind, Option.bind_some]
    · rfl
theorem evOp_def {P : Program} {np : Nat} {dr : Bool} {takes : FuncId → Option Nat} {call : CallF} {β : Type} (thr : Value → Option β) (o : Oper) (s : St) (k : St → Option β) : evOp P np dr takes call thr o s k =
    bif reads P o.op then (rhs P o s).bind fun x => k (s.put o.dst x) else bif dr && bsOp o then (rhsB P o s).bind fun x => k (s.put o.dst x) else evX P np takes call thr o s k := by
  unfold evOp
  rw [rhsK_eq]
section
variable (P : Program) (np : Nat) (dr : Bool) (takes : FuncId → Option Nat) (call : CallF)
def stE (o : Oper) (s : St) : Option (St ⊕ Value) := evOp P np dr takes call (fun v => some (.inr v)) o s (fun s => some (.inl s))
def stO (ops : List Oper) (o : Oper) (s : St) : Option (St ⊕ Value) := (wantB s ops o.guard).bind fun wn => bif wn then stE P np dr takes call o s else some (.inl (s.put o.dst (.tup [])))
def thenR (r : Option (St ⊕ Value)) (k : St → Option (St ⊕ Value)) : Option (St ⊕ Value) := match r with
  | some (.inl s) => k s
  | some (.inr v) => some (.inr v)
  | none => none
def runO (ops : List Oper) : List Oper → St → Option (St ⊕ Value)
  | [], s => some (.inl s)
  | o :: l, s => thenR (stO P np dr takes call ops o s) (runO ops l)
end
def fin {β : Type} (thr : Value → Option β) (k : St → Option β) : Option (St ⊕ Value) → Option β
  | none => none
  | some (.inl s) => k s
  | some (.inr v) => thr v
section
variable {P : Program} {F : Fx} {g : Gh} {s : St} {a : Act} {w : World} {np : Nat} {dr : Bool} {takes : FuncId → Option Nat} {call : CallF}
theorem fin_bind {β α : Type} {thr : Value → Option β} {k : St → Option β} (x : Option α) (f : α → Option (St ⊕ Value)) : fin thr k (x.bind f) = x.bind (fun a => fin thr k (f a)) := by
  cases x <;> rfl
theorem fin_bif {β : Type} {thr : Value → Option β} {k : St → Option β} (c : Bool) (x y : Option (St ⊕ Value)) : fin thr k (bif c then x else y) = bif c then fin thr k x else fin thr k y := by
  cases c <;> rfl
theorem fin_inl {β : Type} {thr : Value → Option β} {k : St → Option β} (s : St) : fin thr k (some (.inl s)) = k s := rfl
theorem fin_inr {β : Type} {thr : Value → Option β} {k : St → Option β} (v : Value) : fin thr k (some (.inr v)) = thr v := rfl
theorem fin_none {β : Type} {thr : Value → Option β} {k : St → Option β} : fin thr k none = none := rfl
theorem fin_outK {β : Type} {thr : Value → Option β} {k : St → Option β} (t : Value → Option (St ⊕ Value)) (r : AV → Bx → Option (St ⊕ Value)) : ∀ o : Out, fin thr k (outK t r o) = outK (fun v => fin thr k (t v)) (fun v bs => fin thr k (r v bs)) o
  | .thr v => rfl
  | .ret v bs => rfl
  | .alt b x y => by
    cases b
    · exact fin_outK t r y
    · exact fin_outK t r x
theorem callK_st {β : Type} (thr : Value → Option β) (f : FuncId) (Ts : Array TypeId) (xs : List AV) (dst : Option Tmp) (s : St) (k : St → Option β) :
    callK P takes call thr f Ts xs dst s k = fin thr k (callK P takes call (fun v => some (.inr v)) f Ts xs dst s (fun s => some (.inl s))) := by
  unfold callK
  simp only [fin_bif, fin_bind, fin_none]
  congr 1
  congr 1
  funext p
  congr 1
  congr 1
  funext q
  obtain ⟨qb, r⟩ := q
  cases qb
  · rfl
  · simp only [cond_true, fin_outK, fin_bind, fin_inl, fin_inr]
theorem evX_st {β : Type} (thr : Value → Option β) (o : Oper) (s : St) (k : St → Option β) : evX P np takes call thr o s k = fin thr k (evX P np takes call (fun v => some (.inr v)) o s (fun s => some (.inl s))) := by
  obtain ⟨dst, op, ty, pos, after, guard⟩ := o
  unfold evX
  simp only [appendK_eq]
  (try dsimp only)
  split
  case h_9 => exact callK_st _ _ _ _ _ _ _
  case h_10 =>
    split
    · exact callK_st _ _ _ _ _ _ _
    · rfl
  all_goals (try simp only [fin_bif, fin_bind, fin_inl, fin_none, fin_inr])
  all_goals (repeat' split)
  all_goals (try simp only [fin_bif, fin_bind, fin_inl, fin_none, fin_inr])
  all_goals (try rfl)
theorem evOp_st {β : Type} (thr : Value → Option β) (o : Oper) (s : St) (k : St → Option β) : evOp P np dr takes call thr o s k = fin thr k (stE P np dr takes call o s) := by
  unfold stE
  simp only [evOp_def]
  cases reads P o.op
  · simp only [cond_false]
    cases dr && bsOp o
    · exact evX_st thr o s k
    · simp only [cond_true, fin_bind, fin_inl]
  · simp only [cond_true, fin_bind, fin_inl]
theorem rhsB_sound {o : Oper} (h : Inv P F g s a w) (hok : okOp o = true) {x : AV} (hx : rhsB P o s = some x) {K : Act → World → Prop} {Q : Exit → Act → World → Prop} (hk : ∀ g' a' w', Inv P F g' (s.put o.dst x) a' w' → K a' w') : o.wp P a w K Q := by
  have hev := fun (y : Operand) (hy : y ∈ o.op.operands.toList) => h.ev y (okOp_mem hok hy)
  have hx0 := hx
  obtain ⟨dst, op, ty, pos, after, guard⟩ := o
  unfold rhsB at hx
  dsimp only at hx
  split at hx
  · rename_i T n ps d
    obtain ⟨E, hE, hx⟩ := Option.bind_eq_some_iff.1 hx
    obtain ⟨ks, hks, hx⟩ := Option.bind_eq_some_iff.1 hx
    obtain ⟨l, hl, hx⟩ := Option.bind_eq_some_iff.1 hx
    obtain ⟨hc, hx⟩ := bif_some hx
    cases hx
    simp only [Bool.and_eq_true] at hc
    obtain ⟨⟨⟨⟨⟨⟨c1, c2⟩, c3⟩, c4⟩, c5⟩, c6⟩, c7⟩ := hc
    obtain ⟨v, w', q1, _, ⟨g', q2⟩⟩ := bslice_sound h (T := T) hE hks hl (Nat.eq_of_beq_eq_true c1) (by simpa using c2) c3 (Nat.le_of_ble_eq_true c4) (Nat.le_of_ble_eq_true c5) c7 (Nat.le_of_ble_eq_true c6) (fun i x hx => hev x (by simp [Op.operands]; exact ⟨_, by simpa using hx⟩))
    refine wp_value (v := v) (w' := w') ?_ (hk _ _ _ q2)
    simp [execOp, q1]
  · rename_i src dst' y d
    have hy := hev y (by simp [Op.operands])
    split at hx
    · rename_i str hyv
      split at hx
      · rename_i E h1 h2
        split at hx
        · rename_i h3
          obtain ⟨hc, hx⟩ := bif_some hx
          cases hx
          simp only [Bool.and_eq_true] at hc
          rw [hyv] at hy
          obtain ⟨ey, _⟩ := (show a.eval y = .string str ∧ _ from hy)
          obtain ⟨v, w1, q1, _, ⟨g', q2⟩⟩ := s2b_sound h (src := src) (dst := dst') str h1 h2 h3 (Nat.le_of_ble_eq_true hc.1) d
          refine wp_value (v := v) (w' := w1) ?_ (hk _ _ _ q2)
          simp [execOp, ey, q1]
        · cases hx
      · cases hx
    · cases hx
  · cases hx
theorem stE_sound {o : Oper} {r : St ⊕ Value} (hcall : SoundCall P call) (h : Inv P F g s a w) (hok : okOp o = true) (hr : stE P F.np dr takes call o s = some r) {K : Act → World → Prop} {Q : Exit → Act → World → Prop}
    (hk : ∀ g' s' a' w', r = .inl s' → Inv P F g' s' a' w' → K a' w') (ht : ∀ v a' w', r = .inr v → a'.defers = F.ds → Fr F.T F.w0 w' → Q (.panic [{ v := v, recovered := false }]) a' w') : o.wp P a w K Q := by
  unfold stE at hr
  simp only [evOp_def] at hr
  cases hrd : reads P o.op <;> rw [hrd] at hr <;> simp only [cond_true, cond_false] at hr
  · cases hb : dr && bsOp o <;> rw [hb] at hr <;> simp only [cond_true, cond_false] at hr
    case true =>
      obtain ⟨x, hx, e⟩ := Option.bind_eq_some_iff.1 hr
      cases e
      exact rhsB_sound h hok hx (fun g' a' w' hI => hk g' _ a' w' rfl hI)
    exact evX_sound hcall h hok hr (fun g' s' a' w' e hI => hk g' s' a' w' (by cases e; rfl) hI) (fun v a' w' e hd hf => ht v a' w' (by cases e; rfl) hd hf)
  · obtain ⟨x, hx, e⟩ := Option.bind_eq_some_iff.1 hr
    cases e
    obtain ⟨v, hv, hR⟩ := rhs_sound h hrd hok hx
    exact wp_value hv (hk g _ _ _ rfl (h.put o.dst hR))
theorem St.get_lt {t : Nat} {x : AV} (h : s.get t = x) (hx : x ≠ .dead) : s.t[t]? = some x := by
  unfold St.get at h
  rw [List.getD_eq_getElem?_getD] at h
  cases e : s.t[t]? with
  | none => rw [e] at h; exact absurd h.symm hx
  | some y => rw [e] at h; rw [← h]; rfl
theorem wanted_eq (h : Inv P F g s a w) {ops : Array Oper} {o : Oper} {wn : Bool} (hw : wantB s ops.toList o.guard = some wn) : Region.wanted o (yielded ops a.tmps) = wn := by
  unfold Region.wanted
  unfold wantB at hw
  cases hg : o.guard with
  | none => rw [hg] at hw; cases hw; rfl
  | some jw =>
    obtain ⟨j, want⟩ := jw
    rw [hg] at hw
    dsimp only at hw ⊢
    unfold yieldB at hw
    unfold yielded
    rw [Array.getElem?_toList] at hw
    cases hd : (ops[j]?).bind (·.dst) with
    | none => rw [hd] at hw; cases hw
    | some d =>
      rw [hd] at hw
      dsimp only at hw
      simp only [Option.bind_some]
      split at hw
      · rename_i h0
        split at h0
        · cases h0
        · rename_i ht
          obtain ⟨v, h1, h2⟩ := h.tm d _ (St.get_lt ht (by intro e; cases e))
          obtain ⟨vs, rfl, _⟩ := h2
          rw [h1]
          cases hw
          simp
        · cases h0
      · rename_i b h0
        split at h0
        · rename_i ht
          cases h0
          obtain ⟨v, h1, h2⟩ := h.tm d _ (St.get_lt ht (by intro e; cases e))
          obtain ⟨rfl, _⟩ := (show v = .bool b ∧ _ from h2)
          rw [h1]
          cases hw
          cases b <;> cases want <;> rfl
        · cases h0
        · cases h0
      · cases hw
theorem stO_sound {ops : Array Oper} {o : Oper} {r : St ⊕ Value} (hcall : SoundCall P call) (h : Inv P F g s a w) (hok : okOp o = true) (hr : stO P F.np dr takes call ops.toList o s = some r) {K : Act → World → Prop} {Q : Exit → Act → World → Prop}
    (hk : ∀ g' s' a' w', r = .inl s' → Inv P F g' s' a' w' → K a' w') (ht : ∀ v a' w', r = .inr v → a'.defers = F.ds → Fr F.T F.w0 w' → Q (.panic [{ v := v, recovered := false }]) a' w') :
    if Region.wanted o (yielded ops a.tmps) then o.wp P a w K Q ∨ (o.asks P a w ∧ LetsOut Q) else K (a.put o.dst undef) w := by
  unfold stO at hr
  obtain ⟨wn, hw, hr⟩ := Option.bind_eq_some_iff.1 hr
  rw [wanted_eq h hw]
  cases wn
  · cases hr
    simp only [Bool.false_eq_true, if_false]
    exact hk g _ _ _ rfl (h.put o.dst (show RepS P g w (.tup []) undef from ⟨#[], rfl, rfl, fun j x hj => by simp at hj⟩))
  · simp only [if_true]
    exact .inl (stE_sound hcall h hok hr hk ht)
theorem runO_sound {ops : Array Oper} (hcall : SoundCall P call) {Q : Exit → Act → World → Prop} : ∀ (l : List Oper) (g : Gh) (s : St) (a : Act) (w : World) (r : St ⊕ Value), Inv P F g s a w → (∀ o ∈ l, okOp o = true) → runO P F.np dr takes call ops.toList l s = some r →
    (∀ g' s' a' w', r = .inl s' → Inv P F g' s' a' w' → Q .normal a' w') → (∀ v a' w', r = .inr v → a'.defers = F.ds → Fr F.T F.w0 w' → Q (.panic [{ v := v, recovered := false }]) a' w') → wpList P ops Q l a w
  | [], g, s, a, w, r, h, _, hr, hk, _ => by cases hr; exact hk g s a w rfl h
  | o :: l, g, s, a, w, r, h, hok, hr, hk, ht => by
    unfold runO at hr
    cases hs : stO P F.np dr takes call ops.toList o s with
    | none => rw [hs] at hr; cases hr
    | some r1 =>
      rw [hs] at hr
      unfold wpList
      refine stO_sound hcall h (hok o (by simp)) hs (fun g' s' a' w' e hI => ?_) (fun v a' w' e hd hf => ?_)
      · subst e
        exact runO_sound hcall l g' s' a' w' r hI (fun o ho => hok o (by simp [ho])) hr hk ht
      · subst e
        cases hr
        exact ht v a' w' rfl hd hf
end
end Go.Proofs.YtckdgcpomkefpaaGreatDoor.En
end
section
set_option linter.unusedVariables false
set_option linter.unusedSimpArgs false
namespace Go.Proofs.YtckdgcpomkefpaaGreatDoor.En
open Go
section
variable {P : Program} {s : St} {np : Nat} {dr : Bool} {takes : FuncId → Option Nat} {call : CallF} {D : List Nat}
theorem forgetL_get (D : List Nat) : ∀ (l : List AV) (i j : Nat), (forgetL D i l)[j]? = (l[j]?).map fun x => bif D.contains (i + j) then .dead else x
  | [], i, j => by simp [forgetL]
  | x :: l, i, 0 => by simp [forgetL]
  | x :: l, i, j + 1 => by
    simp only [forgetL, List.getElem?_cons_succ]
    rw [forgetL_get D l (i + 1) j, show i + 1 + j = i + (j + 1) by omega]
theorem forgetL_len (D : List Nat) : ∀ (l : List AV) (i : Nat), (forgetL D i l).length = l.length
  | [], i => rfl
  | x :: l, i => by simp [forgetL, forgetL_len D l (i + 1)]
theorem forgetL_map (D : List Nat) (φ : AV → AV) (h : φ .dead = .dead) : ∀ (l : List AV) (i : Nat), (forgetL D i l).map φ = forgetL D i (l.map φ)
  | [], i => rfl
  | x :: l, i => by
    simp only [forgetL, List.map_cons, forgetL_map D φ h l (i + 1)]
    cases D.contains i <;> simp [h]
theorem forgetL_set (D : List Nat) (x : AV) : ∀ (l : List AV) (i d : Nat), D.contains (i + d) = false → (forgetL D i l).set d x = forgetL D i (l.set d x)
  | [], i, d, h => rfl
  | y :: l, i, 0, h => by
    simp only [forgetL, List.set_cons_zero]
    rw [Nat.add_zero] at h
    rw [h]; rfl
  | y :: l, i, d + 1, h => by
    simp only [forgetL, List.set_cons_succ]
    rw [forgetL_set D x l (i + 1) d (by rw [show i + 1 + d = i + (d + 1) by omega]; exact h)]
theorem ncontains {D : List Nat} {d : Nat} (h : d ∉ D) : D.contains d = false := by
  rw [Bool.eq_false_iff]; intro e; exact h (by simpa using e)
theorem forget_tok (f : Option Nat → Option Nat) : (forget D s).tok f = forget D (s.tok f) := by
  show (⟨(forgetL D 0 s.t).map _, _⟩ : St) = ⟨forgetL D 0 (s.t.map _), _⟩
  rw [forgetL_map D _ rfl]
  rfl
theorem forget_put {d : Option Nat} (h : ∀ e, d = some e → e ∉ D) (x : AV) : (forget D s).put d x = forget D (s.put d x) := by
  cases d with
  | none => rfl
  | some d =>
    show (⟨(forgetL D 0 s.t).set d x, _⟩ : St) = ⟨forgetL D 0 (s.t.set d x), _⟩
    rw [forgetL_set D x _ _ _ (by rw [Nat.zero_add]; exact ncontains (h d rfl))]
    rfl
theorem forget_newBox {d : Nat} (h : d ∉ D) (cs : List AV) : (forget D s).newBox d cs = forget D (s.newBox d cs) := by
  unfold St.newBox
  rw [forget_tok]
  show (⟨((forgetL D 0 _).map _).set d _, _⟩ : St) = ⟨forgetL D 0 _, _⟩
  rw [forgetL_map D _ rfl, forgetL_set D _ _ _ _ (by rw [Nat.zero_add]; exact ncontains h)]
  rfl
theorem forget_get {t : Nat} (h : t ∉ D) : (forget D s).get t = s.get t := by
  unfold St.get forget
  rw [List.getD_eq_getElem?_getD, List.getD_eq_getElem?_getD, forgetL_get, Nat.zero_add, ncontains h]
  simp
theorem forget_get_in {t : Nat} (h : t ∈ D) : (forget D s).get t = .dead := by
  unfold St.get forget
  rw [List.getD_eq_getElem?_getD, forgetL_get, Nat.zero_add, show D.contains t = true by simpa using h]
  cases s.t[t]? <;> rfl
theorem forget_ev {y : Operand} (h : ∀ t, y = .tmp t → t ∉ D) : (forget D s).ev y = s.ev y := by
  cases y with
  | tmp t => exact forget_get (h t rfl)
  | _ => rfl
theorem forget_len : (forget D s).t.length = s.t.length := forgetL_len D _ _
theorem cellsOf_congr {s' : St} (hb : s'.b = s.b) (x : AV) : s'.cellsOf x = s.cellsOf x := by
  unfold St.cellsOf St.boxAt; rw [hb]
theorem bound_congr {s' : St} {o : Option Operand} {d : Nat} (h : ∀ y, o = some y → s'.ev y = s.ev y) : bound s' o d = bound s o d := by
  cases o with
  | none => rfl
  | some y => simp only [bound, h y rfl]
theorem partsAV_congr {s' : St} {T : TypeId} : ∀ (ps : List (Nat × Operand)), (∀ p ∈ ps, s'.ev p.2 = s.ev p.2) → partsAV P s' T ps = partsAV P s T ps
  | [], _ => rfl
  | (i, x) :: r, h => by
    simp only [partsAV, partsAV_congr r (fun p hp => h p (by simp [hp])), h (i, x) (by simp)]
theorem rhs_congr' {s' : St} {o : Oper} (hb : ∀ T a, o.op = .load T a → s'.cellsOf (s'.ev a) = s.cellsOf (s.ev a)) (he : ∀ y ∈ o.op.operands.toList, s'.ev y = s.ev y) : rhs P o s' = rhs P o s := by
  obtain ⟨dst, op, ty, pos, after, guard⟩ := o
  unfold rhs
  dsimp only at he ⊢
  split
  case h_1 x => rw [he x (by simp [Op.operands])]
  case h_2 c a b => rw [he c (by simp [Op.operands]), he a (by simp [Op.operands]), he b (by simp [Op.operands])]
  case h_3 T ps => rw [partsAV_congr ps.toList (fun p hp => he p.2 (by simp [Op.operands]; exact ⟨p.1, by simpa using hp⟩))]
  case h_4 T a => rw [hb T a rfl]
  case h_5 x => rw [he x (by simp [Op.operands])]
  case h_6 op T x y _ => rw [he x (by simp [Op.operands]), he y (by simp [Op.operands])]
  case h_7 op _ x => rw [he x (by simp [Op.operands])]
  case h_8 src dst x => rw [he x (by simp [Op.operands])]
  case h_9 T x => rw [he x (by simp [Op.operands])]
  case h_10 T x lo hi =>
    have h1 : ∀ d, bound s' lo d = bound s lo d := fun d => bound_congr fun y hy => he y (by simp [Op.operands, hy])
    have h2 : ∀ d, bound s' hi d = bound s hi d := fun d => bound_congr fun y hy => he y (by simp [Op.operands, hy])
    rw [he x (by simp [Op.operands])]
    simp only [h1, h2]
  case h_11 T x f => rw [he x (by simp [Op.operands])]
  case h_12 T x f => rw [he x (by simp [Op.operands])]
  case h_13 T x i => rw [he x (by simp [Op.operands]), he i (by simp [Op.operands])]
  case h_14 T x i => rw [he x (by simp [Op.operands]), he i (by simp [Op.operands])]
  case h_15 x i => rw [he x (by simp [Op.operands])]
  case h_16 f xs cs =>
    rw [List.map_congr_left (f := s'.ev) (g := s.ev) (l := xs.toList) (fun y hy => he y (by simp only [Op.operands, Array.toList_append, List.mem_append]; exact .inl hy)),
      List.map_congr_left (f := s'.ev) (g := s.ev) (l := cs.toList) (fun y hy => he y (by simp only [Op.operands, Array.toList_append, List.mem_append]; exact .inr hy))]
  case h_17 xs Ts =>
    split
    · rename_i x T hx hT
      have : x ∈ xs.toList := by rw [hx]; simp
      rw [he x (by simp [Op.operands, Call.operands]; simpa using this)]
    · rfl
  case h_18 x U T ok => rw [he x (by simp [Op.operands])]
  case h_19 => rfl
theorem rhs_congr {s' : St} {o : Oper} (hb : s'.b = s.b) (he : ∀ y ∈ o.op.operands.toList, s'.ev y = s.ev y) : rhs P o s' = rhs P o s :=
  rhs_congr' (fun T a e => by rw [he a (by rw [e]; simp [Op.operands]), cellsOf_congr hb]) he
theorem parts_congr {s' : St} {ps : Array (Nat × Operand)} (h1 : ∀ p ∈ ps.toList, s'.ev p.2 = s.ev p.2) : (ps.toList.map fun (i, x) => (i, s'.ev x)) = (ps.toList.map fun (i, x) => (i, s.ev x)) ∧
    (ps.toList.all fun p => (s'.ev p.2).cells.all AV.one) = ps.toList.all fun p => (s.ev p.2).cells.all AV.one := by
  refine ⟨List.map_congr_left fun p hp => (by obtain ⟨i, x⟩ := p; exact congrArg (fun z => (i, z)) (h1 (i, x) hp)), ?_⟩
  rw [Bool.eq_iff_iff, List.all_eq_true, List.all_eq_true]
  exact ⟨fun h p hp => by rw [← h1 p hp]; exact h p hp, fun h p hp => by rw [h1 p hp]; exact h p hp⟩
theorem rhsB_congr {s' : St} {o : Oper} (hl : s'.t.length = s.t.length) (he : ∀ y ∈ o.op.operands.toList, s'.ev y = s.ev y) : rhsB P o s' = rhsB P o s := by
  obtain ⟨dst, op, ty, pos, after, guard⟩ := o
  unfold rhsB
  dsimp only at he ⊢
  split
  · rename_i T n ps d
    obtain ⟨h2, h3⟩ := parts_congr (s := s) (s' := s') (ps := ps) (fun p hp => he p.2 (by simp [Op.operands]; exact ⟨p.1, by simpa using hp⟩))
    rw [h2, h3, hl]
  · rename_i src dst' x d
    rw [he x (by simp [Op.operands])]
  · rfl
end
end Go.Proofs.YtckdgcpomkefpaaGreatDoor.En
end
section
set_option linter.unusedVariables false
set_option linter.unusedSimpArgs false
namespace Go.Proofs.YtckdgcpomkefpaaGreatDoor.En
open Go
section
variable {P : Program} {s : St} {np : Nat} {dr : Bool} {takes : FuncId → Option Nat} {call : CallF} {D : List Nat}
structure Avoids (ops : List Oper) (D : List Nat) (o : Oper) : Prop where
  opd : ∀ y ∈ o.op.operands.toList, ∀ t, y = .tmp t → t ∉ D
  grd : ∀ j w, o.guard = some (j, w) → ∀ t, tmpOf ops j = some t → t ∉ D
  dst : ∀ d, o.dst = some d → d ∉ D
theorem argsFor_congr {s' : St} {take : Option Nat} (hb : s'.b = s.b) : ∀ (Ts : List TypeId) (xs : List AV) (i : Nat), argsFor P take s' Ts xs i = argsFor P take s Ts xs i
  | [], [], i => rfl
  | T :: Ts, x :: xs, i => by simp only [argsFor, argsFor_congr hb Ts xs (i + 1), St.boxAt, hb]
  | [], _ :: _, i => rfl
  | _ :: _, [], i => rfl
theorem backS_forget : ∀ (ls : List (Option Nat)) (i : Nat) (bs : Bx) (s : St), backS i ls bs (forget D s) = (backS i ls bs s).map (forget D)
  | [], i, bs, s => by simp [backS]
  | none :: ls, i, _ :: bs, s => by simp only [backS]; exact backS_forget ls (i + 1) bs s
  | none :: ls, i, [], s => rfl
  | some d :: ls, i, [], s => rfl
  | some d :: ls, i, none :: bs, s => rfl
  | some d :: ls, i, some cs :: bs, s => by
    simp only [backS]
    show (s.boxAt d).bind _ = _
    cases s.boxAt d with
    | none => rfl
    | some old =>
      simp only [Option.bind_some]
      cases Nat.beq cs.length old.length
      · rfl
      · simp only [cond_true]
        exact backS_forget ls (i + 1) bs (s.setBox d (giveL i d 0 cs))
theorem assign_forget {T : TypeId} {d : Nat} (h : d ∉ D) (x : AV) : (forget D s).assign P T d x = forget D (s.assign P T d x) := by
  have hp : ∀ (s : St) (x : AV), (forget D s).put (some d) x = forget D (s.put (some d) x) := fun s x => forget_put (fun e he => by cases he; exact h) x
  unfold St.assign
  split
  · rename_i n E l
    cases n == d
    · simp only [cond_false, St.kill, forget_tok, hp]
    · simp only [cond_true, hp]
  · cases elemT P T
    · exact hp _ _
    · simp only [St.kill, forget_tok, hp]
  · exact hp _ _
theorem storeAV_forget {T : TypeId} {x y : AV} : storeAV P (forget D s) T x y = (storeAV P s T x y).map (forget D) := by
  unfold storeAV
  split
  · rename_i d off
    show (s.boxAt d).bind _ = _
    cases s.boxAt d with
    | none => rfl
    | some cs =>
      simp only [Option.bind_some]
      cases kinds P T with
      | none => rfl
      | some ks =>
        simp only [Option.bind_some]
        cases szT P T with
        | none => rfl
        | some n =>
          simp only [Option.bind_some]
          generalize (n == ks.length && y.cells.all AV.one && Nat.beq y.cells.length n && Nat.ble (off + n) cs.length && Nat.ble cs.length 1024) = c
          cases c
          · rfl
          simp only [cond_true]
          split
          · rename_i m E l
            cases m == sub d off
            · simp only [cond_false, St.kill, forget_tok]
              show Option.map _ (((s.tok _).tok _).boxAt d) = _
              cases ((s.tok (killF (sub d off))).tok (renF m (sub d off))).boxAt d <;> rfl
            · rfl
          · simp only [forget_tok]
            show Option.map _ ((s.tok _).boxAt d) = _
            cases (s.tok (moveF d off (off + n) (uniqT [] y.cells))).boxAt d <;> rfl
  · rfl
theorem appendAV_forget {Ts : Array TypeId} {xs : List AV} {d : Nat} (h : d ∉ D) : appendAV P Ts xs (forget D s) d = (appendAV P Ts xs s d).map (forget D) := by
  have hp : ∀ (s : St) (x : AV), (forget D s).put (some d) x = forget D (s.put (some d) x) := fun s x => forget_put (fun e he => by cases he; exact h) x
  unfold appendAV
  split
  · rename_i n E l y
    cases appOk P Ts E
    · rfl
    simp only [cond_true]
    split
    · rename_i t E' m
      cases E == E' && Nat.ble (l.length + m.length) fitsN
      · rfl
      · simp only [cond_true, St.kill, forget_tok, hp]; rfl
    · cases Nat.ble l.length fitsN
      · rfl
      · simp only [cond_true, St.kill, forget_tok, hp]; rfl
    · rename_i x
      split
      · cases Nat.ble (l.length + x.size) fitsN
        · rfl
        · simp only [cond_true, St.kill, forget_tok, hp]; rfl
      · rfl
    · rfl
  · rename_i t E' m
    split
    · rename_i E _
      cases appOk P Ts E
      · rfl
      simp only [cond_true]
      cases E == E' && Nat.ble m.length fitsN
      · rfl
      · simp only [cond_true, St.kill, forget_tok, hp]; rfl
    · rfl
  · rfl
theorem ev_map {s' : St} {xs : List Operand} (h : ∀ y ∈ xs, s'.ev y = s.ev y) : xs.map s'.ev = xs.map s.ev := List.map_congr_left h
theorem callK_forget {β : Type} (thr : Value → Option β) {f : FuncId} {Ts : Array TypeId} {xs : List AV} {dst : Option Tmp} (hd : ∀ d, dst = some d → d ∉ D) (k : St → Option β) :
    callK P takes call thr f Ts xs dst (forget D s) k = callK P takes call thr f Ts xs dst s (fun s => k (forget D s)) := by
  have hp : ∀ (s : St) (x : AV), (forget D s).put dst x = forget D (s.put dst x) := fun s x => forget_put hd x
  unfold callK
  rw [argsFor_congr (s := s) (s' := forget D s) rfl]
  congr 1
  congr 1
  funext p
  congr 1
  congr 1
  funext q
  obtain ⟨qb, r⟩ := q
  cases qb
  · rfl
  simp only [cond_true]
  congr 1
  funext v bs
  simp only [forget_tok, backS_forget]
  cases backS 0 p.ls bs (s.tok (lostF p (dstN v dst))) with
  | none => rfl
  | some s2 => simp only [Option.map_some, Option.bind_some, hp]
theorem evX_forget {β : Type} (thr : Value → Option β) {o : Oper} (ha : ∀ y ∈ o.op.operands.toList, ∀ t, y = .tmp t → t ∉ D) (hd : ∀ d, o.dst = some d → d ∉ D) (k : St → Option β) :
    evX P np takes call thr o (forget D s) k = evX P np takes call thr o s (fun s => k (forget D s)) := by
  have he : ∀ y ∈ o.op.operands.toList, (forget D s).ev y = s.ev y := fun y hy => forget_ev (ha y hy)
  have hp : ∀ (s : St) (x : AV), (forget D s).put o.dst x = forget D (s.put o.dst x) := fun s x => forget_put hd x
  obtain ⟨dst, op, ty, pos, after, guard⟩ := o
  unfold evX
  simp only [appendK_eq]
  dsimp only at he hd hp ⊢
  split
  case h_1 x d => rw [he x (by simp [Op.operands]), assign_forget (hd d rfl)]
  case h_2 T d => simp only [forget_len, forget_newBox (hd d rfl)]
  case h_3 T x d => rw [he x (by simp [Op.operands])]; simp only [forget_len, forget_newBox (hd d rfl)]
  case h_4 T n ps d =>
    have h1 : ∀ p ∈ ps.toList, (forget D s).ev p.2 = s.ev p.2 := fun p hp => he p.2 (by simp [Op.operands]; exact ⟨p.1, by simpa using hp⟩)
    obtain ⟨h2, h3⟩ := parts_congr (s := s) (s' := forget D s) h1
    rw [h2, h3]
    simp only [forget_len, St.kill, forget_tok, hp]
  case h_5 src dst' x d =>
    rw [he x (by simp [Op.operands])]
    split
    · simp only [St.kill, forget_tok, hp]
    · rw [assign_forget (hd d rfl)]
    · rfl
  case h_6 T a x =>
    rw [he a (by simp [Op.operands]), he x (by simp [Op.operands]), storeAV_forget]
    cases storeAV P s T (s.ev a) (s.ev x) <;> rfl
  case h_7 x => rw [he x (by simp [Op.operands])]
  case h_8 xs Ts d =>
    rw [ev_map (s := s) (s' := forget D s) (fun y hy => he y (by simp [Op.operands, Call.operands]; simpa using hy)), appendAV_forget (hd d rfl), forget_len]
    cases appendAV P Ts (xs.toList.map s.ev) s d <;> rfl
  case h_9 f xs Ts =>
    rw [ev_map (s := s) (s' := forget D s) (fun y hy => he y (by simp [Op.operands, Call.operands]; exact .inr (by simpa using hy)))]
    exact callK_forget thr hd k
  case h_10 t xs Ts =>
    have h1 : (forget D s).get t = s.get t := he (.tmp t) (by simp [Op.operands, Call.operands])
    rw [h1, ev_map (s := s) (s' := forget D s) (fun y hy => he y (by simp [Op.operands, Call.operands]; exact .inr (by simpa using hy)))]
    split
    · exact callK_forget thr hd k
    · rfl
  case h_11 => rfl
def forgetR (D : List Nat) : St ⊕ Value → St ⊕ Value | .inl s => .inl (forget D s) | .inr v => .inr v
theorem stE_forget {o : Oper} (ha : ∀ y ∈ o.op.operands.toList, ∀ t, y = .tmp t → t ∉ D) (hd : ∀ d, o.dst = some d → d ∉ D) : stE P np dr takes call o (forget D s) = (stE P np dr takes call o s).map (forgetR D) := by
  unfold stE
  simp only [evOp_def]
  cases reads P o.op
  · simp only [cond_false]
    cases dr && bsOp o
    case true =>
      simp only [cond_true]
      rw [rhsB_congr (s := s) (s' := forget D s) forget_len (fun y hy => forget_ev (ha y hy))]
      cases rhsB P o s with
      | none => rfl
      | some x => simp only [Option.bind_some, forget_put hd]; rfl
    simp only [cond_false]
    rw [evX_forget _ ha hd, evX_st]
    cases evX (β := St ⊕ Value) P np takes call (fun v => some (.inr v)) o s (fun s => some (.inl s)) with
    | none => rfl
    | some r => cases r <;> rfl
  · simp only [cond_true]
    rw [rhs_congr (s := s) (s' := forget D s) rfl (fun y hy => forget_ev (ha y hy))]
    cases rhs P o s with
    | none => rfl
    | some x => simp only [Option.bind_some, forget_put hd]; rfl
theorem yieldB_forget {ops : List Oper} {j : Nat} {x : Option Bool} (h : yieldB (forget D s) ops j = some x) : yieldB s ops j = some x ∧ ∀ t, tmpOf ops j = some t → t ∉ D := by
  unfold yieldB at h ⊢
  unfold tmpOf
  cases hd : (ops[j]?).bind (·.dst) with
  | none => rw [hd] at h; cases h
  | some d =>
    rw [hd] at h
    dsimp only at h ⊢
    by_cases hD : d ∈ D
    · rw [forget_get_in hD] at h; cases h
    · rw [forget_get hD] at h
      exact ⟨h, fun t ht => by cases ht; exact hD⟩
theorem wantB_forget {ops : List Oper} {gd : Option (Nat × Bool)} {x : Bool} (h : wantB (forget D s) ops gd = some x) : wantB s ops gd = some x := by
  unfold wantB at h ⊢
  cases gd with
  | none => exact h
  | some jw =>
    obtain ⟨j, want⟩ := jw
    dsimp only at h ⊢
    cases hy : yieldB (forget D s) ops j with
    | none => rw [hy] at h; cases h
    | some y => rw [hy] at h; rw [(yieldB_forget hy).1]; exact h
end
end Go.Proofs.YtckdgcpomkefpaaGreatDoor.En
end
section
set_option linter.unusedVariables false
set_option linter.unusedSimpArgs false
namespace Go.Proofs.YtckdgcpomkefpaaGreatDoor.En
open Go
def avoidsB (ops : List Oper) (D : List Nat) (o : Oper) : Bool := (looks ops o).all (fun t => !D.contains t) && (match o.dst with | some d => !D.contains d | none => true)
def grpOk (ops : List Oper) (g : List Oper) (p : Oper) (r : List Oper) : Bool := r.all (avoidsB ops (dstsOf g)) && (match p.dst with | some d => !(dstsOf g).contains d | none => true)
def okGroups (ops : List Oper) : List Oper → Bool
  | [] => true
  | o :: r => okGroups ops r && (match o.guard with
    | none => true
    | some (j, _) => (match tmpOf ops j with
      | none => true
      | some tj => (match groupOf tj (o :: r) with
        | none => true
        | some (g, p, r') => grpOk ops g p r')))
section
variable {P : Program} {s : St} {np : Nat} {dr : Bool} {takes : FuncId → Option Nat} {call : CallF} {D : List Nat} {ops : List Oper}
theorem avoids_of {o : Oper} (h : avoidsB ops D o = true) : Avoids ops D o := by
  unfold avoidsB looks at h
  simp only [Bool.and_eq_true, List.all_eq_true, List.mem_append] at h
  obtain ⟨h1, h2⟩ := h
  refine ⟨fun y hy t ht hD => ?_, fun j w hg t ht hD => ?_, fun d hd hD => ?_⟩
  · have := h1 t (.inl (List.mem_filterMap.2 ⟨y, hy, by subst ht; rfl⟩))
    simp [hD] at this
  · have := h1 t (.inr (by rw [hg]; simp [ht]))
    simp [hD] at this
  · rw [hd] at h2
    simp [hD] at h2
theorem Avoids.app {D' : List Nat} {o : Oper} (h : Avoids ops D o) (h' : Avoids ops D' o) : Avoids ops (D ++ D') o :=
  ⟨fun y hy t ht hm => (List.mem_append.1 hm).elim (h.opd y hy t ht) (h'.opd y hy t ht), fun j w hg t ht hm => (List.mem_append.1 hm).elim (h.grd j w hg t ht) (h'.grd j w hg t ht), fun d hd hm => (List.mem_append.1 hm).elim (h.dst d hd) (h'.dst d hd)⟩
theorem groupOf_spec {tj : Nat} : ∀ {l g r : List Oper} {p : Oper}, groupOf tj l = some (g, p, r) → l = g ++ p :: r ∧ ∃ x y, p.op = .pick (.tmp tj) x y
  | [], g, r, p, h => by cases h
  | o :: l, g, r, p, h => by
    have step : ∀ {h : (groupOf tj l).map (fun (g, p, r) => (o :: g, p, r)) = some (g, p, r)}, o :: l = g ++ p :: r ∧ ∃ x y, p.op = .pick (.tmp tj) x y := fun {h} => by
      obtain ⟨⟨g', p', r'⟩, h1, h2⟩ := Option.map_eq_some_iff.1 h
      cases h2
      obtain ⟨e1, e2⟩ := groupOf_spec h1
      exact ⟨by rw [e1]; rfl, e2⟩
    unfold groupOf at h
    split at h
    · rename_i c x y hop
      cases hc : (c == tj) <;> rw [hc] at h
      · exact step (h := h)
      · cases h
        exact ⟨rfl, x, y, by rw [hop, show c = tj by simpa using hc]⟩
    · exact step (h := h)
theorem groupOf_append {tj : Nat} (l2 : List Oper) : ∀ {l g r : List Oper} {p : Oper}, groupOf tj l = some (g, p, r) → groupOf tj (l ++ l2) = some (g, p, r ++ l2)
  | [], g, r, p, h => by cases h
  | o :: l, g, r, p, h => by
    have step : ∀ {h : (groupOf tj l).map (fun (g, p, r) => (o :: g, p, r)) = some (g, p, r)}, (groupOf tj (l ++ l2)).map (fun (g, p, r) => (o :: g, p, r)) = some (g, p, r ++ l2) := fun {h} => by
      obtain ⟨⟨g', p', r'⟩, h1, h2⟩ := Option.map_eq_some_iff.1 h
      cases h2
      rw [groupOf_append l2 h1]; rfl
    rw [List.cons_append]
    unfold groupOf at h ⊢
    split at h
    · rename_i c x y hop
      cases hc : (c == tj) <;> rw [hc] at h
      · exact step (h := h)
      · cases h; rfl
    · exact step (h := h)
theorem okGroups_pre : ∀ {l l2 : List Oper}, okGroups ops (l ++ l2) = true → okGroups ops l = true
  | [], l2, h => rfl
  | o :: l, l2, h => by
    rw [List.cons_append] at h
    unfold okGroups at h ⊢
    simp only [Bool.and_eq_true] at h ⊢
    refine ⟨okGroups_pre h.1, ?_⟩
    have h2 := h.2
    cases hg : o.guard with
    | none => rfl
    | some jw =>
      obtain ⟨j, w⟩ := jw
      rw [hg] at h2
      dsimp only at h2 ⊢
      cases ht : tmpOf ops j with
      | none => rfl
      | some tj =>
        rw [ht] at h2
        dsimp only at h2 ⊢
        cases hgr : groupOf tj (o :: l) with
        | none => rfl
        | some gpr =>
          obtain ⟨g, p, r⟩ := gpr
          have := groupOf_append l2 hgr
          rw [List.cons_append] at this
          rw [this] at h2
          dsimp only at h2 ⊢
          unfold grpOk at h2 ⊢
          simp only [Bool.and_eq_true, List.all_append] at h2 ⊢
          exact ⟨h2.1.1, h2.2⟩
theorem okGroups_suf : ∀ {l l2 : List Oper}, okGroups ops (l ++ l2) = true → okGroups ops l2 = true
  | [], l2, h => h
  | o :: l, l2, h => by
    rw [List.cons_append] at h
    unfold okGroups at h
    simp only [Bool.and_eq_true] at h
    exact okGroups_suf h.1
theorem runO_append : ∀ (l l2 : List Oper) (s : St), runO P np dr takes call ops (l ++ l2) s = thenR (runO P np dr takes call ops l s) (runO P np dr takes call ops l2)
  | [], l2, s => rfl
  | o :: l, l2, s => by
    simp only [List.cons_append, runO]
    cases stO P np dr takes call ops o s with
    | none => rfl
    | some r => cases r with
      | inl s => exact runO_append l l2 s
      | inr v => rfl
theorem tok_id {f : Option Nat → Option Nat} (h : ∀ t, f t = t) (s : St) : s.tok f = s := by
  have hf : f = id := funext h
  subst hf
  have e1 : ∀ x : AV, x.tok1 id = x := fun x => by cases x <;> rfl
  have e1' : AV.tok1 id = id := funext e1
  have e2 : ∀ x : AV, x.tok2 id = x := fun x => by cases x <;> first | rfl | (simp [AV.tok2, e1', AV.tok1])
  have e2' : AV.tok2 id = id := funext e2
  have e3 : ∀ x : AV, x.tok id = x := fun x => by cases x <;> first | rfl | (simp [AV.tok, e2', AV.tok2, AV.tok1, e1'])
  have e3' : AV.tok id = id := funext e3
  obtain ⟨t, b⟩ := s
  simp [St.tok, e3', e1']
theorem argsFor_quiet {s : St} : ∀ (Ts : List TypeId) (xs : List AV) (i : Nat) (p : Pass), argsFor P none s Ts xs i = some p → p.tk = none ∧ (p.bs.all Option.isNone = true → ∀ l ∈ p.ls, l = none)
  | [], [], i, p, h => by cases h; exact ⟨rfl, fun _ l hl => by cases hl⟩
  | T :: Ts, x :: xs, i, p, h => by
    simp only [argsFor] at h
    have h' := Option.bind_eq_some_iff.1 h
    clear h
    obtain ⟨q, hq, h⟩ := h'
    obtain ⟨ih1, ih2⟩ := argsFor_quiet Ts xs (i + 1) q hq
    have mk : ∀ (x' : AV), p = ⟨x' :: q.xs, none :: q.bs, none :: q.ls, q.tk⟩ → p.tk = none ∧ (p.bs.all Option.isNone = true → ∀ l ∈ p.ls, l = none) := fun x' e => by
      subst e
      refine ⟨ih1, fun hb l hl => ?_⟩
      rcases List.mem_cons.1 hl with rfl | hl
      · rfl
      · exact ih2 (by simpa using hb) l hl
    split at h
    · split at h
      · obtain ⟨cs, hcs, h⟩ := Option.bind_eq_some_iff.1 h
        obtain ⟨_, h⟩ := bif_some h
        cases h
        exact ⟨ih1, fun hb => by simp at hb⟩
      · cases h
    · rename_i t E l
      cases t with
      | some n =>
        have e : ((none : Option Nat) == some i && Nat.blt n 1024) = false := rfl
        simp only [e, cond_false] at h
        cases h
        exact mk _ rfl
      | none => cases h; exact mk _ rfl
    · split at h
      · cases h; exact mk _ rfl
      · cases h
    · cases h; exact mk _ rfl
    · cases h; exact mk _ rfl
    · cases h
  | [], _ :: _, i, p, h => by simp [argsFor] at h
  | _ :: _, [], i, p, h => by simp [argsFor] at h
theorem backS_none : ∀ (ls : List (Option Nat)) (i : Nat) (bs : Bx) (s s' : St), (∀ l ∈ ls, l = none) → backS i ls bs s = some s' → s' = s
  | [], i, bs, s, s', _, h => by cases h; rfl
  | none :: ls, i, _ :: bs, s, s', hl, h => backS_none ls (i + 1) bs s s' (fun l hm => hl l (by simp [hm])) h
  | none :: ls, i, [], s, s', _, h => by cases h
  | some d :: ls, i, bs, s, s', hl, h => by have := hl (some d) (by simp); cases this
theorem quiet_step {o : Oper} {s1 : St} (hq : quietOp P takes o = true) (h : stE P np dr (fun _ => none) (quietC call) o s = some (.inl s1)) : stE P np dr takes call o s = some (.inl s1) ∧ ∃ x, s1 = s.put o.dst x := by
  unfold quietOp at hq
  unfold stE at h ⊢
  rw [evOp_def] at h ⊢
  cases hr : reads P o.op <;> rw [hr] at h hq <;> simp only [cond_true, cond_false, Bool.false_or] at h hq ⊢
  · split at hq
    · rename_i f args Ts hop
      obtain ⟨dst, op, ty, pos, after, guard⟩ := o
      dsimp only at hop
      subst hop
      have hbs : (dr && bsOp ⟨dst, .call { callee := .value (.func f), args := args, argTypes := Ts }, ty, pos, after, guard⟩) = false := by cases dr <;> rfl
      rw [hbs] at h ⊢
      simp only [cond_false] at h ⊢
      unfold evX at h ⊢
      dsimp only at h ⊢
      have ht : takes f = none := by rw [Bool.and_eq_true, Bool.and_eq_true] at hq; simpa using hq.1.1
      unfold callK at h ⊢
      cases hsz : Nat.ble (args.toList.map s.ev).length 1024 <;> rw [hsz] at h <;> simp only [cond_true, cond_false] at h ⊢
      · cases h
      rw [ht]
      obtain ⟨p, hp, h⟩ := Option.bind_eq_some_iff.1 h
      rw [hp]
      simp only [Option.bind_some]
      cases hd : dstOk p dst <;> rw [hd] at h <;> simp only [cond_true, cond_false] at h ⊢
      · cases h
      obtain ⟨⟨qb, r⟩, hr, h⟩ := Option.bind_eq_some_iff.1 h
      obtain ⟨hqb, h⟩ := bif_some h
      dsimp only at hqb h
      subst hqb
      unfold quietC at hr
      obtain ⟨hb, hr⟩ := bif_some hr
      split at hr
      · rename_i x bs' hc
        cases hr
        rw [hc]
        simp only [Option.bind_some, cond_true]
        refine ⟨h, ?_⟩
        obtain ⟨s2, hs2, h⟩ := Option.bind_eq_some_iff.1 h
        obtain ⟨y, hy, h⟩ := Option.bind_eq_some_iff.1 h
        cases h
        obtain ⟨a1, a2⟩ := argsFor_quiet _ _ _ _ hp
        have := backS_none _ _ _ _ _ (a2 hb) hs2
        refine ⟨y, ?_⟩
        rw [this]
        congr 1
        refine tok_id (fun t => ?_) s
        cases t with
        | none => rfl
        | some m =>
          show (bif lostB p none m then none else some m) = some m
          have : lostB p none m = false := by
            unfold lostB
            rw [a1]
            have : p.ls.any (lossOf m) = false := by
              rw [List.any_eq_false]
              intro l hl
              rw [a2 hb l hl]
              simp [lossOf]
            rw [this]
            rfl
          rw [this]; rfl
      · cases hr
    · cases hq
  · refine ⟨h, ?_⟩
    obtain ⟨x, hx, h⟩ := Option.bind_eq_some_iff.1 h
    cases h
    exact ⟨x, rfl⟩
structure Agree (D : List Nat) (s s' : St) : Prop where
  b : s'.b = s.b
  t : ∀ i, i ∉ D → s'.t[i]? = s.t[i]?
  len : s'.t.length = s.t.length
theorem Agree.put (s : St) {d : Option Nat} (hd : ∀ e, d = some e → e ∈ D) (x : AV) : Agree D s (s.put d x) := by
  cases d with
  | none => exact ⟨rfl, fun _ _ => rfl, rfl⟩
  | some d =>
    refine ⟨rfl, fun i hi => ?_, by simp [St.put]⟩
    show (s.t.set d x)[i]? = _
    rw [List.getElem?_set, if_neg (by rintro rfl; exact hi (hd _ rfl))]
theorem Agree.trans {s s' s'' : St} (h : Agree D s s') (k : Agree D s' s'') : Agree D s s'' := ⟨k.b.trans h.b, fun i hi => (k.t i hi).trans (h.t i hi), k.len.trans h.len⟩
theorem quiet_run : ∀ (g : List Oper) (s s1 : St), (∀ o ∈ g, quietOp P takes o = true) → (∀ o ∈ g, ∀ e, o.dst = some e → e ∈ D) → runO P np dr (fun _ => none) (quietC call) ops g s = some (.inl s1) → runO P np dr takes call ops g s = some (.inl s1) ∧ Agree D s s1
  | [], s, s1, _, _, h => by cases h; exact ⟨rfl, rfl, fun _ _ => rfl, rfl⟩
  | o :: g, s, s1, hq, hD, h => by
    unfold runO at h ⊢
    cases hs : stO P np dr (fun _ => none) (quietC call) ops o s with
    | none => rw [hs] at h; cases h
    | some r =>
      rw [hs] at h
      cases r with
      | inr v => cases h
      | inl s2 =>
        have h2 : stO P np dr takes call ops o s = some (.inl s2) ∧ Agree D s s2 := by
          unfold stO at hs ⊢
          obtain ⟨wn, hw, hs⟩ := Option.bind_eq_some_iff.1 hs
          rw [hw]
          simp only [Option.bind_some]
          cases wn <;> simp only [cond_true, cond_false] at hs ⊢
          · cases hs
            exact ⟨rfl, Agree.put s (hD o (by simp)) _⟩
          · obtain ⟨e1, x, rfl⟩ := quiet_step (hq o (by simp)) hs
            exact ⟨e1, Agree.put s (hD o (by simp)) _⟩
        rw [h2.1]
        obtain ⟨e1, e2⟩ := quiet_run g s2 s1 (fun o ho => hq o (by simp [ho])) (fun o ho => hD o (by simp [ho])) h
        exact ⟨e1, h2.2.trans e2⟩
end
end Go.Proofs.YtckdgcpomkefpaaGreatDoor.En
end
