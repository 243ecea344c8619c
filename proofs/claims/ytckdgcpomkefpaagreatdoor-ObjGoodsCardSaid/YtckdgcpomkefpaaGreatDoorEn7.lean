/- Slices written out, bytes of strings; every operation but calls. -/
import Derived.Test.YtckdgcpomkefpaaGreatDoorEn6
set_option linter.unusedVariables false
set_option linter.unusedSimpArgs false
namespace Go.Proofs.YtckdgcpomkefpaaGreatDoor.En
open Go
section
variable {P : Program} {F : Fx} {g : Gh} {s : St} {a : Act} {w : World}

theorem packC_flat {k : CK} {c : AV} {d : Dat} (h : packC k c = some d) (j : Nat) : d.at j = d := by
  cases k <;> cases c <;> simp only [packC] at h <;> first | cases h; done | skip
  all_goals (try (split at h <;> first | cases h; done | skip))
  all_goals (try (rename_i x; cases x <;> simp only [packC] at h <;> first | cases h; done | skip))
  all_goals (try (split at h <;> first | cases h; done | skip))
  all_goals first | (cases h; rfl) | skip
theorem packC_rep {k : CK} {c : AV} {d : Dat} {u : Value} (h : packC k c = some d) (hr : RepC P g w c u) : scal k d u ∧ ∀ E', k = .row E' → RepRow P g.G w E' d.toL u := by
  unfold packC at h
  split at h
  · split at h
    · rename_i e; subst e; cases h; obtain ⟨rfl, _⟩ := hr; exact ⟨rfl, fun E' e => by cases e⟩
    · cases h
  · cases h; obtain ⟨rfl, _⟩ := hr; exact ⟨rfl, fun E' e => by cases e⟩
  · cases h; obtain ⟨rfl, _⟩ := hr; exact ⟨rfl, fun E' e => by cases e⟩
  · split at h
    · rename_i e; subst e; cases h; exact ⟨trivial, fun E' e => by cases e; exact hr.1⟩
    · cases h
  · cases h; obtain ⟨rfl, _⟩ := hr; exact ⟨trivial, fun E' e => .nil _ _ _⟩
  · cases h
theorem packL_get : ∀ (ks : List CK) (cs : List AV) (l : List Dat), packL ks cs = some l → cs.length = ks.length ∧ l.length = ks.length ∧ ∀ (j : Nat) k c, ks[j]? = some k → cs[j]? = some c → ∃ d, l[j]? = some d ∧ packC k c = some d
  | [], [], l, h => by cases h; exact ⟨rfl, rfl, fun j k c h => by simp at h⟩
  | k :: ks, c :: cs, l, h => by
    simp only [packL] at h
    obtain ⟨d, h1, h⟩ := Option.bind_eq_some_iff.1 h
    obtain ⟨l', h2, h⟩ := Option.bind_eq_some_iff.1 h
    cases h
    obtain ⟨e1, e2, e3⟩ := packL_get ks cs l' h2
    refine ⟨by simp [e1], by simp [e2], fun j k' c' hk hc => ?_⟩
    cases j with
    | zero => simp at hk hc; subst hk hc; exact ⟨d, rfl, h1⟩
    | succ j => simpa using e3 j k' c' (by simpa using hk) (by simpa using hc)
  | [], _ :: _, l, h => by cases h
  | _ :: _, [], l, h => by cases h
theorem pack_get {ks : List CK} {X : AV} {d : Dat} (h : pack ks X = some d) : X.cells.length = ks.length ∧ ∀ (j : Nat) k c, ks[j]? = some k → X.cells[j]? = some c → packC k c = some (d.at j) := by
  by_cases ha : ∃ cs, X = .agg cs
  · obtain ⟨cs, rfl⟩ := ha
    simp only [pack] at h
    obtain ⟨l, h1, h⟩ := Option.bind_eq_some_iff.1 h
    cases h
    obtain ⟨e1, e2, e3⟩ := packL_get ks cs l h1
    refine ⟨e1, fun j k c hk hc => ?_⟩
    obtain ⟨d, h2, h3⟩ := e3 j k c hk hc
    rw [h3]
    simp [Dat.at, List.getD_eq_getElem?_getD, h2]
  · have hc : X.cells = [X] := by cases X <;> first | rfl | exact absurd ⟨_, rfl⟩ ha
    unfold pack at h
    split at h
    · exact absurd ⟨_, rfl⟩ ha
    · split at h
      · rename_i k
        rw [hc]
        refine ⟨rfl, fun j k' c hk hcc => ?_⟩
        cases j with
        | succ j => simp at hk
        | zero => simp at hk hcc; subst hk hcc; rw [packC_flat h]; exact h
      · cases h
/-- The parts of a slice that is written out. -/
theorem parts_sound {ks : List CK} : ∀ (ps : List (Nat × AV)) (vs : List (Nat × Value)) (n : Nat) (l : List Dat) (us : Array Value),
    partsF ks ps n = some l → (∀ p ∈ ps, p.2.cells.all AV.one = true) → ps.length = vs.length → (∀ (i : Nat) m x, ps[i]? = some (m, x) → ∃ v, vs[i]? = some (m, v) ∧ RepS P g w x v) → (n + l.length) * ks.length ≤ us.size →
    l.length = ps.length ∧ ∃ us', Instr.fill (fun i => some (i * ks.length, ks.length)) us vs = some us' ∧ us'.size = us.size ∧ (∀ q, q < n * ks.length → us'[q]? = us[q]?) ∧
      ∀ (i j : Nat) k d, l[i]? = some d → ks[j]? = some k → ∃ u, us'[(n + i) * ks.length + j]? = some u ∧ u.oneCell' = true ∧ scal k (d.at j) u ∧ ∀ E', k = .row E' → RepRow P g.G w E' (d.at j).toL u
  | [], vs, n, l, us, h, ho, hl, hp, hs => by
    cases h
    have : vs = [] := List.eq_nil_of_length_eq_zero (by simpa using hl.symm)
    subst this
    exact ⟨rfl, us, rfl, rfl, fun _ _ => rfl, fun i j k d h => by simp at h⟩
  | (i, x) :: ps, vs, n, l, us, h, ho, hl, hp, hs => by
    simp only [partsF] at h
    cases hin : (i == n) <;> rw [hin] at h
    · cases h
    simp only [cond_true] at h
    have hin : i = n := by simpa using hin
    subst hin
    obtain ⟨d, h1, h⟩ := Option.bind_eq_some_iff.1 h
    obtain ⟨l', h2, h⟩ := Option.bind_eq_some_iff.1 h
    cases h
    cases vs with
    | nil => simp at hl
    | cons v0 vs =>
    obtain ⟨v, hv, hx⟩ := hp 0 i x rfl
    simp at hv
    subst hv
    obtain ⟨p1, p2⟩ := pack_get h1
    obtain ⟨c1, c2⟩ := cells_rep hx (ho (i, x) (by simp))
    have hsz : v.cells.size = ks.length := by rw [c1, p1]
    have hle : i * ks.length + ks.length ≤ us.size := by
      refine Nat.le_trans ?_ hs
      rw [← Nat.succ_mul]
      exact Nat.mul_le_mul_right _ (by simp)
    have hz : ∀ off, v.cells.zipIdx.foldl (fun cs (c, j) => cs.setIfInBounds (off + j) c) us = (v.cells.toList.zipIdx 0).foldl (fun cs (c, j) => cs.setIfInBounds (off + j) c) us := fun off => by
      rw [← Array.foldl_toList, Array.toList_zipIdx]
    have hfs := foldl_set v.cells.toList 0 (i * ks.length) us (by simp [hsz]; omega)
    obtain ⟨e0, us', e1, e2, e3, e4⟩ := parts_sound ps vs (i + 1) l' (v.cells.zipIdx.foldl (fun cs (c, j) => cs.setIfInBounds (i * ks.length + j) c) us) h2 (fun p hp => ho p (by simp [hp])) (by simpa using hl) (fun q m y hq => by simpa using hp (q + 1) m y (by simpa using hq)) (by
      rw [hz, size_foldl_set]
      have : i + 1 + l'.length = i + (d :: l').length := by simp; omega
      rw [this]; exact hs)
    refine ⟨by simp [e0], us', ?_, by rw [e2, hz, size_foldl_set], fun q hq => ?_, fun q j k d' hd hk => ?_⟩
    · simp only [Instr.fill]
      rw [if_neg (by simp [hsz]; omega)]
      exact e1
    · rw [e3 q (Nat.lt_of_lt_of_le hq (Nat.mul_le_mul_right _ (by omega))), hz, hfs q, if_neg (by omega)]
    · have hj := (List.getElem?_eq_some_iff.1 hk).1
      cases q with
      | succ q =>
        have := e4 q j k d' (by simpa using hd) hk
        rw [show i + 1 + q = i + (q + 1) by omega] at this
        exact this
      | zero =>
        simp at hd
        subst hd
        obtain ⟨u, hu, hr⟩ := c2 j (x.cells[j]'(by omega)) (List.getElem?_eq_getElem (by omega))
        refine ⟨u, ?_, hr.one, packC_rep (p2 j k _ hk (List.getElem?_eq_getElem (by omega))) hr⟩
        rw [Nat.add_zero, e3 _ (by rw [Nat.add_mul]; omega), hz, hfs, if_pos (by simp [hsz]; omega)]
        simpa using hu
theorem bslice_sound (h : Inv P F g s a w) {T E : TypeId} {n d : Nat} {ps : Array (Nat × Operand)} {ks : List CK} {l : List Dat} (hE : elemT P T = some E) (hks : kinds P E = some ks) (hl : partsF ks (ps.toList.map fun (i, x) => (i, s.ev x)) 0 = some l) (hn : l.length = n)
    (hz : szT P E = some ks.length) (hzc : (zeroCells P E).isSome = true) (hbig : n * ks.length ≤ 16777216) (hp0 : 0 < ks.length) (hone : ps.toList.all (fun p => (s.ev p.2).cells.all AV.one) = true) (hd : d < s.t.length)
    (hk : ∀ i x, (i, x) ∈ ps.toList → RepS P g w (s.ev x) (a.eval x)) :
    ∃ v w', (Instr.buildSlice T n (ps.map fun (i, x) => (i, a.eval x))).run P w = .ok v w' ∧ (∃ g', Inv P F g' ((s.kill d).put (some d) (.row (some d) E l)) (a.put (some d) v) w') ∧
      ∃ g', Inv P F g' (s.put (some d) (.row none E l)) (a.put (some d) v) w' := by
  have hE' := elemT_eq hE
  obtain ⟨z, hz'⟩ := Option.isSome_iff_exists.1 hzc
  obtain ⟨zv, hzr, hzs, hz1⟩ := zero_rep (P := P) (w := w) hz'
  obtain ⟨m, hm, hms⟩ := runs_sizeOf (P := P) (w := w) hz
  subst hms
  have hk1 := h.kills (killF_kills d)
  have hd0 : (g.kills (killF d)).tk d = none := kills_tk (killF_kills d) (killF_self d)
  -- the cells, zero at first
  obtain ⟨z0, hz0⟩ : ∃ z0 : Array Value, z0 = if n * ks.length = 0 then #[] else zv.cells := ⟨_, rfl⟩
  obtain ⟨p0, us', p1, p2, p3, p4⟩ := parts_sound (g := g) (w := w) (ps.toList.map fun (i, x) => (i, s.ev x)) (ps.map fun (i, x) => (i, a.eval x)).toList 0 l ((Array.range (n * ks.length)).map (z0[· % z0.size]!)) hl (fun p hp => by
    obtain ⟨⟨qi, qx⟩, hq, rfl⟩ := List.mem_map.1 hp
    exact List.all_eq_true.1 hone (qi, qx) hq) (by simp) (fun i m x hi => by
    rw [List.getElem?_map] at hi
    obtain ⟨⟨q, y⟩, hq, he⟩ := Option.map_eq_some_iff.1 hi
    cases he
    exact ⟨a.eval y, by simp at hq ⊢; exact ⟨_, _, hq, rfl, rfl⟩, hk _ y (List.mem_of_getElem? hq)⟩) (by simp [hn])
  have hsz : us'.size = n * ks.length := by rw [p2]; simp
  have hL : RepL P g.G w ks l us'.toList := by
    refine ⟨by simp [hsz, hn], fun u hu => ?_, fun i j k dd hdd hkk => ?_⟩
    · obtain ⟨q, hq, rfl⟩ := List.mem_iff_getElem.1 hu
      have hq' : q < n * ks.length := by rw [← hsz]; simpa using hq
      have a1 : q / ks.length < l.length := by rw [hn]; exact (Nat.div_lt_iff_lt_mul hp0).2 hq'
      have a2 := Nat.mod_lt q hp0
      have a3 : q / ks.length * ks.length + q % ks.length = q := by rw [Nat.mul_comm]; exact Nat.div_add_mod q ks.length
      obtain ⟨u, h1, h2, _⟩ := p4 _ _ _ _ (List.getElem?_eq_getElem a1) (List.getElem?_eq_getElem a2)
      rw [Nat.zero_add, a3] at h1
      have : us'[q]? = some us'.toList[q] := by rw [← Array.getElem?_toList]; exact List.getElem?_eq_getElem hq
      rw [this] at h1
      cases h1
      exact h2
    · obtain ⟨u, h1, h2, h3, h4⟩ := p4 i j k dd hdd hkk
      rw [Nat.zero_add] at h1
      exact ⟨u, by simpa using h1, h3, h4⟩
  have hw := Push.alloc w (.cells us' E (0, 0))
  have hf := hk1.fresh hw (n * ks.length)
  have hnew := hw.new
  have hcell : ∀ (q : Nat) u, us'.toList[q]? = some u → q < n * ks.length ∧ (w.alloc (.cells us' E (0, 0))).cell? ⟨w.heap.size, 0 + q, none⟩ = some u := fun q u hq => by
    have hq' := (List.getElem?_eq_some_iff.1 hq).1
    refine ⟨by rw [← hsz]; simpa using hq', ?_⟩
    unfold World.cell?
    dsimp only
    rw [hnew]
    simpa using hq
  have hrun : (Instr.buildSlice T n (ps.map fun (i, x) => (i, a.eval x))).run P w = .ok (.slice (some ⟨w.heap.size, 0, none⟩) n n) (w.alloc (.cells us' E (0, 0))) := by
    have hb : ¬ (n * ks.length > 2 ^ 24) := by omega
    simp only [Instr.buildSlice, Sem.run_bind, run_underlying hE', Result.andThen_ok, hm, if_neg hb]
    by_cases e : n * ks.length = 0
    · rw [if_pos e] at hz0 ⊢
      subst hz0
      simp only [Sem.run_bind, Sem.run_pure, Result.andThen_ok]
      rw [p1]
      simp [newRow]
    · rw [if_neg e] at hz0 ⊢
      subst hz0
      simp only [Sem.run_bind, hzr, Result.andThen_ok, Sem.run_pure]
      rw [p1]
      simp [newRow]
  have hOwn : Own P ((g.kills (killF d)).more w.heap.size (n * ks.length)) (w.alloc (.cells us' E (0, 0))) (.slice (some ⟨w.heap.size, 0, none⟩) n n) E := by
    refine .inr ⟨w.heap.size, n, n, us', ks, rfl, hnew, hks, Nat.le_refl _, ?_, hsz, fun j hj hg => ?_⟩
    · have : n ≤ n * ks.length := Nat.le_mul_of_pos_right _ hp0
      unfold maxLen; omega
    · rcases hg with hg | ⟨_, hg⟩
      · have := h.mem.gsz _ _ hg; omega
      · omega
  have hI := hf.addTok (n := d) (v := .slice (some ⟨w.heap.size, 0, none⟩) n n) (E := E) hd0 hOwn (fun m v' E' b hm hv' hb => by
    cases hb
    exact Nat.lt_irrefl _ ((hk1.mem.own m v' E' hm).lt hv')) (fun e cs b he hb hvb' => by
    cases hvb'
    obtain ⟨β', us0, T0, b1, b2, _⟩ := hk1.mem.box e cs he
    have hb' : (g.kills (killF d)).bx e = some w.heap.size := hb
    rw [hb'] at b1
    cases b1
    exact Nat.lt_irrefl _ (Array.getElem?_eq_some_iff.1 b2).1) (fun b hb => by
    cases hb
    exact .inl h.fr.size)
  have hGm : ∀ b j, g.G b j → ((g.kills (killF d)).more w.heap.size (n * ks.length)).G b j ∧ (w.alloc (.cells us' E (0, 0))).cell? ⟨b, j, none⟩ = w.cell? ⟨b, j, none⟩ := fun b j hj =>
    ⟨.inl hj, hw.cell (h.mem.gsz b j hj)⟩
  have hrow := RepL.row (G := (((g.kills (killF d)).more w.heap.size (n * ks.length)).tok d (.slice (some ⟨w.heap.size, 0, none⟩) n n) E).G) (w := w.alloc (.cells us' E (0, 0))) (β := w.heap.size) (off := 0) (cap := n) (hL.mono hGm) hks (by omega) (fun q u hq => by
    obtain ⟨c1, c2⟩ := hcell q u hq
    exact ⟨.inr ⟨rfl, by omega⟩, c2⟩)
  rw [hn] at hrow
  refine ⟨_, _, hrun, ⟨_, hI.put (some d) (x := .row (some d) E l) ⟨hrow, fun m hm => ?_⟩⟩, ⟨_, (h.fresh hw (n * ks.length)).put (some d) (x := .row none E l) ⟨hrow, fun m hm => by cases hm⟩⟩⟩
  cases hm
  show (if d = d then _ else _) = _
  rw [if_pos rfl]
/-- A string's bytes, as a slice of its own (that is not appended to). -/
theorem run_s2b {src dst E : TypeId} (str : ByteArray) (h1 : P.underlying src = some .string) (h2 : P.underlying dst = some (.slice E)) (h3 : P.underlying E = some (.int .u8)) (hb : str.size ≤ fitsN) :
    ∃ (w1 : World) (us : Array Value) (cap : Nat), (convert src dst (.string str)).run P w = .ok (.slice (some ⟨w.heap.size, 0, none⟩) str.size cap) w1 ∧ Push w w1 (.cells us E (us.size, us.size + 1)) ∧ str.size ≤ cap ∧
      ∀ (q : Nat) b, str.data[q]? = some b → us[q]? = some (.int .u8 b.toNat) := by
  obtain ⟨cap, hcap⟩ : ∃ cap, cap = grownCap w str.size 0 E := ⟨_, rfl⟩
  have hge : str.size ≤ cap := hcap ▸ grownCap_ge _ _ _ _
  obtain ⟨us, hus⟩ : ∃ us : Array Value, us = str.data.map (fun b => Value.int .u8 b.toNat) ++ Array.replicate (cap - str.size) (.int .u8 0) := ⟨_, rfl⟩
  have hw := Push.drew w (.cells us E (0, 0))
  have hsh : (w.drew.alloc (.cells us E (0, 0))).shape? w.heap.size = some (E, us.size) := by
    unfold World.shape?; rw [hw.new]
  refine ⟨(w.drew.alloc (.cells us E (0, 0))).freeze ⟨w.heap.size, us.size, none⟩ 1, us, cap, ?_, ?_, hge, fun q b hq => ?_⟩
  · simp only [convert, Sem.run_bind, run_underlying h1, run_underlying h2, run_underlying h3, Result.andThen_ok, Conv.stringToBytes]
    have hc : (choose (.appendCap str.size 0 E)).run P w = .ok cap w.drew := by
      simp only [choose, Sem.run, Question.forced, Bool.false_eq_true, if_false]
      rw [show (Question.appendCap str.size 0 E).cut (w.tape w.drawn (Question.appendCap str.size 0 E)) = cap from hcap.symm]
      rfl
    simp only [hc, Result.andThen_ok, newRow, Sem.run_bind]
    rw [← hus]
    have hn : (newObj (.cells us E (0, 0))).run P w.drew = .ok w.heap.size (w.drew.alloc (.cells us E (0, 0))) := rfl
    simp only [hn, Result.andThen_ok, Sem.run_pure, markStringish, Sem.run_bind]
    have hs2 : (shape w.heap.size).run P (w.drew.alloc (.cells us E (0, 0))) = .ok (some (E, us.size)) (w.drew.alloc (.cells us E (0, 0))) := by
      show Result.ok ((w.drew.alloc (.cells us E (0, 0))).shape? w.heap.size) _ = _
      rw [hsh]
    simp only [hs2, Result.andThen_ok]
    rfl
  · refine ⟨?_, rfl, rfl, rfl⟩
    apply Array.ext_getElem?
    intro i
    show ((if (1 : Nat) = 0 then _ else _ : World)).heap[i]? = _
    rw [if_neg (by decide)]
    simp only [Array.getElem?_modify, Array.getElem?_push]
    have hh : (w.drew.alloc (.cells us E (0, 0))).heap = w.heap.push (.cells us E (0, 0)) := rfl
    rw [hh, Array.getElem?_push]
    by_cases e : w.heap.size = i
    · subst e
      simp
    · rw [if_neg e, if_neg (fun h => e h.symm), if_neg (fun h => e h.symm)]
  · have hlt := (Array.getElem?_eq_some_iff.1 hq).1
    rw [hus, Array.getElem?_append_left (by simpa using hlt), Array.getElem?_map, hq]
    rfl
end
end Go.Proofs.YtckdgcpomkefpaaGreatDoor.En
