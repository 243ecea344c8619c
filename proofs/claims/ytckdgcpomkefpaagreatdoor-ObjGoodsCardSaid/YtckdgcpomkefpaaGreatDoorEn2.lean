/- The state, weakened: tokens struck or renamed, boxes forgotten, values put. -/
import Derived.Test.YtckdgcpomkefpaaGreatDoorEn1
set_option linter.unusedVariables false
set_option linter.unusedSimpArgs false
namespace Go.Proofs.YtckdgcpomkefpaaGreatDoor.En
open Go
section
variable {P : Program} {F : Fx} {g : Gh} {s : St} {a : Act} {w : World}

theorem Mem.wk {b b' : Bx} {g' : Gh} (h : Mem P g w b) (hG : g'.G = g.G)
    (hb : ∀ (d : Nat) cs', b'[d]? = some (some cs') → ∃ cs, b[d]? = some (some cs) ∧ cs'.length = cs.length ∧ g'.bx d = g.bx d ∧ ∀ (j : Nat) c', cs'[j]? = some c' → ∃ c, cs[j]? = some c ∧ ∀ T β u, RepB P g w T β j c u → RepB P g' w T β j c' u)
    (ρ : Nat → Nat) (htk : ∀ n v, g'.tk n = some v → g.tk (ρ n) = some v) (hρ : ∀ n m, g'.tk n ≠ none → g'.tk m ≠ none → ρ n = ρ m → n = m) : Mem P g' w b' := by
  refine ⟨fun β j hj => h.gsz β j (hG ▸ hj), fun d cs' hd => ?_, fun d d' β cs cs' hd hd' hβ hβ' => ?_, fun n v E hn => ?_, fun n m v v' E E' β hn hm hv hv' => ?_, fun n v E β d cs hn hv hd hβ => ?_⟩
  · obtain ⟨cs, h1, h2, h3, h4⟩ := hb d cs' hd
    obtain ⟨β, us, T, e1, e2, e3, e4, e5⟩ := h.box d cs h1
    refine ⟨β, us, T, h3.trans e1, e2, by rw [e3, h2], fun j hj => e4 j (hG ▸ hj), fun j c' hj => ?_⟩
    obtain ⟨c, hc, hcc⟩ := h4 j c' hj
    obtain ⟨u, hu, hr⟩ := e5 j c hc
    exact ⟨u, hu, hcc T β u hr⟩
  · obtain ⟨c1, h1, _, h3, _⟩ := hb d cs hd
    obtain ⟨c2, h1', _, h3', _⟩ := hb d' cs' hd'
    exact h.apart d d' β c1 c2 h1 h1' (h3 ▸ hβ) (h3' ▸ hβ')
  · rcases h.own _ v E (htk n _ hn) with e | ⟨β, k, cap, us, ks, e1, e2, e3, e4, e5, e6, e7⟩
    · exact .inl e
    · exact .inr ⟨β, k, cap, us, ks, e1, e2, e3, e4, e5, e6, fun j hj hg => e7 j hj (hG ▸ hg)⟩
  · exact hρ n m (by rw [hn]; simp) (by rw [hm]; simp) (h.tkap _ _ v v' E E' β (htk n _ hn) (htk m _ hm) hv hv')
  · obtain ⟨c1, h1, _, h3, _⟩ := hb d cs hd
    exact h.tkbx _ v E β d c1 (htk n _ hn) hv h1 (h3 ▸ hβ)

theorem Inv.wk {g' : Gh} {s' : St} (h : Inv P F g s a w) (hG : g'.G = g.G) (htl : s'.t.length = s.t.length) (hbl : s'.b.length = s.b.length)
    (ht : ∀ (i : Nat) x', s'.t[i]? = some x' → ∃ x, s.t[i]? = some x ∧ ∀ v, RepS P g w x v → RepS P g' w x' v)
    (hb : ∀ (d : Nat) cs', s'.b[d]? = some (some cs') → ∃ cs, s.b[d]? = some (some cs) ∧ cs'.length = cs.length ∧ g'.bx d = g.bx d ∧ ∀ (j : Nat) c', cs'[j]? = some c' → ∃ c, cs[j]? = some c ∧ ∀ T β u, RepB P g w T β j c u → RepB P g' w T β j c' u)
    (ρ : Nat → Nat) (htk : ∀ n v, g'.tk n = some v → g.tk (ρ n) = some v) (hρ : ∀ n m, g'.tk n ≠ none → g'.tk m ≠ none → ρ n = ρ m → n = m)
    (hp : ∀ i, i < F.np → F.bx i ≠ none → g'.bx i = g.bx i) : Inv P F g' s' a w := by
  refine ⟨h.mem.wk hG hb ρ htk hρ, by rw [hbl, htl, h.blen], by rw [htl, h.len], fun i x' hi => ?_, h.dfr, h.fr, fun β j hj => hG ▸ h.g0 β j hj, fun β j hj => h.gfr β j (hG ▸ hj), fun n v E β hn => h.tb _ v E β (htk n _ hn), fun d cs β hd hβ => ?_, fun i hi hn => (hp i hi hn).trans (h.pbx i hi hn)⟩
  · obtain ⟨x, hx, hv⟩ := ht i x' hi
    obtain ⟨v, h1, h2⟩ := h.tm i x hx
    exact ⟨v, h1, hv v h2⟩
  · obtain ⟨c1, h1, _, h3, _⟩ := hb d cs hd
    exact h.bb d c1 β h1 (h3 ▸ hβ)

/-! ### tokens -/
/-- What a change of tokens does to what is known of them. -/
def TokOk (f : Option Nat → Option Nat) (g g' : Gh) : Prop := f none = none ∧ g'.G = g.G ∧ g'.bx = g.bx ∧ ∀ k n v, f (some k) = some n → g.tk k = some v → g'.tk n = some v
variable {f : Option Nat → Option Nat} {g' : Gh}
theorem TokOk.row (hf : TokOk f g g') {E : TypeId} {l : List Dat} {t : Option Nat} {v : Value} (h : RepC P g w (.row t E l) v) : RepC P g' w (.row (f t) E l) v := by
  obtain ⟨h1, h2⟩ := h
  obtain ⟨e1, e2, e3, e4⟩ := hf
  refine ⟨e2 ▸ h1, fun n hn => ?_⟩
  cases t with
  | none => rw [e1] at hn; cases hn
  | some k => exact e4 k n _ hn (h2 k rfl)
theorem TokOk.ro (hf : TokOk f g g') {x : AV} {v : Value} (h : Rep0 P g w x v) : Rep0 P g' w x v := by
  obtain ⟨e1, e2, e3, e4⟩ := hf
  cases x <;> simp only [Rep0] at h ⊢ <;> first | exact h | exact ⟨h.1, e2 ▸ h.2⟩
theorem TokOk.C (hf : TokOk f g g') {x : AV} {v : Value} (h : RepC P g w x v) : RepC P g' w (x.tok1 f) v := by
  cases x with
  | row t E l => exact hf.row h
  | box d off => obtain ⟨β, hb, hv⟩ := h; exact ⟨β, by rw [hf.2.2.1]; exact hb, hv⟩
  | ro cs =>
    obtain ⟨β, o, hv, hc⟩ := h
    exact ⟨β, o, hv, fun j c hj => let ⟨u, h1, h2, h3⟩ := hc j c hj; ⟨u, h1, by rw [hf.2.1]; exact h2, hf.ro h3⟩⟩
  | v x => exact h
  | dead => exact h
  | agg cs => exact h
  | tup cs => exact h
  | self => exact h
theorem TokOk.B (hf : TokOk f g g') {T : TypeId} {β j : Nat} {x : AV} {v : Value} (h : RepB P g w T β j x v) : RepB P g' w T β j (x.tok1 f) v := by
  cases x with
  | self => exact h
  | row t E l => exact TokOk.C (P := P) (w := w) hf (x := .row t E l) h
  | box d off => exact TokOk.C (P := P) (w := w) hf (x := .box d off) h
  | ro cs => exact TokOk.C (P := P) (w := w) hf (x := .ro cs) h
  | v x => exact h
  | dead => exact h
  | agg cs => exact h
  | tup cs => exact h
theorem TokOk.T (hf : TokOk f g g') {x : AV} {v : Value} (h : RepT P g w x v) : RepT P g' w (x.tok2 f) v := by
  cases x with
  | agg cs =>
    obtain ⟨vs, h1, h2, h3⟩ := h
    refine ⟨vs, h1, by simp [h2], fun j c hj => ?_⟩
    rw [List.getElem?_map] at hj
    obtain ⟨c0, hc0, rfl⟩ := Option.map_eq_some_iff.1 hj
    obtain ⟨u, hu, hr⟩ := h3 j c0 hc0
    exact ⟨u, hu, hf.C hr⟩
  | dead => exact trivial
  | row t E l => exact TokOk.C (P := P) (w := w) hf (x := .row t E l) h
  | box d off => exact TokOk.C (P := P) (w := w) hf (x := .box d off) h
  | ro cs => exact TokOk.C (P := P) (w := w) hf (x := .ro cs) h
  | v x => exact h
  | tup cs => exact h
  | self => exact h
theorem TokOk.S (hf : TokOk f g g') {x : AV} {v : Value} (h : RepS P g w x v) : RepS P g' w (x.tok f) v := by
  cases x with
  | tup cs =>
    obtain ⟨vs, h1, h2, h3⟩ := h
    refine ⟨vs, h1, by simp [h2], fun j c hj => ?_⟩
    rw [List.getElem?_map] at hj
    obtain ⟨c0, hc0, rfl⟩ := Option.map_eq_some_iff.1 hj
    obtain ⟨u, hu, hr⟩ := h3 j c0 hc0
    exact ⟨u, hu, hf.T hr⟩
  | agg cs => exact TokOk.T (P := P) (w := w) hf (x := .agg cs) h
  | dead => exact trivial
  | row t E l => exact TokOk.C (P := P) (w := w) hf (x := .row t E l) h
  | box d off => exact TokOk.C (P := P) (w := w) hf (x := .box d off) h
  | ro cs => exact TokOk.C (P := P) (w := w) hf (x := .ro cs) h
  | v x => exact h
  | self => exact h
theorem Inv.tok (h : Inv P F g s a w) (hf : TokOk f g g') (ρ : Nat → Nat) (htk : ∀ n v, g'.tk n = some v → g.tk (ρ n) = some v) (hρ : ∀ n m, g'.tk n ≠ none → g'.tk m ≠ none → ρ n = ρ m → n = m) : Inv P F g' (s.tok f) a w := by
  refine h.wk hf.2.1 (by simp [St.tok]) (by simp [St.tok]) (fun i x' hi => ?_) (fun d cs' hd => ?_) ρ htk hρ (fun i _ _ => by rw [hf.2.2.1])
  · simp only [St.tok, List.getElem?_map] at hi
    obtain ⟨x, hx, rfl⟩ := Option.map_eq_some_iff.1 hi
    exact ⟨x, hx, fun v hv => hf.S hv⟩
  · simp only [St.tok, List.getElem?_map] at hd
    obtain ⟨o, ho, he⟩ := Option.map_eq_some_iff.1 hd
    obtain ⟨cs, rfl, rfl⟩ := Option.map_eq_some_iff.1 he
    refine ⟨cs, ho, by simp, by rw [hf.2.2.1], fun j c' hj => ?_⟩
    rw [List.getElem?_map] at hj
    obtain ⟨c, hc, rfl⟩ := Option.map_eq_some_iff.1 hj
    exact ⟨c, hc, fun T β u hu => hf.B hu⟩
/-- f strikes some tokens and leaves the others. -/
def Kills (f : Option Nat → Option Nat) : Prop := f none = none ∧ ∀ n, f (some n) = some n ∨ f (some n) = none
def Gh.kills (g : Gh) (f : Option Nat → Option Nat) : Gh := { g with tk := fun n => match f (some n) with | some _ => g.tk n | none => none }
theorem Inv.kills (h : Inv P F g s a w) (hf : Kills f) : Inv P F (g.kills f) (s.tok f) a w := by
  refine h.tok (f := f) (g' := g.kills f) ⟨hf.1, rfl, rfl, fun k n v hk hv => ?_⟩ id (fun n v hn => ?_) (fun _ _ _ _ e => e)
  · rcases hf.2 k with e | e
    · rw [e] at hk; cases hk
      show (match f (some k) with | some _ => g.tk k | none => none) = _
      rw [e]; exact hv
    · rw [e] at hk; cases hk
  · have : (match f (some n) with | some _ => g.tk n | none => none) = some v := hn
    rcases hf.2 n with e | e
    · rw [e] at this; exact this
    · rw [e] at this; cases this
theorem kills_tk (hf : Kills f) {n : Nat} (h : f (some n) = none) : (g.kills f).tk n = none := by
  show (match f (some n) with | some _ => g.tk n | none => none) = none
  rw [h]
theorem kills_none {n : Nat} (h : g.tk n = none) : (g.kills f).tk n = none := by
  show (match f (some n) with | some _ => g.tk n | none => none) = none
  split <;> first | exact h | rfl
theorem killF_kills (n : Nat) : Kills (killF n) := ⟨rfl, fun m => by show (bif m == n then none else some m) = some m ∨ (bif m == n then none else some m) = none; cases (m == n) <;> simp⟩
theorem killF_self (n : Nat) : killF n (some n) = none := by simp [killF]
theorem killsF_kills (d lo hi : Nat) : Kills (killsF d lo hi) := ⟨rfl, fun m => by show (bif (m / 1024 == d + 1 && Nat.ble lo (m % 1024) && Nat.blt (m % 1024) hi) then none else some m) = some m ∨ (bif (m / 1024 == d + 1 && Nat.ble lo (m % 1024) && Nat.blt (m % 1024) hi) then none else some m) = none; cases (m / 1024 == d + 1 && Nat.ble lo (m % 1024) && Nat.blt (m % 1024) hi) <;> simp⟩
theorem sub_div (d j : Nat) (h : j < 1024) : sub d j / 1024 = d + 1 := by unfold sub; omega
theorem sub_mod (d j : Nat) (h : j < 1024) : sub d j % 1024 = j := by unfold sub; omega
theorem killsF_sub (d lo hi j : Nat) (h : j < 1024) (h1 : lo ≤ j) (h2 : j < hi) : killsF d lo hi (some (sub d j)) = none := by
  have e1 : Nat.ble lo j = true := Nat.ble_eq_true_of_le h1
  have e2 : Nat.blt j hi = true := Nat.ble_eq_true_of_le h2
  simp [killsF, sub_div d j h, sub_mod d j h, e1, e2]
/-- A token renamed, the new name being free. -/
def Gh.ren (g : Gh) (n m : Nat) : Gh := { g with tk := fun k => if k = m then g.tk n else if k = n then none else g.tk k }
theorem Inv.ren (h : Inv P F g s a w) {n m : Nat} (hm : g.tk m = none) (hnm : n ≠ m) : Inv P F (g.ren n m) (s.tok (renF n m)) a w := by
  refine h.tok (f := renF n m) (g' := g.ren n m) ⟨rfl, rfl, rfl, fun k j v hk hv => ?_⟩ (fun k => if k = m then n else k) (fun k v hk => ?_) (fun k j hk hj e => ?_)
  · show (if j = m then g.tk n else if j = n then none else g.tk j) = some v
    simp only [renF] at hk
    by_cases hkn : k = n
    · subst hkn
      simp at hk
      subst hk
      rw [if_pos rfl]; exact hv
    · have : (k == n) = false := by simpa using hkn
      rw [this] at hk
      simp at hk
      subst hk
      rw [if_neg (by rintro rfl; rw [hm] at hv; cases hv), if_neg hkn]; exact hv
  · have hk' : (if k = m then g.tk n else if k = n then none else g.tk k) = some v := hk
    by_cases e : k = m
    · rw [if_pos e] at hk'; simpa [e] using hk'
    · rw [if_neg e] at hk'
      split at hk'
      · cases hk'
      · simpa [e] using hk'
  · have hk' : (if k = m then g.tk n else if k = n then none else g.tk k) ≠ none := hk
    have hj' : (if j = m then g.tk n else if j = n then none else g.tk j) ≠ none := hj
    by_cases e1 : k = m <;> by_cases e2 : j = m
    · rw [e1, e2]
    · rw [if_neg e2] at hj'
      simp only [e1, e2, if_true, if_false] at e
      rw [← e, if_pos rfl] at hj'
      exact absurd rfl hj'
    · rw [if_neg e1] at hk'
      simp only [e1, e2, if_true, if_false] at e
      rw [e, if_pos rfl] at hk'
      exact absurd rfl hk'
    · simpa [e1, e2] using e
/-- A nil slice may be appended to, under a free name. -/
def Gh.nils (g : Gh) (N : Nat → Option TypeId) : Gh := { g with tk := fun n => match N n with | some E => some (.slice none 0 0, E) | none => g.tk n }
theorem Gh.nils_le {N : Nat → Option TypeId} (hN : ∀ n, N n ≠ none → g.tk n = none) : g.Le (g.nils N) w w :=
  ⟨fun β j hj => ⟨hj, rfl⟩, fun n v hn => by
    show (match N n with | some E => some (Value.slice none 0 0, E) | none => g.tk n) = some v
    cases hh : N n with
    | none => exact hn
    | some E => (rw [hN n (by rw [hh]; simp)] at hn; cases hn), fun d β h => h⟩
theorem nils_cases {N : Nat → Option TypeId} {n : Nat} {v : Value} {E : TypeId} (h : (g.nils N).tk n = some (v, E)) : (v = .slice none 0 0 ∧ N n = some E) ∨ (N n = none ∧ g.tk n = some (v, E)) := by
  have h' : (match N n with | some E => some (Value.slice none 0 0, E) | none => g.tk n) = some (v, E) := h
  cases hh : N n with
  | none => rw [hh] at h'; exact .inr ⟨rfl, h'⟩
  | some E' => rw [hh] at h'; simp at h'; exact .inl ⟨h'.1.symm, by rw [h'.2]⟩
theorem Mem.nils {b : Bx} {N : Nat → Option TypeId} (h : Mem P g w b) (hN : ∀ n, N n ≠ none → g.tk n = none) : Mem P (g.nils N) w b := by
  have hle := Gh.nils_le (w := w) hN
  refine ⟨h.gsz, fun d cs hd => ?_, h.apart, fun n v E hn => ?_, fun n m v v' E E' β hn hm hv hv' => ?_, fun n v E β d cs hn hv hd hβ => ?_⟩
  · obtain ⟨β, us, T, e1, e2, e3, e4, e5⟩ := h.box d cs hd
    exact ⟨β, us, T, e1, e2, e3, e4, fun j c hc => let ⟨u, hu, hr⟩ := e5 j c hc; ⟨u, hu, hr.mono hle⟩⟩
  · rcases nils_cases hn with ⟨rfl, _⟩ | ⟨_, hn⟩
    · exact .inl rfl
    · exact h.own n v E hn
  · rcases nils_cases hn with ⟨rfl, _⟩ | ⟨_, hn⟩
    · cases hv
    · rcases nils_cases hm with ⟨rfl, _⟩ | ⟨_, hm⟩
      · cases hv'
      · exact h.tkap n m v v' E E' β hn hm hv hv'
  · rcases nils_cases hn with ⟨rfl, _⟩ | ⟨_, hn⟩
    · cases hv
    · exact h.tkbx n v E β d cs hn hv hd hβ
theorem Inv.nils {N : Nat → Option TypeId} (h : Inv P F g s a w) (hN : ∀ n, N n ≠ none → g.tk n = none) : Inv P F (g.nils N) s a w := by
  have hle := Gh.nils_le (w := w) hN
  refine ⟨h.mem.nils hN, h.blen, h.len, fun i x hi => ?_, h.dfr, h.fr, h.g0, h.gfr, fun n v E β hn hv => ?_, h.bb, h.pbx⟩
  · obtain ⟨v, h1, h2⟩ := h.tm i x hi
    exact ⟨v, h1, h2.mono hle⟩
  · rcases nils_cases hn with ⟨rfl, _⟩ | ⟨_, hn⟩
    · cases hv
    · exact h.tb n v E β hn hv
def one1 (n : Nat) (E : TypeId) : Nat → Option TypeId := fun m => if m = n then some E else none

/-! ### a value is put -/
theorem Inv.put (h : Inv P F g s a w) (d : Option Nat) {x : AV} {v : Value} (hx : RepS P g w x v) : Inv P F g (s.put d x) (a.put d v) w := by
  cases d with
  | none => exact h
  | some d =>
    refine ⟨h.mem, by simpa [St.put] using h.blen, by simpa [St.put, Act.put] using h.len, fun i y hi => ?_, h.dfr, h.fr, h.g0, h.gfr, h.tb, h.bb, h.pbx⟩
    simp only [St.put, List.getElem?_set] at hi
    simp only [Act.put, Array.getElem?_setIfInBounds]
    have hl := h.len
    split at hi
    · rename_i e
      subst e
      split at hi
      · cases hi
        rw [if_pos rfl, if_pos (by omega)]
        exact ⟨v, rfl, hx⟩
      · cases hi
    · rename_i e
      rw [if_neg e]
      exact h.tm i y hi
theorem Inv.get (h : Inv P F g s a w) (t : Nat) : RepS P g w (s.get t) (a.tmps.getD t undef) := by
  unfold St.get
  by_cases ht : t < s.t.length
  · obtain ⟨v, h1, h2⟩ := h.tm t s.t[t] (List.getElem?_eq_getElem ht)
    simp only [List.getD_eq_getElem?_getD, List.getElem?_eq_getElem ht, Option.getD_some, Array.getD_eq_getD_getElem?, h1]
    exact h2
  · rw [List.getD_eq_getElem?_getD, List.getElem?_eq_none (Nat.le_of_not_lt ht)]
    exact trivial
/-- A constant's cells are no structs. -/
def okV : Value → Bool
  | .agg cs => cs.toList.all Value.oneCell'
  | _ => true
def okO : Operand → Bool
  | .const x => okV x
  | _ => true
theorem Inv.ev (h : Inv P F g s a w) (x : Operand) (hx : okO x = true) : RepS P g w (s.ev x) (a.eval x) := by
  cases x with
  | tmp t => exact h.get t
  | func f => exact ⟨rfl, rfl⟩
  | global n => exact trivial
  | const c =>
    show RepS P g w (St.ofV c) c
    cases c with
    | agg cs =>
      refine ⟨cs, rfl, by simp, fun j c hj => ?_⟩
      rw [List.getElem?_map] at hj
      obtain ⟨u, hu, rfl⟩ := Option.map_eq_some_iff.1 hj
      rw [Array.getElem?_toList] at hu
      have := List.all_eq_true.1 (show cs.toList.all Value.oneCell' = true from hx) u (by rw [← Array.getElem?_toList] at hu; exact List.mem_of_getElem? hu)
      exact ⟨u, hu, rfl, this⟩
    | tuple vs => exact trivial
    | _ => exact ⟨rfl, rfl⟩
end
end Go.Proofs.YtckdgcpomkefpaaGreatDoor.En
