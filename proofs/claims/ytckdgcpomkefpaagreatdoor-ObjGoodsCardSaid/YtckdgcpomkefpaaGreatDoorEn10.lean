/- Calls: what is known behind one. -/
import Derived.Test.YtckdgcpomkefpaaGreatDoorEn9
set_option linter.unusedVariables false
set_option linter.unusedSimpArgs false
namespace Go.Proofs.YtckdgcpomkefpaaGreatDoor.En
open Go
section
variable {P : Program} {F : Fx} {g : Gh} {s : St} {a : Act} {w : World}

theorem backS_spec : ∀ (ls : List (Option Nat)) (i : Nat) (bs : Bx) (s s2 : St), backS i ls bs s = some s2 → (∀ (k k' d : Nat), ls[k]? = some (some d) → ls[k']? = some (some d) → k = k') →
    s2.t = s.t ∧ s2.b.length = s.b.length ∧ (∀ (k d : Nat), ls[k]? = some (some d) → ∃ cs old, bs[k]? = some (some cs) ∧ s.b[d]? = some (some old) ∧ cs.length = old.length ∧ s2.b[d]? = some (some (giveL (i + k) d 0 cs))) ∧
      ∀ d : Nat, (∀ k : Nat, ls[k]? ≠ some (some d)) → s2.b[d]? = s.b[d]?
  | [], i, bs, s, s2, h, _ => by
    simp only [backS] at h
    cases h
    exact ⟨rfl, rfl, fun k d h => by simp at h, fun _ _ => rfl⟩
  | none :: ls, i, bs, s, s2, h, hi => by
    cases bs with
    | nil => simp [backS] at h
    | cons b bs =>
      simp only [backS] at h
      obtain ⟨e1, e2, e3, e4⟩ := backS_spec ls (i + 1) bs s s2 h (fun k k' d h1 h2 => by have := hi (k + 1) (k' + 1) d (by simpa using h1) (by simpa using h2); omega)
      refine ⟨e1, e2, fun k d hk => ?_, fun d hd => e4 d fun k hk => hd (k + 1) (by simpa using hk)⟩
      cases k with
      | zero => simp at hk
      | succ k =>
        obtain ⟨cs, old, f1, f2, f3, f4⟩ := e3 k d (by simpa using hk)
        exact ⟨cs, old, by simpa using f1, f2, f3, by rw [show i + (k + 1) = i + 1 + k by omega]; exact f4⟩
  | some d0 :: ls, i, bs, s, s2, h, hi => by
    cases bs with
    | nil => simp [backS] at h
    | cons b bs =>
      cases b with
      | none => simp [backS] at h
      | some cs0 =>
        simp only [backS] at h
        obtain ⟨old, h1, h2⟩ := Option.bind_eq_some_iff.1 h
        cases hc : Nat.beq cs0.length old.length <;> rw [hc] at h2
        · cases h2
        simp only [cond_true] at h2
        have hb := boxAt_eq h1
        have hlt := (List.getElem?_eq_some_iff.1 hb).1
        obtain ⟨e1, e2, e3, e4⟩ := backS_spec ls (i + 1) bs (s.setBox d0 (giveL i d0 0 cs0)) s2 h2 (fun k k' d h1 h2 => by have := hi (k + 1) (k' + 1) d (by simpa using h1) (by simpa using h2); omega)
        have hne : ∀ (k : Nat), ls[k]? ≠ some (some d0) := fun k hk => by
          have := hi 0 (k + 1) d0 rfl (by simpa using hk); omega
        have hset : ∀ d, d ≠ d0 → (s.setBox d0 (giveL i d0 0 cs0)).b[d]? = s.b[d]? := fun d hd => by
          simp only [St.setBox, List.getElem?_set]; rw [if_neg (Ne.symm hd)]
        refine ⟨e1, by rw [e2]; simp [St.setBox], fun k d hk => ?_, fun d hd => ?_⟩
        · cases k with
          | zero =>
            simp at hk
            subst hk
            refine ⟨cs0, old, rfl, hb, Nat.eq_of_beq_eq_true hc, ?_⟩
            rw [e4 d0 hne]
            simp [St.setBox, hlt]
          | succ k =>
            have hk' : ls[k]? = some (some d) := by simpa using hk
            obtain ⟨cs, old', f1, f2, f3, f4⟩ := e3 k d hk'
            have hd0 : d ≠ d0 := fun e => hne k (e ▸ hk')
            rw [hset d hd0] at f2
            exact ⟨cs, old', by simpa using f1, f2, f3, by rw [show i + (k + 1) = i + 1 + k by omega]; exact f4⟩
        · rw [e4 d fun k hk => hd (k + 1) (by simpa using hk)]
          exact hset d fun e => hd 0 (by rw [e]; rfl)
/-- Whose name a token has behind a call. -/
def resTok (v : AV) (dst : Option Nat) (n : Nat) : Option Nat := match dst with
  | some d => (match v with
    | .row (some m) _ _ => if n = d then some m else none
    | .tup vs => if n / 1024 = d + 1 then (match vs[n % 1024]? with | some (.row (some m) _ _) => some m | _ => none) else none
    | _ => none)
  | none => none
def boxTok (ls : List (Option Nat)) (i n : Nat) : Option Nat := match ls with
  | [] => none
  | some d :: ls => if n / 1024 = d + 1 then some (sub i (n % 1024)) else boxTok ls (i + 1) n
  | none :: ls => boxTok ls (i + 1) n
theorem boxTok_some : ∀ (ls : List (Option Nat)) (i n m : Nat), boxTok ls i n = some m → ∃ k d, ls[k]? = some (some d) ∧ n / 1024 = d + 1 ∧ m = sub (i + k) (n % 1024)
  | [], i, n, m, h => by cases h
  | some d :: ls, i, n, m, h => by
    simp only [boxTok] at h
    split at h
    · rename_i e; cases h; exact ⟨0, d, rfl, e, rfl⟩
    · obtain ⟨k, d', h1, h2, h3⟩ := boxTok_some ls (i + 1) n m h
      exact ⟨k + 1, d', by simpa using h1, h2, by rw [h3]; congr 1; omega⟩
  | none :: ls, i, n, m, h => by
    simp only [boxTok] at h
    obtain ⟨k, d', h1, h2, h3⟩ := boxTok_some ls (i + 1) n m h
    exact ⟨k + 1, d', by simpa using h1, h2, by rw [h3]; congr 1; omega⟩
theorem boxTok_of : ∀ (ls : List (Option Nat)) (i n k d : Nat), (∀ (k k' d : Nat), ls[k]? = some (some d) → ls[k']? = some (some d) → k = k') → ls[k]? = some (some d) → n / 1024 = d + 1 → boxTok ls i n = some (sub (i + k) (n % 1024))
  | [], i, n, k, d, _, h, _ => by simp at h
  | some d0 :: ls, i, n, k, d, hi, h, hn => by
    simp only [boxTok]
    cases k with
    | zero => simp at h; subst h; rw [if_pos hn]; rfl
    | succ k =>
      have hne : ¬ n / 1024 = d0 + 1 := fun e => by
        have : d = d0 := by omega
        have := hi 0 (k + 1) d0 rfl (by rw [← this]; exact h)
        omega
      rw [if_neg hne, boxTok_of ls (i + 1) n k d (fun k k' d h1 h2 => by have := hi (k + 1) (k' + 1) d (by simpa using h1) (by simpa using h2); omega) (by simpa using h) hn]
      congr 2; omega
  | none :: ls, i, n, k, d, hi, h, hn => by
    simp only [boxTok]
    cases k with
    | zero => simp at h
    | succ k =>
      rw [boxTok_of ls (i + 1) n k d (fun k k' d h1 h2 => by have := hi (k + 1) (k' + 1) d (by simpa using h1) (by simpa using h2); omega) (by simpa using h) hn]
      congr 2; omega
theorem lostF_kills (p : Pass) (dst : Option Nat) : Kills (lostF p dst) := ⟨rfl, fun n => by
  show (bif lostB p dst n then none else some n) = some n ∨ (bif lostB p dst n then none else some n) = none
  cases lostB p dst n <;> simp⟩
theorem lostF_none {p : Pass} {dst : Option Nat} {n : Nat} (h : p.tk = some n ∨ (∃ (k : Nat) (d : Nat), p.ls[k]? = some (some d) ∧ n / 1024 = d + 1) ∨ ∃ d, dst = some d ∧ (n = d ∨ n / 1024 = d + 1)) : lostF p dst (some n) = none := by
  have : lostB p dst n = true := by
    unfold lostB
    rcases h with h | ⟨k, d, h1, h2⟩ | ⟨d, rfl, h⟩
    · simp [h]
    · have : p.ls.any (lossOf n) = true := by
        rw [List.any_eq_true]
        exact ⟨some d, List.mem_of_getElem? h1, by simp [lossOf, h2]⟩
      rw [this, Bool.or_true, Bool.true_or]
    · rcases h with h | h <;> simp [h]
  show (bif lostB p dst n then none else some n) = none
  rw [this]
  rfl
def ghA (g g' : Gh) (p : Pass) (dst : Option Nat) (v : AV) : Gh := ⟨g'.G, fun n => match resTok v dst n with
  | some m => g'.tk m
  | none => (match boxTok p.ls 0 n with
    | some m => g'.tk m
    | none => (match lostF p dst (some n) with | some _ => g.tk n | none => none)), g.bx⟩
theorem ghA_cases {g' : Gh} {p : Pass} {dst : Option Nat} {v : AV} {n : Nat} {y : Value} {E : TypeId} (h : (ghA g g' p dst v).tk n = some (y, E)) :
    (∃ m, resTok v dst n = some m ∧ g'.tk m = some (y, E)) ∨ (resTok v dst n = none ∧ ∃ m, boxTok p.ls 0 n = some m ∧ g'.tk m = some (y, E)) ∨ (lostF p dst (some n) ≠ none ∧ g.tk n = some (y, E)) := by
  have h' : (match resTok v dst n with
    | some m => g'.tk m
    | none => (match boxTok p.ls 0 n with
      | some m => g'.tk m
      | none => (match lostF p dst (some n) with | some _ => g.tk n | none => none))) = some (y, E) := h
  split at h'
  · rename_i m hm; exact .inl ⟨m, hm, h'⟩
  · rename_i hm
    split at h'
    · rename_i m hb; exact .inr (.inl ⟨hm, m, hb, h'⟩)
    · split at h'
      · rename_i e; exact .inr (.inr ⟨by rw [e]; simp, h'⟩)
      · cases h'
/-- A result's token: its name and where it stands. -/
theorem resTok_lt {v : AV} {dst : Option Nat} {n m : Nat} (h : resTok v dst n = some m) (hv : tokLt v) : m < 1024 := by
  unfold resTok at h
  split at h
  · split at h
    · split at h
      · cases h; exact hv
      · cases h
    · split at h
      · split at h
        · rename_i e; cases h; exact hv _ _ _ _ e
        · cases h
      · cases h
    · cases h
  · cases h
theorem resTok_inj {v : AV} {dst : Option Nat} {n n' m : Nat} (h : resTok v dst n = some m) (h' : resTok v dst n' = some m) (hv : OutV v) : n = n' := by
  unfold resTok at h h'
  split at h
  · rename_i d
    dsimp only at h'
    split at h
    · split at h
      · rename_i e
        dsimp only at h'
        split at h'
        · rename_i e'; rw [e, e']
        · cases h'
      · cases h
    · rename_i vs
      dsimp only at h'
      split at h
      · rename_i e
        split at h
        · rename_i m1 E l hm
          cases h
          split at h'
          · rename_i e'
            split at h'
            · rename_i m2 E' l' hm'
              cases h'
              have := hv.2.2 _ _ m E l E' l' hm hm'
              omega
            · cases h'
          · cases h'
        · cases h
      · cases h
    · cases h
  · cases h
theorem resTok_dst {v : AV} {dst : Option Nat} {n m : Nat} (h : resTok v dst n = some m) : ∃ d, dst = some d ∧ (n = d ∨ n / 1024 = d + 1) := by
  unfold resTok at h
  split at h
  · rename_i d
    refine ⟨d, rfl, ?_⟩
    split at h
    · split at h
      · rename_i e; exact .inl e
      · cases h
    · split at h
      · rename_i e; exact .inr e
      · cases h
    · cases h
  · cases h
theorem nameL_get (d : Nat) : ∀ (cs : List AV) (j0 j : Nat), (nameL d j0 cs)[j]? = (cs[j]?).map fun c => c.name (sub d (j0 + j))
  | [], j0, j => by simp [nameL]
  | c :: cs, j0, 0 => by simp [nameL]
  | c :: cs, j0, j + 1 => by simp [nameL, nameL_get d cs (j0 + 1) j, Nat.add_assoc, Nat.add_comm 1 j]
theorem nameL_len (d : Nat) : ∀ (cs : List AV) (j0 : Nat), (nameL d j0 cs).length = cs.length
  | [], j0 => rfl
  | c :: cs, j0 => by simp [nameL, nameL_len d cs (j0 + 1)]
/-- A result's part, with its token renamed. -/
theorem name_rep {g1 g2 : Gh} {m0 : Nat} {c : AV} {u : Value} (hG : g2.G = g1.G) (hb : ∀ d o, c ≠ .box d o) (htk : ∀ m E l, c = .row (some m) E l → ∀ v, g1.tk m = some v → g2.tk m0 = some v) (ha : ∀ cs, c = .agg cs → ∀ (i : Nat) x, cs[i]? = some x → x.bare = x) (h : RepT P g1 w c u) : RepT P g2 w (c.name m0) u := by
  have hGG : ∀ β j, g1.G β j → g2.G β j ∧ w.cell? ⟨β, j, none⟩ = w.cell? ⟨β, j, none⟩ := fun β j hj => ⟨by rw [hG]; exact hj, rfl⟩
  cases c with
  | row t E l =>
    obtain ⟨h1, h2⟩ := (show RepC P g1 w (.row t E l) u from h)
    cases t with
    | none => exact (show RepC P g2 w (.row none E l) u from ⟨h1.mono hGG, fun n hn => by cases hn⟩)
    | some m =>
      refine (show RepC P g2 w (.row (some m0) E l) u from ⟨h1.mono hGG, fun n hn => ?_⟩)
      cases hn
      exact htk m E l rfl _ (h2 m rfl)
  | box d o => exact absurd rfl (hb d o)
  | agg cs =>
    obtain ⟨vs, h1, h2, h3⟩ := h
    refine ⟨vs, h1, h2, fun j c hj => ?_⟩
    obtain ⟨u, hu, hr⟩ := h3 j c hj
    have := bare_rep (g := g1) (g' := g2) hGG hr
    rw [ha cs rfl j c hj] at this
    exact ⟨u, hu, this⟩
  | ro cs => exact (show RepC P g2 w (.ro cs) u from RepRo.G hGG (show RepC P g1 w (.ro cs) u from h))
  | dead => exact trivial
  | v x => exact h
  | self => exact h
  | tup cs => exact h
theorem back_inv (h : Inv P F g s a w) {take : Option Nat} {Ts : List TypeId} {xs : List AV} {p : Pass} (hp : ArgsR P take s Ts xs 0 p) (hlen : xs.length ≤ 1024) {v y : AV} {bs : Bx} {x : Value} {g' : Gh} {w' : World} {dst : Option Nat} {s2 : St}
    (post : CallPost P (ghC P g take Ts xs p.ls) w p.bs v bs x g' w') (hd : dstOk p dst = true) (hb : backS 0 p.ls bs (s.tok (lostF p dst)) = some s2) (hy : newTok dst v = some y) :
    ∃ g2, Inv P F g2 (s2.put dst y) (a.put dst x) w' := by
  have hkl := lostF_kills p dst
  have h1 := h.kills hkl
  obtain ⟨b1, b2, b3, b4⟩ := backS_spec p.ls 0 bs _ s2 hb hp.inj
  -- a callee's token comes from one that is lost here
  have hsrc : ∀ β, TBof (ghC P g take Ts xs p.ls) β → ∃ c y E, g.tk c = some (y, E) ∧ y.ownBlock = some β ∧ lostF p dst (some c) = none := fun β ⟨n, y, E, hn, hv⟩ => by
    obtain ⟨c, c1, c2⟩ := tkC_src hn hv
    refine ⟨c, y, E, c1, hv, lostF_none ?_⟩
    rcases c2 with ⟨a1, a2, a3, E', l, a4⟩ | ⟨d, a1, a2, a3⟩
    · exact .inl (hp.tk n c E' l a4 (by rw [Nat.zero_add]; exact a2) a3)
    · exact .inr (.inl ⟨_, d, a2, by rw [a3]; exact sub_div d _ (Nat.mod_lt _ (by decide))⟩)
  have hbb : ∀ β, BBof (ghC P g take Ts xs p.ls) p.bs β → ∃ (k d : Nat) (cs : List AV), p.ls[k]? = some (some d) ∧ s.b[d]? = some (some cs) ∧ g.bx d = some β := fun β ⟨i, cs', hi, hβ⟩ => by
    have hlt := (List.getElem?_eq_some_iff.1 hi).1
    rw [hp.lb] at hlt
    obtain ⟨T, x', b, l, e1, e2, e3, e4, e5⟩ := hp.each i xs[i] (List.getElem?_eq_getElem hlt)
    rw [hi] at e3
    cases e3
    cases e5 with
    | box d cs q1 q2 q3 =>
      refine ⟨i, d, cs, e4, boxAt_eq q2, ?_⟩
      have : bxC g p.ls i = some β := hβ
      unfold bxC at this
      rw [e4] at this
      exact this
  have hpb : ∀ (k d : Nat), p.ls[k]? = some (some d) → k < 1024 ∧ ∃ cs, p.bs[k]? = some (some (giveL d k 0 cs)) ∧ s.b[d]? = some (some cs) ∧ cs.length ≤ 1024 := fun k d hk => by
    have hlt := (List.getElem?_eq_some_iff.1 hk).1
    rw [hp.ll] at hlt
    obtain ⟨T, x', b, l, e1, e2, e3, e4, e5⟩ := hp.each k xs[k] (List.getElem?_eq_getElem hlt)
    rw [hk] at e4
    cases e4
    rw [Nat.zero_add] at e5
    cases e5 with
    | box d cs q1 q2 q3 => exact ⟨by omega, cs, e3, boxAt_eq q2, q3⟩
  -- what stays as it was
  have hGm : ∀ β j, g.G β j → g'.G β j ∧ w'.cell? ⟨β, j, none⟩ = w.cell? ⟨β, j, none⟩ := fun β j hj => by
    refine ⟨post.g0 β j hj, post.fr.cell (h.mem.gsz β j hj) ?_⟩
    rintro (hB | ⟨_, hG⟩)
    · obtain ⟨k, d, cs, _, q2, q3⟩ := hbb β hB
      obtain ⟨β', us, T, e1, _, _, e4, _⟩ := h.mem.box d cs q2
      rw [q3] at e1
      cases e1
      exact e4 j hj
    · exact hG hj
  have hold : ∀ β, β < w.heap.size → (∀ d cs k, p.ls[k]? = some (some d) → s.b[d]? = some (some cs) → g.bx d ≠ some β) → (∀ c y E, g.tk c = some (y, E) → y.ownBlock = some β → lostF p dst (some c) ≠ none) →
      w'.heap[β]? = w.heap[β]? ∧ ∀ j, g'.G β j → g.G β j := fun β hlt q1 q2 => by
    have nB : ¬ BBof (ghC P g take Ts xs p.ls) p.bs β := fun hB => by
      obtain ⟨k, d, cs, r1, r2, r3⟩ := hbb β hB
      exact q1 d cs k r1 r2 r3
    have nT : ¬ TBof (ghC P g take Ts xs p.ls) β := fun hT => by
      obtain ⟨c, y, E, r1, r2, r3⟩ := hsrc β hT
      exact q2 c y E r1 r2 r3
    refine ⟨post.fr.same hlt fun j hj => ?_, fun j hj => ?_⟩
    · rcases hj with hj | ⟨hj, _⟩
      · exact nB hj
      · exact nT hj
    · rcases post.gfr β j hj hlt with hj | hj
      · exact hj
      · exact absurd hj nT
  generalize hg2 : ghA g g' p dst v = g2
  have hG2 : g2.G = g'.G := by rw [← hg2]; rfl
  have hb2 : g2.bx = g.bx := by rw [← hg2]; rfl
  have hcase : ∀ n y E, g2.tk n = some (y, E) → (∃ m, resTok v dst n = some m ∧ g'.tk m = some (y, E)) ∨ (resTok v dst n = none ∧ ∃ m, boxTok p.ls 0 n = some m ∧ g'.tk m = some (y, E)) ∨ (lostF p dst (some n) ≠ none ∧ g.tk n = some (y, E)) := fun n y E hn => ghA_cases (g := g) (by rw [hg2]; exact hn)
  have hnew : ∀ n y E, g2.tk n = some (y, E) → (∃ m, g'.tk m = some (y, E)) ∨ (lostF p dst (some n) ≠ none ∧ g.tk n = some (y, E)) := fun n y E hn => by
    rcases hcase n y E hn with ⟨m, _, e⟩ | ⟨_, m, _, e⟩ | e
    · exact .inl ⟨m, e⟩
    · exact .inl ⟨m, e⟩
    · exact .inr e
  have hkeepTk : ∀ n v', (g.kills (lostF p dst)).tk n = some v' → g2.tk n = some v' := fun n v' hn => by
    have hn' : (match lostF p dst (some n) with | some _ => g.tk n | none => none) = some v' := hn
    have hl : lostF p dst (some n) ≠ none := fun e => by rw [e] at hn'; cases hn'
    rw [← hg2]
    show (match resTok v dst n with
      | some m => g'.tk m
      | none => (match boxTok p.ls 0 n with
        | some m => g'.tk m
        | none => (match lostF p dst (some n) with | some _ => g.tk n | none => none))) = some v'
    have e1 : resTok v dst n = none := by
      cases hr : resTok v dst n with
      | none => rfl
      | some m => obtain ⟨d, q1, q2⟩ := resTok_dst hr; exact absurd (lostF_none (.inr (.inr ⟨d, q1, q2⟩))) hl
    have e2 : boxTok p.ls 0 n = none := by
      cases hr : boxTok p.ls 0 n with
      | none => rfl
      | some m => obtain ⟨k, d, q1, q2, _⟩ := boxTok_some _ _ _ _ hr; exact absurd (lostF_none (.inr (.inl ⟨k, d, q1, q2⟩))) hl
    rw [e1, e2]
    exact hn'
  have hle : (g.kills (lostF p dst)).Le g2 w w' := ⟨fun β j hj => by rw [hG2]; exact hGm β j hj, hkeepTk, fun d β hd => by rw [hb2]; exact hd⟩
  -- tokens that were lost are nobody's
  have hlost : ∀ n y E β, lostF p dst (some n) ≠ none → g.tk n = some (y, E) → y.ownBlock = some β → ∀ c y' E', g.tk c = some (y', E') → y'.ownBlock = some β → lostF p dst (some c) ≠ none := fun n y E β hn hy hβ c y' E' hc hβ' => by
    have := h.mem.tkap n c y y' E E' β hy hc hβ hβ'
    subst this
    exact hn
  have hbox2 : ∀ d cs', s2.b[d]? = some (some cs') → (∃ k cs, p.ls[k]? = some (some d) ∧ bs[k]? = some (some cs) ∧ cs' = giveL k d 0 cs) ∨ ((∀ k : Nat, p.ls[k]? ≠ some (some d)) ∧ (s.tok (lostF p dst)).b[d]? = some (some cs')) := fun d cs' hd' => by
    by_cases hk : ∃ k : Nat, p.ls[k]? = some (some d)
    · obtain ⟨k, hk⟩ := hk
      obtain ⟨cs, old, f1, f2, f3, f4⟩ := b3 k d hk
      rw [hd'] at f4
      cases f4
      rw [Nat.zero_add]
      exact .inl ⟨k, cs, hk, f1, rfl⟩
    · have hk' : ∀ k : Nat, p.ls[k]? ≠ some (some d) := fun k e => hk ⟨k, e⟩
      rw [b4 d hk'] at hd'
      exact .inr ⟨hk', hd'⟩
  have hboxOld : ∀ d cs', s2.b[d]? = some (some cs') → ∃ cs, s.b[d]? = some (some cs) := fun d cs' hd' => by
    rcases hbox2 d cs' hd' with ⟨k, cs, q1, _⟩ | ⟨_, q⟩
    · obtain ⟨_, cs0, _, r, _⟩ := hpb k d q1
      exact ⟨cs0, r⟩
    · obtain ⟨cs0, r, _⟩ := tok_b q
      exact ⟨cs0, r⟩
  have hmem : Mem P g2 w' s2.b := by
    refine ⟨fun β j hj => post.mem.gsz β j (hG2 ▸ hj), fun d cs' hd' => ?_, fun d d' β c1 c2 h1' h2' q1 q2 => ?_, fun n y E hn => ?_, fun n m y y' E E' β hn hm hv hv' => ?_, fun n y E β d cs' hn hv hd' hβ => ?_⟩
    · rcases hbox2 d cs' hd' with ⟨k, cs, q1, q2, rfl⟩ | ⟨q1, q2⟩
      · obtain ⟨β, us, T, e1, e2, e3, e4, e5⟩ := post.mem.box k cs q2
        obtain ⟨hk1, cs0, r1, r2, r3⟩ := hpb k d q1
        have hbx : g'.bx k = g.bx d := by
          rw [post.bx k _ r1]
          show bxC g p.ls k = _
          unfold bxC
          rw [q1]
        refine ⟨β, us, T, by rw [hb2, ← hbx]; exact e1, e2, by rw [giveL_len]; exact e3, fun j hj => e4 j (hG2 ▸ hj), fun j c hj => ?_⟩
        rw [giveL_get] at hj
        obtain ⟨c0, hc0, rfl⟩ := Option.map_eq_some_iff.1 hj
        obtain ⟨u, hu, hr⟩ := e5 j c0 hc0
        rw [Nat.zero_add]
        refine ⟨u, hu, give_rep (g := g') (fun β j hj => ⟨by rw [hG2]; exact hj, rfl⟩) (fun vv hvv => ?_) hr⟩
        have hj1 : j < 1024 := by
          have := (List.getElem?_eq_some_iff.1 hc0).1
          obtain ⟨cs2, old2, f1, f2, f3, f4⟩ := b3 k d q1
          rw [q2] at f1
          cases f1
          obtain ⟨cs3, t1, t2⟩ := tok_b f2
          rw [r2] at t1
          cases t1
          rw [f3, t2] at this
          simp at this
          omega
        rw [← hg2]
        show (match resTok v dst (sub d j) with
          | some m => g'.tk m
          | none => (match boxTok p.ls 0 (sub d j) with
            | some m => g'.tk m
            | none => (match lostF p dst (some (sub d j)) with | some _ => g.tk (sub d j) | none => none))) = some vv
        have e1 : resTok v dst (sub d j) = none := by
          cases hr : resTok v dst (sub d j) with
          | none => rfl
          | some m =>
            obtain ⟨dd, t1, t2⟩ := resTok_dst hr
            subst t1
            simp only [dstOk, Bool.and_eq_true] at hd
            have hdd : dd < 1024 := Nat.le_of_ble_eq_true hd.1
            rcases t2 with t2 | t2
            · have := sub_ge d j; omega
            · rw [sub_div d j hj1] at t2
              have : d = dd := by omega
              subst this
              have := hd.2
              rw [show p.ls.contains (some d) = true by rw [List.contains_iff_mem]; exact List.mem_of_getElem? q1] at this
              cases this
        rw [e1, boxTok_of p.ls 0 (sub d j) k d hp.inj q1 (sub_div d j hj1), sub_mod d j hj1, Nat.zero_add]
        exact hvv
      · obtain ⟨β, us, T, e1, e2, e3, e4, e5⟩ := h1.mem.box d cs' q2
        have e1' : g.bx d = some β := e1
        obtain ⟨cs0, t1, _⟩ := tok_b q2
        obtain ⟨o1, o2⟩ := hold β (Array.getElem?_eq_some_iff.1 e2).1 (fun d' cs k r1 r2 r3 => by
          have := h.mem.apart d d' β cs0 cs t1 r2 e1' r3
          subst this
          exact q1 k r1) (fun c y E r1 r2 => by
          exact absurd r2 fun r2 => h.mem.tkbx c y E β d cs0 r1 r2 t1 e1')
        exact ⟨β, us, T, by rw [hb2]; exact e1', o1.trans e2, e3, fun j hj => e4 j (o2 j (hG2 ▸ hj)), fun j c hc => let ⟨u, hu, hr⟩ := e5 j c hc; ⟨u, hu, hr.mono hle⟩⟩
    · obtain ⟨c3, r1⟩ := hboxOld d c1 h1'
      obtain ⟨c4, r2⟩ := hboxOld d' c2 h2'
      rw [hb2] at q1 q2
      exact h.mem.apart d d' β c3 c4 r1 r2 q1 q2
    · rcases hnew n y E hn with ⟨m, e⟩ | ⟨e1, e2⟩
      · exact (post.mem.own m y E e).keep fun β hβ => ⟨rfl, fun j hj => hG2 ▸ hj⟩
      · refine (h.mem.own n y E e2).keep fun β hβ => ?_
        obtain ⟨o1, o2⟩ := hold β ((h.mem.own n y E e2).lt hβ) (fun d cs k r1 r2 r3 => h.mem.tkbx n y E β d cs e2 hβ r2 r3) (fun c y' E' r1 r2 => hlost n y E β e1 e2 hβ c y' E' r1 r2)
        exact ⟨o1, fun j hj => o2 j (hG2 ▸ hj)⟩
    · have hmix : ∀ m y y' E E', (∃ m', g'.tk m' = some (y, E)) → lostF p dst (some m) ≠ none → g.tk m = some (y', E') → y.ownBlock = some β → y'.ownBlock = some β → False := fun m y y' E E' ⟨m', e⟩ e1 e2 hv hv' => by
        have hlt := (h.mem.own m y' E' e2).lt hv'
        rcases post.tb m' y E β e hv with q | q
        · omega
        · obtain ⟨c, y2, E2, r1, r2, r3⟩ := hsrc β q
          exact hlost m y' E' β e1 e2 hv' c y2 E2 r1 r2 r3
      rcases hcase n y E hn with ⟨o, r, e⟩ | ⟨_, o, r, e⟩ | ⟨e1, e2⟩ <;> rcases hcase m y' E' hm with ⟨o', r', e'⟩ | ⟨_, o', r', e'⟩ | ⟨e1', e2'⟩
      · have := post.mem.tkap o o' y y' E E' β e e' hv hv'
        subst this
        exact resTok_inj r r' post.outv
      · have := post.mem.tkap o o' y y' E E' β e e' hv hv'
        subst this
        have t1 := resTok_lt r post.lt
        obtain ⟨k, d, _, _, t2⟩ := boxTok_some _ _ _ _ r'
        have := sub_ge (0 + k) (m % 1024)
        omega
      · exact (hmix m y y' E E' ⟨o, e⟩ e1' e2' hv hv').elim
      · have := post.mem.tkap o o' y y' E E' β e e' hv hv'
        subst this
        have t1 := resTok_lt r' post.lt
        obtain ⟨k, d, _, _, t2⟩ := boxTok_some _ _ _ _ r
        have := sub_ge (0 + k) (n % 1024)
        omega
      · have := post.mem.tkap o o' y y' E E' β e e' hv hv'
        subst this
        obtain ⟨k, d, t1, t2, t3⟩ := boxTok_some _ _ _ _ r
        obtain ⟨k', d', t1', t2', t3'⟩ := boxTok_some _ _ _ _ r'
        obtain ⟨u1, u2⟩ := sub_inj (Nat.mod_lt _ (by decide)) (Nat.mod_lt _ (by decide)) (t3.symm.trans t3')
        have : k = k' := by omega
        subst this
        rw [t1] at t1'
        cases t1'
        omega
      · exact (hmix m y y' E E' ⟨o, e⟩ e1' e2' hv hv').elim
      · exact (hmix n y' y E' E ⟨o', e'⟩ e1 e2 hv' hv).elim
      · exact (hmix n y' y E' E ⟨o', e'⟩ e1 e2 hv' hv).elim
      · exact h.mem.tkap n m y y' E E' β e2 e2' hv hv'
    · obtain ⟨c0, t0⟩ := hboxOld d cs' hd'
      rw [hb2] at hβ
      rcases hnew n y E hn with ⟨m, e⟩ | ⟨e1, e2⟩
      · rcases hbox2 d cs' hd' with ⟨k, cs, q1, q2, _⟩ | ⟨q1, q2⟩
        · obtain ⟨hk1, cs0, r1, r2, r3⟩ := hpb k d q1
          have hbx : g'.bx k = g.bx d := by
            rw [post.bx k _ r1]
            show bxC g p.ls k = _
            unfold bxC
            rw [q1]
          exact post.mem.tkbx m y E β k cs e hv q2 (by rw [hbx]; exact hβ)
        · obtain ⟨β', us, T, f1, f2, _⟩ := h.mem.box d c0 t0
          rw [hβ] at f1
          cases f1
          have hlt := (Array.getElem?_eq_some_iff.1 f2).1
          rcases post.tb m y E β e hv with q | q
          · omega
          · obtain ⟨c, y2, E2, r1, r2, r3⟩ := hsrc β q
            exact h.mem.tkbx c y2 E2 β d c0 r1 r2 t0 hβ
      · exact h.mem.tkbx n y E β d c0 e2 hv t0 hβ
  have hI : Inv P F g2 s2 a w' := by
    refine ⟨hmem, by rw [b2, b1]; exact h1.blen, by rw [b1]; exact h1.len, fun i z hi => ?_, h.dfr, h.fr.trans post.fr (fun _ _ _ t => t) (fun β j hlt t => ?_), fun β j hj => by rw [hG2]; exact post.g0 β j (h.g0 β j hj), fun β j hj hlt => ?_, fun n y E β hn hv => ?_, fun d cs' β hd' hβ => ?_, fun i hi hn => by rw [hb2]; exact h.pbx i hi hn⟩
    · rw [b1] at hi
      obtain ⟨u, q1, q2⟩ := h1.tm i z hi
      exact ⟨u, q1, q2.mono hle⟩
    · rcases t with t | ⟨t, hnG⟩
      · obtain ⟨k, d, cs, _, q2, q3⟩ := hbb β t
        rcases h.bb d cs β q2 q3 with e | e
        · omega
        · exact .inl e
      · obtain ⟨c, y, E, r1, r2, _⟩ := hsrc β t
        rcases h.tb c y E β r1 r2 with e | e
        · omega
        · exact .inr ⟨e, fun hF => hnG (h.g0 β j hF)⟩
    · rw [hG2] at hj
      have hs := h.fr.size
      rcases post.gfr β j hj (by omega) with q | q
      · exact h.gfr β j q hlt
      · obtain ⟨c, y, E, r1, r2, _⟩ := hsrc β q
        rcases h.tb c y E β r1 r2 with e | e
        · omega
        · exact .inr e
    · have hs := h.fr.size
      rcases hnew n y E hn with ⟨m, e⟩ | ⟨e1, e2⟩
      · rcases post.tb m y E β e hv with q | q
        · exact .inl (by omega)
        · obtain ⟨c, y', E', r1, r2, _⟩ := hsrc β q
          exact h.tb c y' E' β r1 r2
      · exact h.tb n y E β e2 hv
    · obtain ⟨c0, t0⟩ := hboxOld d cs' hd'
      rw [hb2] at hβ
      exact h.bb d c0 β t0 hβ
  refine ⟨g2, ?_⟩
  cases dst with
  | none => exact hI
  | some d =>
    refine hI.put (some d) ?_
    have hrep := post.rep
    have hov := post.outv
    have htk2 : ∀ n m, resTok v (some d) n = some m → ∀ vv, g'.tk m = some vv → g2.tk n = some vv := fun n m hn vv hvv => by
      rw [← hg2]
      show (match resTok v (some d) n with
        | some m => g'.tk m
        | none => _) = some vv
      rw [hn]
      exact hvv
    by_cases ht : ∃ vs, v = .tup vs
    · obtain ⟨vs, rfl⟩ := ht
      simp only [newTok] at hy
      cases hc : Nat.ble vs.length 1024 <;> rw [hc] at hy <;> cases hy
      have hc' := Nat.le_of_ble_eq_true hc
      obtain ⟨us, r1, r2, r3⟩ := hrep
      refine ⟨us, r1, by rw [nameL_len]; exact r2, fun j c hj => ?_⟩
      rw [nameL_get] at hj
      obtain ⟨c0, hc0, rfl⟩ := Option.map_eq_some_iff.1 hj
      obtain ⟨u, hu, hr⟩ := r3 j c0 hc0
      refine ⟨u, hu, name_rep hG2 (fun d o e => hov.1 j d o (by rw [hc0, e])) (fun m E l e vv hvv => ?_) (fun cs e => hov.2.1 j cs (by rw [hc0, e])) hr⟩
      rw [Nat.zero_add]
      have hj1 : j < 1024 := Nat.lt_of_lt_of_le (List.getElem?_eq_some_iff.1 hc0).1 hc'
      refine htk2 _ m ?_ vv hvv
      simp only [resTok]
      rw [if_pos (sub_div d j hj1), sub_mod d j hj1, hc0, e]
    · have hyv : y = v.name d := by
        have : newTok (some d) v = some (v.name d) := by
          cases v <;> first | rfl | exact absurd ⟨_, rfl⟩ ht
        rw [this] at hy
        exact (Option.some.inj hy).symm
      rw [hyv]
      have hnt : ∀ cs, v.name d ≠ .tup cs := fun cs e => by
        cases v with
        | row t E l => cases t <;> cases e
        | tup vs => exact ht ⟨vs, rfl⟩
        | _ => cases e
      rw [RepS.eq hnt]
      rw [RepS.eq (fun cs e => ht ⟨cs, e⟩)] at hrep
      refine name_rep hG2 (fun e o he => by rw [he] at hov; exact hov) (fun m E l e vv hvv => ?_) (fun cs e => by rw [e] at hov; exact hov) hrep
      refine htk2 d m ?_ vv hvv
      rw [e]
      simp [resTok]
end
end Go.Proofs.YtckdgcpomkefpaaGreatDoor.En
