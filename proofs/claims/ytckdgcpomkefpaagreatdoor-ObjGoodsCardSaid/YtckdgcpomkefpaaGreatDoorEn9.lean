/- Calls: what the callee knows of what it is given. -/
import Derived.Test.YtckdgcpomkefpaaGreatDoorEn8
set_option linter.unusedVariables false
set_option linter.unusedSimpArgs false
namespace Go.Proofs.YtckdgcpomkefpaaGreatDoor.En
open Go
section
variable {P : Program} {F : Fx} {g : Gh} {s : St} {a : Act} {w : World}

theorem giveL_get (e d : Nat) : ∀ (cs : List AV) (j0 j : Nat), (giveL e d j0 cs)[j]? = (cs[j]?).map fun c => c.give e d (j0 + j)
  | [], j0, j => by simp [giveL]
  | c :: cs, j0, 0 => by simp [giveL]
  | c :: cs, j0, j + 1 => by simp [giveL, giveL_get e d cs (j0 + 1) j, Nat.add_assoc, Nat.add_comm 1 j]
theorem giveL_len (e d : Nat) : ∀ (cs : List AV) (j0 : Nat), (giveL e d j0 cs).length = cs.length
  | [], j0 => rfl
  | c :: cs, j0 => by simp [giveL, giveL_len e d cs (j0 + 1)]
theorem Rep0.G {g' : Gh} {w' : World} (hG : ∀ β j, g.G β j → g'.G β j ∧ w'.cell? ⟨β, j, none⟩ = w.cell? ⟨β, j, none⟩) {x : AV} {v : Value} (h : Rep0 P g w x v) : Rep0 P g' w' x v := by
  cases x <;> simp only [Rep0] at h ⊢ <;> first | exact h | exact ⟨h.1, h.2.mono hG⟩
theorem RepRo.G {g' : Gh} {w' : World} (hG : ∀ β j, g.G β j → g'.G β j ∧ w'.cell? ⟨β, j, none⟩ = w.cell? ⟨β, j, none⟩) {cs : List AV} {v : Value} (h : RepC P g w (.ro cs) v) : RepC P g' w' (.ro cs) v := by
  obtain ⟨β, o, h1, h2⟩ := h
  refine ⟨β, o, h1, fun i c hi => ?_⟩
  obtain ⟨u, e1, e2, e3⟩ := h2 i c hi
  exact ⟨u, (hG _ _ e2).2.trans e1, (hG _ _ e2).1, e3.G hG⟩
theorem give_rep {g' : Gh} {w' : World} {T : TypeId} {e d j β : Nat} {c : AV} {u : Value} (hG : ∀ β j, g.G β j → g'.G β j ∧ w'.cell? ⟨β, j, none⟩ = w.cell? ⟨β, j, none⟩) (htk : ∀ v, g.tk (sub e j) = some v → g'.tk (sub d j) = some v) (h : RepB P g w T β j c u) : RepB P g' w' T β j (c.give e d j) u := by
  cases c with
  | row t E l =>
    obtain ⟨h1, h2⟩ := (show RepC P g w (.row t E l) u from h)
    cases t with
    | none => exact ⟨h1.mono hG, fun n hn => by cases hn⟩
    | some m =>
      refine ⟨h1.mono hG, fun n hn => ?_⟩
      cases hm : (m == sub e j) <;> rw [hm] at hn
      · cases hn
      · cases hn
        have : m = sub e j := by simpa using hm
        subst this
        exact htk _ (h2 _ rfl)
  | box b o =>
    obtain ⟨β', h1, h2⟩ := (show RepC P g w (.box b o) u from h)
    rw [h2]; rfl
  | ro cs => exact RepRo.G hG h
  | v x => exact h
  | dead => exact h
  | self => exact h
  | agg cs => exact h
  | tup cs => exact h
theorem nil1_rep {k : CK} {c : AV} {u : Value} (h : RepC P g w c u) : RepC P g w (nil1 k c) u := by
  unfold nil1
  split
  · obtain ⟨rfl, _⟩ := (show u = .slice none 0 0 ∧ _ from h)
    exact ⟨.nil _ _ _, fun n hn => by cases hn⟩
  · exact h
theorem nil2_get : ∀ (ks : List CK) (cs : List AV) (j : Nat) (c' : AV), (nil2 ks cs)[j]? = some c' → ∃ c, cs[j]? = some c ∧ ∀ u, RepC P g w c u → RepC P g w c' u
  | [], cs, j, c', h => ⟨c', h, fun _ h => h⟩
  | k :: ks, [], j, c', h => by simp [nil2] at h
  | k :: ks, c :: cs, 0, c', h => by
    simp [nil2] at h
    subst h
    exact ⟨c, rfl, fun u hu => nil1_rep hu⟩
  | k :: ks, c :: cs, j + 1, c', h => nil2_get ks cs j c' (by simpa [nil2] using h)
theorem nilL_get (ks : Option (List CK)) (cs : List AV) (j : Nat) (c' : AV) (h : (nilL ks cs)[j]? = some c') : ∃ c, cs[j]? = some c ∧ ∀ u, RepC P g w c u → RepC P g w c' u := by
  cases ks with
  | none => exact ⟨c', h, fun _ h => h⟩
  | some ks => exact nil2_get ks cs j c' h
theorem nil2_len : ∀ (ks : List CK) (cs : List AV), (nil2 ks cs).length = cs.length
  | [], cs => rfl
  | k :: ks, [] => rfl
  | k :: ks, c :: cs => by simp [nil2, nil2_len ks cs]
theorem nilL_len (ks : Option (List CK)) (cs : List AV) : (nilL ks cs).length = cs.length := by
  cases ks with
  | none => rfl
  | some ks => exact nil2_len ks cs
theorem bare_rep {g' : Gh} {w' : World} {c : AV} {u : Value} (hG : ∀ β j, g.G β j → g'.G β j ∧ w'.cell? ⟨β, j, none⟩ = w.cell? ⟨β, j, none⟩) (h : RepC P g w c u) : RepC P g' w' c.bare u := by
  cases c with
  | row t E l => exact ⟨h.1.mono hG, fun n hn => by cases hn⟩
  | box b o =>
    obtain ⟨β', h1, h2⟩ := h
    rw [h2]; rfl
  | ro cs => exact RepRo.G hG h
  | v x => exact h
  | dead => exact h
  | self => exact h
  | agg cs => exact h
  | tup cs => exact h
def tkC (P : Program) (g : Gh) (take : Option Nat) (Ts : List TypeId) (xs : List AV) (ls : List (Option Nat)) (n : Nat) : Option (Value × TypeId) :=
  if n < 1024 then (match xs[n]? with
    | some (.row (some m) _ _) => if take = some n ∧ m < 1024 then g.tk m else none
    | some (.v (.slice none 0 0)) => ((Ts[n]?).bind (elemT P)).map fun E => (.slice none 0 0, E)
    | _ => none)
  else (match ls[n / 1024 - 1]? with | some (some d) => g.tk (sub d (n % 1024)) | _ => none)
def bxC (g : Gh) (ls : List (Option Nat)) (i : Nat) : Option Nat := match ls[i]? with | some (some d) => g.bx d | _ => none
def ghC (P : Program) (g : Gh) (take : Option Nat) (Ts : List TypeId) (xs : List AV) (ls : List (Option Nat)) : Gh := ⟨g.G, tkC P g take Ts xs ls, bxC g ls⟩
/-- Where a callee's token comes from. -/
theorem tkC_from {take : Option Nat} {Ts : List TypeId} {xs : List AV} {ls : List (Option Nat)} {n : Nat} {v : Value} {E : TypeId} (h : tkC P g take Ts xs ls n = some (v, E)) :
    (v = .slice none 0 0) ∨ (n < 1024 ∧ take = some n ∧ ∃ m E' l, m < 1024 ∧ xs[n]? = some (.row (some m) E' l) ∧ g.tk m = some (v, E)) ∨ (∃ d, 1024 ≤ n ∧ ls[n / 1024 - 1]? = some (some d) ∧ g.tk (sub d (n % 1024)) = some (v, E)) := by
  unfold tkC at h
  split at h
  · rename_i hn
    split at h
    · rename_i m E' l hx
      split at h
      · rename_i hm; exact .inr (.inl ⟨hn, hm.1, m, E', l, hm.2, hx, h⟩)
      · cases h
    · obtain ⟨E', h1, h2⟩ := Option.map_eq_some_iff.1 h
      cases h2
      exact .inl rfl
    · cases h
  · rename_i hn
    split at h
    · rename_i d hd; exact .inr (.inr ⟨d, by omega, hd, h⟩)
    · cases h
theorem sub_ge (d j : Nat) : 1024 ≤ sub d j := by unfold sub; omega
theorem sub_inj {d d' j j' : Nat} (hj : j < 1024) (hj' : j' < 1024) (h : sub d j = sub d' j') : d = d' ∧ j = j' := by unfold sub at h; omega
/-- One name for one token. -/
theorem tkC_src {take : Option Nat} {Ts : List TypeId} {xs : List AV} {ls : List (Option Nat)} {n : Nat} {v : Value} {E : TypeId} (h : tkC P g take Ts xs ls n = some (v, E)) {β : Nat} (hv : v.ownBlock = some β) :
    ∃ c, g.tk c = some (v, E) ∧ ((n < 1024 ∧ take = some n ∧ c < 1024 ∧ ∃ E' l, xs[n]? = some (.row (some c) E' l)) ∨ ∃ d, 1024 ≤ n ∧ ls[n / 1024 - 1]? = some (some d) ∧ c = sub d (n % 1024)) := by
  rcases tkC_from h with rfl | ⟨h1, h2, m, E', l, h3, h4, h5⟩ | ⟨d, h1, h2, h3⟩
  · cases hv
  · exact ⟨m, h5, .inl ⟨h1, h2, h3, E', l, h4⟩⟩
  · exact ⟨_, h3, .inr ⟨d, h1, h2, rfl⟩⟩
theorem pass_mem (h : Inv P F g s a w) {take : Option Nat} {Ts : List TypeId} {xs : List AV} {p : Pass} (hp : ArgsR P take s Ts xs 0 p) (hlen : xs.length ≤ 1024) :
    Mem P (ghC P g take Ts xs p.ls) w p.bs := by
  have hbox : ∀ (i : Nat) cs', p.bs[i]? = some (some cs') → ∃ d cs, p.ls[i]? = some (some d) ∧ s.b[d]? = some (some cs) ∧ cs.length ≤ 1024 ∧ cs' = giveL d i 0 cs ∧ i < 1024 := fun i cs' hi => by
    have hlt := (List.getElem?_eq_some_iff.1 hi).1
    rw [hp.lb] at hlt
    obtain ⟨T, x', b, l, e1, e2, e3, e4, e5⟩ := hp.each i xs[i] (List.getElem?_eq_getElem hlt)
    rw [hi] at e3
    cases e3
    rw [Nat.zero_add] at e5
    cases e5 with
    | box d cs h1 h2 h3 => exact ⟨d, cs, e4, boxAt_eq h2, h3, rfl, by omega⟩
  have hbxi : ∀ (i d : Nat), p.ls[i]? = some (some d) → (ghC P g take Ts xs p.ls).bx i = g.bx d := fun i d hd => by
    show bxC g p.ls i = _
    unfold bxC; rw [hd]
  have htki : ∀ (i d j : Nat), p.ls[i]? = some (some d) → i < 1024 → j < 1024 → (ghC P g take Ts xs p.ls).tk (sub i j) = g.tk (sub d j) := fun i d j hd hi hj => by
    show tkC P g take Ts xs p.ls (sub i j) = _
    unfold tkC
    rw [if_neg (by have := sub_ge i j; omega), sub_div i j hj, sub_mod i j hj]
    simp [hd]
  have hap : ∀ n m v v' E E' β, tkC P g take Ts xs p.ls n = some (v, E) → tkC P g take Ts xs p.ls m = some (v', E') → v.ownBlock = some β → v'.ownBlock = some β → n = m := fun n m v v' E E' β hn hm hv hv' => by
    obtain ⟨c, c1, c2⟩ := tkC_src hn hv
    obtain ⟨c', d1, d2⟩ := tkC_src hm hv'
    have hcc := h.mem.tkap c c' v v' E E' β c1 d1 hv hv'
    subst hcc
    rcases c2 with ⟨a1, a2, a3, _⟩ | ⟨d, a1, a2, a3⟩ <;> rcases d2 with ⟨b1, b2, b3, _⟩ | ⟨d', b1, b2, b3⟩
    · rw [a2] at b2; injection b2
    · have := sub_ge d' (m % 1024); omega
    · have := sub_ge d (n % 1024); omega
    · obtain ⟨e1, e2⟩ := sub_inj (Nat.mod_lt _ (by decide)) (Nat.mod_lt _ (by decide)) (a3.symm.trans b3)
      subst e1
      have := hp.inj _ _ d a2 b2
      omega
  refine ⟨h.mem.gsz, fun i cs' hi => ?_, fun i i' β cs cs' hi hi' hβ hβ' => ?_, fun n v E hn => ?_, fun n m v v' E E' β hn hm hv hv' => hap n m v v' E E' β hn hm hv hv', fun n v E β i cs hn hv hi hβ => ?_⟩
  · obtain ⟨d, cs, h1, h2, h3, rfl, h4⟩ := hbox i cs' hi
    obtain ⟨β, us, T, e1, e2, e3, e4, e5⟩ := h.mem.box d cs h2
    refine ⟨β, us, T, (hbxi i d h1).trans e1, e2, by rw [giveL_len]; exact e3, e4, fun j c hj => ?_⟩
    rw [giveL_get] at hj
    obtain ⟨c0, hc0, rfl⟩ := Option.map_eq_some_iff.1 hj
    obtain ⟨u, hu, hr⟩ := e5 j c0 hc0
    rw [Nat.zero_add]
    refine ⟨u, hu, give_rep (g := g) (fun β j hj => ⟨hj, rfl⟩) (fun v hv => ?_) hr⟩
    rw [htki i d j h1 h4 (Nat.lt_of_lt_of_le (List.getElem?_eq_some_iff.1 hc0).1 h3)]
    exact hv
  · obtain ⟨d, c1, h1, h2, _, _, _⟩ := hbox i cs hi
    obtain ⟨d', c2, h1', h2', _, _, _⟩ := hbox i' cs' hi'
    rw [hbxi i d h1] at hβ
    rw [hbxi i' d' h1'] at hβ'
    have := h.mem.apart d d' β c1 c2 h2 h2' hβ hβ'
    subst this
    exact hp.inj i i' d h1 h1'
  · rcases tkC_from hn with rfl | ⟨_, _, m, _, _, _, _, h5⟩ | ⟨d, _, _, h3⟩
    · exact .inl rfl
    · exact (h.mem.own m v E h5).keep fun β hβ => ⟨rfl, fun j hj => hj⟩
    · exact (h.mem.own _ v E h3).keep fun β hβ => ⟨rfl, fun j hj => hj⟩
  · obtain ⟨c, c1, _⟩ := tkC_src hn hv
    obtain ⟨d, c2, h1, h2, _, _, _⟩ := hbox i cs hi
    rw [hbxi i d h1] at hβ
    exact h.mem.tkbx c v E β d c2 c1 hv h2 hβ
theorem pass_args (h : Inv P F g s a w) {take : Option Nat} {Ts : List TypeId} {xs : List AV} {p : Pass} (hp : ArgsR P take s Ts xs 0 p) (hlen : xs.length ≤ 1024) {vs : Array Value}
    (hv : ∀ (i : Nat) x, xs[i]? = some x → ∃ v, vs[i]? = some v ∧ RepS P g w x v) (i : Nat) (x' : AV) (hi : p.xs[i]? = some x') : ∃ v, vs[i]? = some v ∧ RepS P (ghC P g take Ts xs p.ls) w x' v := by
  have hlt := (List.getElem?_eq_some_iff.1 hi).1
  rw [hp.lx] at hlt
  have hget := List.getElem?_eq_getElem hlt
  obtain ⟨T, x2, b, l, e1, e2, e3, e4, e5⟩ := hp.each i xs[i] hget
  rw [hi] at e2
  cases e2
  rw [Nat.zero_add] at e5
  obtain ⟨v, h1, h2⟩ := hv i _ hget
  refine ⟨v, h1, ?_⟩
  have hi1 : i < 1024 := by omega
  generalize xs[i] = x at hget h2 e5
  cases e5 with
  | box d cs hx h3 h4 =>
    subst hx
    obtain ⟨β, hb, hv⟩ := (show RepC P g w (.box d 0) v from h2)
    refine ⟨β, ?_, hv⟩
    show bxC g p.ls i = _
    unfold bxC
    rw [e4]
    exact hb
  | row t E l hx =>
    subst hx
    exact ⟨(show RepC P g w (.row t E l) v from h2).1, fun n hn => by cases hn⟩
  | take n E l hx h3 h4 =>
    subst hx
    obtain ⟨r1, r2⟩ := (show RepC P g w (.row (some n) E l) v from h2)
    refine ⟨r1, fun m hm => ?_⟩
    cases hm
    show tkC P g take Ts xs p.ls i = _
    unfold tkC
    rw [if_pos hi1, hget]
    show (if take = some i ∧ n < 1024 then g.tk n else none) = _
    rw [if_pos ⟨h3, h4⟩]
    exact r2 n rfl
  | nil E hx hE =>
    subst hx
    obtain ⟨rfl, _⟩ := (show v = .slice none 0 0 ∧ _ from h2)
    refine ⟨.nil _ _ _, fun m hm => ?_⟩
    cases hm
    show tkC P g take Ts xs p.ls i = _
    unfold tkC
    rw [if_pos hi1, hget]
    show ((Ts[i]?).bind (elemT P)).map _ = _
    rw [e1]
    simp [hE]
  | v y hx =>
    subst hx
    exact h2
  | agg cs hx =>
    subst hx
    obtain ⟨us, r1, r2, r3⟩ := h2
    refine ⟨us, r1, by simp [r2, nilL_len], fun j c hj => ?_⟩
    rw [List.getElem?_map] at hj
    obtain ⟨c1, hc1, rfl⟩ := Option.map_eq_some_iff.1 hj
    obtain ⟨c0, hc0, hall⟩ := nilL_get (P := P) (g := g) (w := w) _ _ _ _ hc1
    obtain ⟨u, hu, hr⟩ := r3 j c0 hc0
    exact ⟨u, hu, bare_rep (g := g) (fun β j hj => ⟨hj, rfl⟩) (hall u hr)⟩
theorem pass_T (h : Inv P F g s a w) {take : Option Nat} {Ts : List TypeId} {xs : List AV} {p : Pass} (hp : ArgsR P take s Ts xs 0 p) {β j : Nat} (hlt : β < F.w0.heap.size) (t : TTof (ghC P g take Ts xs p.ls) p.bs β j) : F.T β j := by
  rcases t with ⟨i, cs', hi, hβ⟩ | ⟨⟨n, y, E, hn, hv⟩, hnG⟩
  · have hl := (List.getElem?_eq_some_iff.1 hi).1
    rw [hp.lb] at hl
    obtain ⟨T, x', b, l, e1, e2, e3, e4, e5⟩ := hp.each i xs[i] (List.getElem?_eq_getElem hl)
    rw [hi] at e3
    cases e3
    cases e5 with
    | box d cs q1 q2 q3 =>
      have : bxC g p.ls i = some β := hβ
      unfold bxC at this
      rw [e4] at this
      rcases h.bb d cs β (boxAt_eq q2) this with e | e
      · omega
      · exact .inl e
  · obtain ⟨c, c1, c2⟩ := tkC_src hn hv
    rcases h.tb c y E β c1 hv with e | e
    · omega
    · exact .inr ⟨e, fun hF => hnG (h.g0 β j hF)⟩
end
end Go.Proofs.YtckdgcpomkefpaaGreatDoor.En
