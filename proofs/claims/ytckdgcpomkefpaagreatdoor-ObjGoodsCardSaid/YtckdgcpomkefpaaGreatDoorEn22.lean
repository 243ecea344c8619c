/- THE LAW OF THE EVALUATOR: what it tells of a call is what the machine does. -/
import Derived.Test.YtckdgcpomkefpaaGreatDoorEn21
set_option linter.unusedVariables false
set_option linter.unusedSimpArgs false
namespace Go.Proofs.YtckdgcpomkefpaaGreatDoor.En
open Go
section
variable {P : Program} {takes : FuncId → Option Nat} {call : CallF}

theorem give_rep0 {g : Gh} {w : World} {T : TypeId} {β d j : Nat} {c : AV} {u : Value} (h : RepB P g w T β j c u) : RepB P g w T β j (c.give d d j) u := by
  cases c with
  | row t E l =>
    cases t with
    | none => exact h
    | some m =>
      show RepC P g w (.row (bif m == sub d j then some (sub d j) else none) E l) u
      have h' : RepC P g w (.row (some m) E l) u := h
      cases hm : m == sub d j
      · exact ⟨h'.1, fun n hn => by cases hn⟩
      · exact ⟨h'.1, fun n hn => by
          cases hn
          have : m = sub d j := by simpa using hm
          rw [← this]
          exact h'.2 m rfl⟩
  | box e o =>
    obtain ⟨β', _, rfl⟩ := (show RepC P g w (.box e o) u from h)
    rfl
  | v x => exact h
  | agg cs => exact h
  | tup cs => exact h
  | ro cs => exact h
  | self => exact h
  | dead => exact h
theorem giveL_len' (e d : Nat) : ∀ (cs : List AV) (j : Nat), (giveL e d j cs).length = cs.length
  | [], j => rfl
  | c :: cs, j => by simp [giveL, giveL_len' e d cs (j + 1)]
theorem give_tok {d j m : Nat} {c : AV} {E : TypeId} {l : List Dat} (h : c.give d d j = .row (some m) E l) : m = sub d j := by
  cases c with
  | row t E' l' =>
    cases t with
    | none => cases h
    | some k =>
      have h' : (AV.row (bif k == sub d j then some (sub d j) else none) E' l') = .row (some m) E l := h
      cases hk : k == sub d j <;> rw [hk] at h' <;> cases h'
      rfl
  | box e o => cases h
  | v x => cases h
  | agg cs => cases h
  | tup cs => cases h
  | ro cs => cases h
  | self => cases h
  | dead => cases h
/-- What a function's evaluation is measured against. -/
def fxOf {P : Program} (g : Gh) (w : World) (bs : Bx) (np : Nat) (hm : Mem P g w bs) (hL : Laid g w) : Fx := ⟨w, g.G, TBof g, BBof g bs, g.bx, np, [], fun β hβ => ⟨hL.G β hβ, fun ⟨i, cs, hi, hb⟩ => by
  obtain ⟨β', us, T, h1, _, _, h2, _⟩ := hm.box i cs hi
  rw [hb] at h1
  cases h1
  exact h2 0 (hL.G β hβ 0)⟩, hL.P⟩
theorem entry_inv {g : Gh} {w : World} {fn : Func} {xs : List AV} {bs : Bx} {vs : Array Value} (hm : Mem P g w bs) (hL : Laid g w) (hl : bs.length = xs.length) (hv : vs.size = xs.length)
    (hr : ∀ (i : Nat) x, xs[i]? = some x → ∃ v, vs[i]? = some v ∧ RepS P g w x v) :
    Inv P (fxOf g w bs fn.params.size hm hL) g (entry fn xs bs) { tmps := vs ++ Array.replicate (fn.ntmps - vs.size) undef, defers := [] } w := by
  have hb : ∀ (d : Nat) cs, (bs ++ List.replicate (fn.ntmps - bs.length) none)[d]? = some (some cs) → bs[d]? = some (some cs) := fun d cs h => by
    rw [List.getElem?_append] at h
    split at h
    · exact h
    · rw [List.getElem?_replicate] at h
      split at h <;> cases h
  refine ⟨⟨hm.gsz, fun d cs h => hm.box d cs (hb d cs h), fun d d' β cs cs' h h' => hm.apart d d' β cs cs' (hb d cs h) (hb d' cs' h'), hm.own, hm.tkap, fun n v E β d cs h1 h2 h => hm.tkbx n v E β d cs h1 h2 (hb d cs h)⟩,
    by simp [entry, hl], by simp [entry, hv], fun i x hi => ?_, rfl, Fr.refl _ _, fun β j h => h, fun β j h _ => .inl h, fun n v E β h1 h2 => .inr ⟨n, v, E, h1, h2⟩, fun d cs β h1 h2 => .inr ⟨d, cs, hb d cs h1, h2⟩, fun i _ _ => rfl⟩
  have hi' : (xs ++ List.replicate (fn.ntmps - xs.length) AV.dead)[i]? = some x := hi
  rw [List.getElem?_append] at hi'
  split at hi'
  · rename_i hlt
    obtain ⟨v, h1, h2⟩ := hr i x hi'
    refine ⟨v, ?_, h2⟩
    show (vs ++ _)[i]? = _
    rw [Array.getElem?_append, if_pos (by omega)]
    exact h1
  · rename_i hlt
    rw [List.getElem?_replicate] at hi'
    split at hi'
    · rename_i hlt2
      cases hi'
      refine ⟨undef, ?_, trivial⟩
      show (vs ++ _)[i]? = _
      rw [Array.getElem?_append, if_neg (by omega), Array.getElem?_replicate, if_pos (by omega)]
    · cases hi'
theorem RepT.toS {g : Gh} {w : World} {x : AV} {v : Value} (h : RepT P g w x v) (hx : ∀ vs, x ≠ .tup vs) : RepS P g w x v := by
  rw [RepS.eq hx]; exact h
theorem outOf_sound {g g' : Gh} {w w' : World} {fn : Func} {bs : Bx} {s' : St} {a' : Act} {out : Out} (hm : Mem P g w bs) (hL : Laid g w) (hI : Inv P (fxOf g w bs fn.params.size hm hL) g' s' a' w') (hl : bs.length = fn.params.size) (h : outOf P fn bs s' = some out) :
    ∃ x v bs', out = .ret v bs' ∧ (results fn a'.tmps).run P w' = .ok x w' ∧ CallPost P g w bs v bs' x g' w' := by
  unfold outOf at h
  obtain ⟨l, hl2, h⟩ := Option.bind_eq_some_iff.1 h
  obtain ⟨hle, h⟩ := bif_some h
  cases h
  have hle' := Nat.le_of_ble_eq_true hle
  obtain ⟨vs, hrun, hlen, hvs⟩ := resVals_sound hI _ _ hl2
  obtain ⟨c1, c2, c3, c4⟩ := claimL_spec (P := P) (g := g') (w := w') l []
  obtain ⟨b1, b2⟩ := claimB_spec bs s'.b 0 hle'
  have hbox : ∀ (i : Nat) cs, bs[i]? = some (some cs) → g'.bx i = g.bx i := fun i cs hi => by
    obtain ⟨β, us, T, e1, _⟩ := hm.box i cs hi
    have hlt := (List.getElem?_eq_some_iff.1 hi).1
    exact hI.pbx i (by show i < fn.params.size; omega) (by show g.bx i ≠ none; rw [e1]; simp)
  have hT : ∀ (j : Nat) x, (claimL [] l)[j]? = some x → ∃ v, vs[j]? = some v ∧ RepT P g' w' x v ∧ Shape x := fun j x hj => by
    obtain ⟨y, h1, h2, h3⟩ := c2 j x hj
    obtain ⟨v, e1, e2⟩ := hvs j y h1
    exact ⟨v, e1, h2 v e2, h3⟩
  have hres : (results fn a'.tmps).run P w' = .ok (if h : vs.toArray.size = 1 then vs.toArray[0] else .tuple vs.toArray) w' := by
    rw [results_eq, Array.mapM_eq_mapM_toList]
    have hr2 : (List.toArray <$> (fn.results.toList.mapM (resF a'.tmps)) : Sem (Array Value)).run P w' = .ok vs.toArray w' := by
      rw [← bind_pure_comp, Sem.run_bind, hrun]
      simp
    rw [Sem.run_bind, hr2]
    simp
  have hv : RepS P g' w' (match claimL [] l with | [x] => x | l => .tup l) (if h : vs.toArray.size = 1 then vs.toArray[0] else .tuple vs.toArray) ∧ OutV (match claimL [] l with | [x] => x | l => .tup l) ∧ tokLt (match claimL [] l with | [x] => x | l => .tup l) := by
    have hcl : (claimL [] l).length = vs.length := by rw [c1, hlen]
    generalize hL : claimL [] l = L at hT c3 c4 hcl
    have many : L.length ≠ 1 → RepS P g' w' (.tup L) (if h : vs.toArray.size = 1 then vs.toArray[0] else .tuple vs.toArray) ∧ OutV (.tup L) ∧ tokLt (.tup L) := fun hne => by
      rw [dif_neg (by simpa using (show ¬ vs.length = 1 by omega))]
      refine ⟨⟨vs.toArray, rfl, by simp [hcl], fun j x hj => ?_⟩, ⟨fun j d o hj => ?_, fun j cs hj i c hi => ?_, fun j j' m E d E' d' h1 h2 => c4 j j' m E d E' d' h1 h2⟩, fun j m E d hj => (c3 j m E d hj).2⟩
      · obtain ⟨v, e1, e2, _⟩ := hT j x hj
        exact ⟨v, by simpa using e1, e2⟩
      · exact ((hT j _ hj).elim fun v hv => hv.2.2.box d o rfl)
      · exact ((hT j _ hj).elim fun v hv => hv.2.2.agg cs rfl i c hi)
    match L, hT, c3, c4, hcl, many with
    | [], hT, c3, c4, hcl, many => exact many (by simp)
    | [x], hT, c3, c4, hcl, many =>
      obtain ⟨v, e1, e2, e3⟩ := hT 0 x rfl
      have hvs1 : vs = [v] := by
        match vs, hcl, e1 with
        | [y], _, e1 => simp at e1; rw [e1]
      subst hvs1
      refine ⟨e2.toS e3.tup, ?_, ?_⟩
      · cases x with
        | box d o => exact absurd rfl (e3.box d o)
        | tup vs => exact absurd rfl (e3.tup vs)
        | agg cs => exact fun i c hi => e3.agg cs rfl i c hi
        | v y => exact trivial
        | row t E l => exact trivial
        | ro cs => exact trivial
        | self => exact trivial
        | dead => exact trivial
      · cases x with
        | tup vs => exact absurd rfl (e3.tup vs)
        | row t E l =>
          cases t with
          | none => exact trivial
          | some m => exact (c3 0 m E l rfl).2
        | box d o => exact trivial
        | agg cs => exact trivial
        | v y => exact trivial
        | ro cs => exact trivial
        | self => exact trivial
        | dead => exact trivial
    | x :: y :: L, hT, c3, c4, hcl, many => exact many (by simp)
  refine ⟨_, _, _, rfl, hres, ⟨?_, b1, fun i cs' hi => ?_, hv.1, hI.fr, hI.g0, hI.gfr, hI.tb, hbox, fun i j m cs E d hi hj => ?_, hv.2.1, hv.2.2⟩⟩
  · refine hI.mem.wk (g' := g') rfl (fun d cs' hd => ?_) id (fun _ _ h => h) (fun _ _ _ _ e => e)
    obtain ⟨cs0, cs1, e1, e2, e3⟩ := b2 d cs' hd
    rw [Nat.zero_add] at e3
    subst e3
    refine ⟨cs1, e2, giveL_len' _ _ _ _, rfl, fun j c' hj => ?_⟩
    rw [giveL_get, Nat.zero_add] at hj
    obtain ⟨c, hc, rfl⟩ := Option.map_eq_some_iff.1 hj
    exact ⟨c, hc, fun T β u hu => give_rep0 hu⟩
  · obtain ⟨cs0, cs1, e1, _⟩ := b2 i cs' hi
    exact ⟨cs0, e1⟩
  · obtain ⟨cs0, cs1, e1, e2, e3⟩ := b2 i cs hi
    rw [Nat.zero_add] at e3
    subst e3
    rw [giveL_get, Nat.zero_add] at hj
    obtain ⟨c, hc, he⟩ := Option.map_eq_some_iff.1 hj
    exact give_tok he
def PostOf (P : Program) (g : Gh) (w : World) (bs : Bx) (out : Out) (e : Ending) (w' : World) : Prop := match out with
  | .ret v bs' => ∃ x g', e = .returned x ∧ CallPost P g w bs v bs' x g' w'
  | .thr x => e = .panicked [{ v := x, recovered := false }] ∧ Fr (TTof g bs) w w'
theorem evBody_sound (hmix : P.follows .mixedOrders = true) (hcall : SoundCall P call) {n : Nat} {f : FuncId} {fn : Func} (hf : P.funcs[f]? = some fn) (hok : okFn P fn = true) {xs : List AV} {bs : Bx} {out : Out} (h : evBody P takes call n fn xs bs = some out)
    {g : Gh} {w : World} {vs : Array Value} (hm : Mem P g w bs) (hL : Laid g w) (hl : bs.length = xs.length) (hv : vs.size = xs.length) (hr : ∀ (i : Nat) x, xs[i]? = some x → ∃ v, vs[i]? = some v ∧ RepS P g w x v) :
    Calls P f vs w (PostOf P g w bs out) := by
  unfold okFn at hok
  rw [Bool.and_eq_true] at hok
  unfold evBody at h
  split at h
  · rename_i c hc
    obtain ⟨hchk, h⟩ := bif_some h
    simp only [Bool.and_eq_true] at hchk
    have hbl : bs.length = fn.params.size := Nat.eq_of_beq_eq_true hchk.1.2
    have hokc : okCode P c = true := by
      have := hok.2
      rw [hc] at this
      exact this
    have ret : ∀ g' s' a' w', outOf P fn bs s' = some out → Inv P (fxOf g w bs fn.params.size hm hL) g' s' a' w' → a'.defers = [] ∧ ∃ v, (results fn a'.tmps).run P w' = .ok v w' ∧ PostOf P g w bs out (.returned v) w' := fun g' s' a' w' e hI' => by
      obtain ⟨x, v, bs', rfl, hrun, post⟩ := outOf_sound hm hL hI' hbl e
      exact ⟨hI'.dfr, x, hrun, x, g', rfl, post⟩
    refine calls_of_wp hf hc (evC_sound (F := fxOf g w bs fn.params.size hm hL) hmix hcall (takes := takes) _ c _ _ hokc _ _ out g _ w _ h (entry_inv hm hL hl hv hr) (fun x g' s' a' w' e hI' => ?_) (fun v a' w' e hd hf => ?_))
    · cases x with
      | normal => exact ret g' s' a' w' e hI'
      | ret => exact ret g' s' a' w' e hI'
      | exit id => cases e
    · cases e
      exact ⟨hd, rfl, hf⟩
  · cases h
theorem evF_sound (hmix : P.follows .mixedOrders = true) {ext : CallF} (hext : SoundCall P ext) {fs : List FuncId} (hfs : ∀ f ∈ fs, ∀ fn, P.funcs[f]? = some fn → okFn P fn = true) : ∀ n, SoundCall P (evF P takes ext fs n)
  | 0 => fun f xs bs out h => by cases h
  | n + 1 => fun f xs bs out h => by
    unfold evF at h
    split at h
    · rename_i r hr
      cases h
      exact hext f xs bs _ hr
    · obtain ⟨hc, h⟩ := bif_some h
      split at h
      · rename_i fn hfn
        obtain ⟨o, h, he⟩ := Option.map_eq_some_iff.1 h
        cases he
        have hok := hfs f (by simpa using hc) fn hfn
        refine ⟨⟨fn, hfn, ?_, ?_⟩, fun g w vs hm hL hl hv hr => (by
          have := evBody_sound hmix (evF_sound hmix hext hfs n) hfn hok h hm hL hl hv hr
          cases out <;> exact this)⟩
        · unfold okFn at hok
          cases hb : fn.body with
          | none => rw [hb] at hok; simp at hok
          | some c => rfl
        · unfold okFn at hok
          simp only [Bool.and_eq_true, Bool.not_eq_true'] at hok
          exact hok.1
      · cases h
end
end Go.Proofs.YtckdgcpomkefpaaGreatDoor.En
