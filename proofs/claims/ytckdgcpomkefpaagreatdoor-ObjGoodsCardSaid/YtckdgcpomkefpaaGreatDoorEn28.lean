/- A function that lays a closure to be called at its end (defer, recover): where nothing panics. -/
import Derived.Test.YtckdgcpomkefpaaGreatDoorEn27
import Derived.Recover
set_option linter.unusedVariables false
set_option linter.unusedSimpArgs false
namespace Go.Proofs.YtckdgcpomkefpaaGreatDoor.En
open Go
/-- A region that lays a function to be called at the end. -/
def deferOf : Code → Option (Nat × FuncId × List Operand)
  | .region _ ops false => match ops.toList with
    | [⟨some t, .makeFunc (.func h) xs cs, _, _, _, none⟩, ⟨none, .defer { callee := .value (.tmp t'), args := ys, argTypes := _ }, _, _, _, none⟩] => bif Nat.beq t t' && xs.isEmpty && ys.isEmpty then some (t, h, cs.toList) else none
    | _ => none
  | _ => none
/-- A closure that asks first what was thrown. -/
def recOf : Code → Option (Nat × Code)
  | .seq (.region _ ops false) rest => match ops.toList with
    | [⟨some t, .call { callee := .builtin .recover, args := _, argTypes := _ }, _, _, _, none⟩] => some (t, rest)
    | _ => none
  | _ => none
def unitK : Ex → St → Option Unit := fun x s => match x with | .normal => some () | .ret => some () | .exit _ => none
section
variable (P : Program) (takes : FuncId → Option Nat) (call : CallF)
def cloSt (fn : Func) (t : Nat) (v : Value) : St := (⟨List.replicate fn.ntmps .dead, List.replicate fn.ntmps none⟩ : St).put (some t) (.v v)
/-- Nothing was thrown: the closure does nothing. -/
def cloRet (n : Nat) (h : FuncId) (m : Nat) : Bool := match P.funcs[h]? with
  | some fn => (match fn.body with
    | some c => (match recOf c with
      | some (t, rest) => fn.results.isEmpty && Nat.ble m fn.ntmps && !(fn.name == "runtime.NumGoroutine") && (evC P 0 takes call 0 n (fun _ => none) rest 0 [] (cloSt fn t .nilIface) unitK).isSome
      | none => false)
    | none => false)
  | none => false
def finK {β : Type} (fin : St → Option β) : Ex → St → Option β := fun x s => match x with | .normal => fin s | .ret => fin s | .exit _ => none
def evS {β : Type} (np ret n : Nat) (fin : St → Option β) : Code → St → Option β
  | .seq a b, s => match deferOf a with
    | some (t, h, cs) => bif Nat.blt t s.t.length && cloRet P takes call n h cs.length then evC P np takes call ret n (fun _ => none) b ret [] (s.put (some t) .dead) (finK fin) else none
    | none => evC P np takes call ret n (fun _ => none) a (liveC ret b ret []) [] s (fun x s => match x with | .normal => evS np ret n fin b (s.prune np (liveC ret b ret [])) | .ret => fin s | .exit _ => none)
  | _, _ => none
def okS : Code → Bool
  | .seq a b => match deferOf a with
    | some (t, h, cs) => okCode P b && (match (P.funcs[h]?).bind (·.body) with
      | some c => (match recOf c with | some (_, rest) => okCode P rest | none => false)
      | none => false)
    | none => okCode P a && okS b
  | _ => false
def okFnD (fn : Func) : Bool := !(fn.name == "runtime.NumGoroutine") && (match fn.body with | some c => okS P c | none => false)
/-- A function's evaluation. -/
def evFnD (n : Nat) (f : FuncId) (xs : List AV) (bx : Bx) : Option Out := match P.funcs[f]? with
  | some fn => (match fn.body with
    | some c => bif Nat.beq xs.length fn.params.size && Nat.beq bx.length fn.params.size && Nat.ble fn.params.size fn.ntmps then evS P takes call fn.params.size (retMask fn.results.toList) n (outOf P fn bx) c (entry fn xs bx) else none
    | none => none)
  | none => none
end
section
variable {P : Program} {F : Fx} {g g' : Gh} {s s' : St} {a a' : Act} {w w' : World} {takes : FuncId → Option Nat} {call : CallF}
/-- Nothing has turned. -/
theorem Inv.still (h : Inv P F g s a w) (hw : Fr (fun _ _ => False) w w') : Inv P F g s a w' := by
  have hle : g.Le g w w' := ⟨fun β j hj => ⟨hj, hw.cell (h.mem.gsz β j hj) fun t => t⟩, fun n v hv => hv, fun d β hd => hd⟩
  have same : ∀ β, β < w.heap.size → w'.heap[β]? = w.heap[β]? := fun β hβ => hw.same hβ fun _ t => t
  refine ⟨⟨fun β j hj => Nat.lt_of_lt_of_le (h.mem.gsz β j hj) hw.size, fun d cs hd => ?_, h.mem.apart, fun n v E hn => ?_, h.mem.tkap, h.mem.tkbx⟩, h.blen, h.len, fun i x hi => ?_, h.dfr, h.fr.trans hw (fun _ _ _ t => t) (fun _ _ _ t => t.elim), h.g0, h.gfr, h.tb, h.bb, h.pbx⟩
  · obtain ⟨β, us, T, e1, e2, e3, e4, e5⟩ := h.mem.box d cs hd
    have hlt := (Array.getElem?_eq_some_iff.1 e2).1
    exact ⟨β, us, T, e1, (same β hlt).trans e2, e3, e4, fun j c hc => let ⟨u, hu, hr⟩ := e5 j c hc; ⟨u, hu, hr.mono hle⟩⟩
  · exact (h.mem.own n v E hn).keep fun β hβ => ⟨same β ((h.mem.own n v E hn).lt hβ), fun j hj => hj⟩
  · obtain ⟨v, h1, h2⟩ := h.tm i x hi
    exact ⟨v, h1, h2.mono hle⟩
/-- Measured anew, from here on. -/
def Fx.anew (P : Program) (F : Fx) (g : Gh) (s : St) (a : Act) (w : World) (h : Inv P F g s a w) (ds : List Deferred) : Fx := ⟨w, g.G, TBof g, BBof g s.b, g.bx, F.np, ds, fun β hβ => ⟨h.laid.G β hβ, fun ⟨i, cs, hi, hb⟩ => by
  obtain ⟨β', us, T, h1, _, _, h2, _⟩ := h.mem.box i cs hi
  rw [hb] at h1
  cases h1
  exact h2 0 (h.laid.G β hβ 0)⟩, h.laid.P⟩
theorem Inv.anew (h : Inv P F g s a w) (ds : List Deferred) : Inv P (F.anew P g s a w h ds) g s { a with defers := ds } w :=
  ⟨h.mem, h.blen, h.len, h.tm, rfl, Fr.refl _ _, fun β j hj => hj, fun β j hj _ => .inl hj, fun n v E β hn hv => .inr ⟨n, v, E, hn, hv⟩, fun d cs β hd hb => .inr ⟨d, cs, hd, hb⟩, fun i _ _ => rfl⟩
theorem Inv.back (h : Inv P F g s a w) {ds : List Deferred} (h' : Inv P (F.anew P g s a w h ds) g' s' a' w') : Inv P F g' s' { a' with defers := F.ds } w' := by
  have size := h.fr.size
  refine ⟨h'.mem, h'.blen, h'.len, h'.tm, rfl, h.fr.trans h'.fr (fun _ _ _ t => t) (fun β j hlt t => ?_), fun β j hj => h'.g0 β j (h.g0 β j hj), fun β j hj hlt => ?_, fun n v E β hn hv => ?_, fun d cs β hd hb => ?_, fun i hi hne => ?_⟩
  · rcases t with ⟨d, cs, hd, hb⟩ | ⟨⟨n, y, E, hn, hy⟩, hg⟩
    · rcases h.bb d cs β hd hb with h1 | h1
      · omega
      · exact .inl h1
    · rcases h.tb n y E β hn hy with h1 | h1
      · omega
      · exact .inr ⟨h1, fun hG => hg (h.g0 β j hG)⟩
  · rcases h'.gfr β j hj (Nat.lt_of_lt_of_le hlt size) with h1 | ⟨n, y, E, hn, hy⟩
    · exact h.gfr β j h1 hlt
    · rcases h.tb n y E β hn hy with h2 | h2
      · omega
      · exact .inr h2
  · rcases h'.tb n v E β hn hv with h1 | ⟨n2, y, E2, hn2, hy⟩
    · exact .inl (Nat.le_trans size h1)
    · exact h.tb n2 y E2 β hn2 hy
  · rcases h'.bb d cs β hd hb with h1 | ⟨d2, cs2, hd2, hb2⟩
    · exact .inl (Nat.le_trans size h1)
    · exact h.bb d2 cs2 β hd2 hb2
  · have h1 := h.pbx i hi hne
    have h2 := h'.pbx i hi (by show g.bx i ≠ none; rw [h1]; exact hne)
    exact h2.trans h1
theorem deferOf_eq {c : Code} {t : Nat} {h : FuncId} {cs : List Operand} (hd : deferOf c = some (t, h, cs)) : ∃ (id : Nat) (caps : Array Operand) (ty1 ty2 : TypeId) (p1 p2 : String) (a1 a2 : Array Edge) (Ts : Array TypeId), cs = caps.toList ∧
    c = .region id #[⟨some t, .makeFunc (.func h) #[] caps, ty1, p1, a1, none⟩, ⟨none, .defer { callee := .value (.tmp t), args := #[], argTypes := Ts }, ty2, p2, a2, none⟩] false := by
  unfold deferOf at hd
  split at hd
  · rename_i id ops
    split at hd
    · rename_i t1 h1 xs caps ty1 p1 a1 t2 ys Ts ty2 p2 a2 hops
      obtain ⟨hc, hd⟩ := bif_some hd
      cases hd
      simp only [Bool.and_eq_true] at hc
      obtain ⟨⟨c1, c2⟩, c3⟩ := hc
      have e1 := Nat.eq_of_beq_eq_true c1
      subst e1
      have e2 : xs = #[] := by simpa using c2
      have e3 : ys = #[] := by simpa using c3
      subst e2 e3
      refine ⟨id, caps, ty1, ty2, p1, p2, a1, a2, Ts, rfl, ?_⟩
      have e4 : ops = #[_, _] := Array.ext' hops
      rw [e4]
    · cases hd
  · cases hd
theorem recOf_eq {c : Code} {t : Nat} {rest : Code} (h : recOf c = some (t, rest)) : ∃ (id : Nat) (xs : Array Operand) (Ts : Array TypeId) (ty : TypeId) (p : String) (af : Array Edge),
    c = .seq (.region id #[⟨some t, .call { callee := .builtin .recover, args := xs, argTypes := Ts }, ty, p, af, none⟩] false) rest := by
  unfold recOf at h
  split at h
  · rename_i id ops rest'
    split at h
    · rename_i t1 xs Ts ty p af hops
      cases h
      refine ⟨id, xs, Ts, ty, p, af, ?_⟩
      have e4 : ops = #[_] := Array.ext' hops
      rw [e4]
    · cases h
  · cases h
/-- What a closure is given: nothing. -/
def gN (g : Gh) : Gh := ⟨g.G, fun _ => none, fun _ => none⟩
theorem gN_mem (hm : Mem P g w s.b) (b : Bx) (hb : ∀ x ∈ b, x = none) : Mem P (gN g) w b := by
  have hn : ∀ d cs, b[d]? = some (some cs) → False := fun d cs h => by have := hb _ (List.mem_of_getElem? h); cases this
  exact ⟨hm.gsz, fun d cs h => (hn d cs h).elim, fun d d' β cs cs' h => (hn d cs h).elim, fun n v E h => (by cases h), fun n m v v' E E' β h => (by cases h), fun n v E β d cs h => (by cases h)⟩
theorem clo_ret (hmix : P.follows .mixedOrders = true) (hcall : SoundCall P call) {n : Nat} {h : FuncId} {args : Array Value} (hc : cloRet P takes call n h args.size = true)
    (hok : (match (P.funcs[h]?).bind (·.body) with
      | some c => (match recOf c with | some (_, rest) => okCode P rest | none => false)
      | none => false) = true) (hI : Inv P F g s a w) : CallsD P h args .returning w fun e u' w' => u' = .returning ∧ (∃ v, e = .returned v) ∧ Fr (fun _ _ => False) w w' := by
  unfold cloRet at hc
  cases hf : P.funcs[h]? with
  | none => rw [hf] at hc; cases hc
  | some fn =>
    rw [hf] at hc hok
    dsimp only at hc
    cases hb : fn.body with
    | none => rw [hb] at hc; cases hc
    | some c =>
      rw [hb] at hc
      simp only [Option.bind_some, hb] at hok
      dsimp only at hc
      cases hr : recOf c with
      | none => rw [hr] at hc; cases hc
      | some tr =>
        obtain ⟨t, rest⟩ := tr
        rw [hr] at hc hok
        dsimp only at hc hok
        simp only [Bool.and_eq_true] at hc
        obtain ⟨⟨⟨c1, c2⟩, c3⟩, c4⟩ := hc
        have hm := Nat.le_of_ble_eq_true c2
        obtain ⟨o, ho⟩ := Option.isSome_iff_exists.1 c4
        obtain ⟨id, xs, Ts, ty, p, af, rfl⟩ := recOf_eq hr
        refine callsD_of_wpS hf hb fun c₀ cs hu => wpS_seq (wpS_region ?_)
        simp only [show (List.range (#[(⟨some t, .call { callee := .builtin .recover, args := xs, argTypes := Ts }, ty, p, af, none⟩ : Oper)]).size) = [0] from rfl, wpOpsS, List.getElem?_toArray, List.getElem?_cons_zero, Region.wanted, if_true]
        have hrun : (execOp (({ tmps := args ++ Array.replicate (fn.ntmps - args.size) undef, defers := [] } : Act).eval) (⟨some t, .call { callee := .builtin .recover, args := xs, argTypes := Ts }, ty, p, af, none⟩ : Oper)).run P w = .ok .recover w := by
          simp [execOp, resolve, invoke, builtin]
        rw [hrun]
        dsimp only
        have hrec : recoverD (c₀ :: cs) = none := by
          simp [recoverD, hu]
        rw [hrec]
        dsimp only
        show Code.wpS P rest _ _ _ _
        refine wpS_of_wp ?_
        have hL : Laid (gN g) w := ⟨hI.laid.G, hI.laid.P⟩
        have hM : ∀ b : Bx, (∀ x ∈ b, x = none) → Mem P (gN g) w b := fun b hb => gN_mem hI.mem b hb
        have h0 : Mem P (gN g) w (List.replicate fn.ntmps none) := hM _ fun x hx => (List.mem_replicate.1 hx).2
        have hInv : Inv P (fxOf (gN g) w (List.replicate fn.ntmps none) 0 h0 hL) (gN g) (cloSt fn t .nilIface) (({ tmps := args ++ Array.replicate (fn.ntmps - args.size) undef, defers := [] } : Act).put (some t) .nilIface) w := by
          refine ⟨h0, by simp [cloSt, St.put], by simp [cloSt, St.put, Act.put]; omega, fun i x hi => ?_, rfl, Fr.refl _ _, fun β j h => h, fun β j h _ => .inl h, fun n v E β h1 h2 => (by cases h1), fun d cs β h1 h2 => (by
            have : (List.replicate fn.ntmps (none : Option (List AV)))[d]? = some (some cs) := h1
            rw [List.getElem?_replicate] at this
            split at this <;> cases this), fun i _ _ => rfl⟩
          have hi' : ((List.replicate fn.ntmps AV.dead).set t (.v .nilIface))[i]? = some x := hi
          have hsz : (args ++ Array.replicate (fn.ntmps - args.size) undef).size = fn.ntmps := by simp; omega
          rw [List.getElem?_set] at hi'
          show ∃ v, ((args ++ Array.replicate (fn.ntmps - args.size) undef).setIfInBounds t .nilIface)[i]? = some v ∧ _
          rw [Array.getElem?_setIfInBounds]
          split at hi'
          · rename_i e
            subst e
            split at hi'
            · rename_i hlt
              cases hi'
              have hlt' : t < fn.ntmps := by simpa using hlt
              rw [if_pos rfl, if_pos (by rw [hsz]; exact hlt')]
              exact ⟨_, rfl, rfl, rfl⟩
            · cases hi'
          · rename_i e
            rw [List.getElem?_replicate] at hi'
            split at hi'
            · rename_i hlt
              cases hi'
              rw [if_neg e, Array.getElem?_eq_getElem (by rw [hsz]; exact hlt)]
              exact ⟨_, rfl, trivial⟩
            · cases hi'
        refine evC_sound (F := fxOf (gN g) w (List.replicate fn.ntmps none) 0 h0 hL) hmix hcall (takes := takes) _ rest _ _ hok _ _ o _ _ w _ ho hInv (fun x g' s' a' w' e hI' => ?_) (fun v a' w' e hd hf => by cases e)
        have fin : bodyPostS P fn c₀ cs (fun e u' w' => u' = .returning ∧ (∃ v, e = .returned v) ∧ Fr (fun _ _ => False) w w') .normal a' (c₀ :: cs) w' := by
          refine ⟨hI'.dfr, .returning, ?_, ?_⟩
          · rw [← hu]
          · have hres : fn.results = #[] := by simpa using c1
            have : (results fn a'.tmps).run P w' = .ok (.tuple #[]) w' := by
              rw [results_eq, hres]; simp
            refine ⟨_, this, rfl, ⟨_, rfl⟩, hI'.fr.mono fun β j _ t => ?_⟩
            rcases t with ⟨i, cs, hi, _⟩ | ⟨⟨n, y, E, hn, _⟩, _⟩
            · rw [List.getElem?_replicate] at hi
              split at hi <;> cases hi
            · cases hn
        cases x with
        | normal => exact fin
        | ret => exact fin
        | exit id => cases e
theorem clo_fn {n : Nat} {h : FuncId} {m : Nat} (hc : cloRet P takes call n h m = true) : ∃ fn, P.funcs[h]? = some fn ∧ fn.body.isSome = true ∧ (fn.name == "runtime.NumGoroutine") = false := by
  unfold cloRet at hc
  cases hf : P.funcs[h]? with
  | none => rw [hf] at hc; cases hc
  | some fn =>
    rw [hf] at hc
    dsimp only at hc
    cases hb : fn.body with
    | none => rw [hb] at hc; cases hc
    | some c =>
      rw [hb] at hc
      dsimp only at hc
      cases hr : recOf c with
      | none => rw [hr] at hc; cases hc
      | some tr =>
        rw [hr] at hc
        simp only [Bool.and_eq_true, Bool.not_eq_true'] at hc
        exact ⟨fn, rfl, by rw [hb]; rfl, hc.1.2⟩
theorem evS_sound (hmix : P.follows .mixedOrders = true) (hcall : SoundCall P call) {ret n : Nat} {fn : Func} {R : Ending → World → Prop} {β : Type} {fin : St → Option β} {o : β} (hF : F.ds = [])
    (post : ∀ g' s' a' w', fin s' = some o → Inv P F g' s' a' w' → ∃ v, (results fn a'.tmps).run P w' = .ok v w' ∧ R (.returned v) w') :
    ∀ (c : Code), okS P c = true → ∀ (s : St) (g : Gh) (a : Act) (w : World), evS P takes call F.np ret n fin c s = some o → Inv P F g s a w → c.wp P (bodyPostD P fn R) a w
  | .seq x y, hok, s, g, a, w, h, hI => by
    have leave : ∀ g' s' a' w', fin s' = some o → Inv P F g' s' a' w' → Leaves P fn a'.tmps R a'.defers .returning w' := fun g' s' a' w' e hI' => by
      rw [hI'.dfr, hF]
      exact post g' s' a' w' e hI'
    unfold evS at h
    simp only [okS] at hok
    cases hd : deferOf x with
    | none =>
      rw [hd] at h hok
      simp only [Bool.and_eq_true] at hok
      refine wp_seq (evC_sound hmix hcall (takes := takes) _ x _ _ hok.1 s _ o g a w _ h hI (fun e g' s' a' w' he hI' => ?_) (fun v a' w' e _ _ => by cases e))
      cases e with
      | normal => exact evS_sound hmix hcall hF post y hok.2 _ g' a' w' he (prune_rep hI')
      | ret => exact leave g' s' a' w' he hI'
      | exit id => cases he
    | some tr =>
      obtain ⟨t, hid, cs⟩ := tr
      rw [hd] at h hok
      dsimp only at h hok
      rw [Bool.and_eq_true] at hok
      have hb' := bif_some h
      clear h
      obtain ⟨hclo, h⟩ := hb'
      rw [Bool.and_eq_true] at hclo
      have tlt : t < a.tmps.size := by rw [hI.len]; exact Nat.le_of_ble_eq_true hclo.1
      obtain ⟨id, caps, ty1, ty2, p1, p2, af1, af2, Ts, rfl, rfl⟩ := deferOf_eq hd
      refine wp_seq (wp_region_list ?_)
      have e1 : (execOp a.eval ⟨some t, .makeFunc (.func hid) #[] caps, ty1, p1, af1, none⟩).run P w = .ok (.value (.func (.func hid) #[] (caps.map a.eval))) w := by
        simp [execOp, Instr.makeFunc]
      let d : Deferred := { target := .fn (.func hid) (caps.map a.eval), args := #[] }
      have e2 : (execOp ((a.put (some t) (.func (.func hid) #[] (caps.map a.eval))).eval) ⟨none, .defer { callee := .value (.tmp t), args := #[], argTypes := Ts }, ty2, p2, af2, none⟩).run P w = .ok (.defer d) w := by
        have ht : (a.put (some t) (.func (.func hid) #[] (caps.map a.eval))).eval (.tmp t) = .func (.func hid) #[] (caps.map a.eval) := by
          have hlt : t < a.tmps.size := tlt
          simp [Act.put, Act.eval, hlt]
        simp [execOp, resolve, Deferred.ofValue, ht, d]
      have hw : ∀ (o : Oper) y, o.guard = none → Region.wanted o y = true := fun o y ho => by unfold Region.wanted; rw [ho]
      simp only [wpList]
      rw [if_pos (hw _ _ rfl)]
      refine .inl ?_
      unfold Oper.wp
      rw [e1, Oper.upon_value, if_pos (hw _ _ rfl)]
      refine .inl ?_
      rw [e2, Oper.upon_defer]
      have h1 : Inv P F g (s.put (some t) .dead) (a.put (some t) (.func (.func hid) #[] (caps.map a.eval))) w := hI.put (some t) (x := .dead) trivial
      have h2 := h1.anew [d]
      have ha : ({ (a.put (some t) (.func (.func hid) #[] (caps.map a.eval))) with defers := d :: (a.put (some t) (.func (.func hid) #[] (caps.map a.eval))).defers } : Act).put none undef = { (a.put (some t) (.func (.func hid) #[] (caps.map a.eval))) with defers := [d] } := by
        have : (a.put (some t) (.func (.func hid) #[] (caps.map a.eval))).defers = [] := h1.dfr.trans hF
        rw [this]; rfl
      show Code.wp P y _ _ w
      rw [ha]
      refine evC_sound (F := F.anew P _ _ _ _ h1 [d]) hmix hcall (takes := takes) _ y _ _ hok.1 _ _ o g _ w _ h h2 (fun e g' s' a' w' he hI' => ?_) (fun v a' w' e _ _ => by cases e)
      have fin' : fin s' = some o → Leaves P fn a'.tmps R a'.defers .returning w' := fun e => by
        rw [hI'.dfr]
        have hret := clo_ret hmix hcall (args := #[] ++ caps.map a.eval) (by simpa using hclo.2) hok.2 (h1.back hI')
        refine leaves_cons (f := hid) (args := #[] ++ caps.map a.eval) (by intro e; cases e) ?_ (hret.mono fun e' u' w'' hr => ?_)
        · obtain ⟨fh, hfh, hbh, hnh⟩ := clo_fn hclo.2
          have hb : ¬ fh.body = none := by intro e; rw [e] at hbh; cases hbh
          have hn : ¬ fh.name = "runtime.NumGoroutine" := by simpa using hnh
          simp [invoke, callFunc, hfh, hn, hb]
        · obtain ⟨rfl, ⟨v, rfl⟩, hfr⟩ := hr
          exact post g' s' { a' with defers := F.ds } w'' e ((h1.back hI').still hfr)
      cases e with
      | normal => exact fin' he
      | ret => exact fin' he
      | exit id => cases he
  | .skip, hok, s, g, a, w, h, hI => by cases h
  | .region .., hok, s, g, a, w, h, hI => by cases h
  | .cond .., hok, s, g, a, w, h, hI => by cases h
  | .block .., hok, s, g, a, w, h, hI => by cases h
  | .loop .., hok, s, g, a, w, h, hI => by cases h
  | .exit .., hok, s, g, a, w, h, hI => by cases h
  | .ret, hok, s, g, a, w, h, hI => by cases h
  | .rangeFunc .., hok, s, g, a, w, h, hI => by cases h
  | .scope .., hok, s, g, a, w, h, hI => by cases h
  | .label .., hok, s, g, a, w, h, hI => by cases h
  | .goto .., hok, s, g, a, w, h, hI => by cases h
  | .refuse .., hok, s, g, a, w, h, hI => by cases h
theorem sound_fnD (hmix : P.follows .mixedOrders = true) (hext : SoundCall P call) {f : FuncId} {fn : Func} (hf : P.funcs[f]? = some fn) (hok : okFnD P fn = true) {n : Nat} {xs : List AV} {bs : Bx} {out : Out} (h : evFnD P takes call n f xs bs = some out) :
    (∃ fn, P.funcs[f]? = some fn ∧ fn.body.isSome = true ∧ (fn.name == "runtime.NumGoroutine") = false) ∧ ∀ (g : Gh) (w : World) (vs : Array Value), Mem P g w bs → Laid g w → bs.length = xs.length → vs.size = xs.length →
  (∀ (i : Nat) x, xs[i]? = some x → ∃ v, vs[i]? = some v ∧ RepS P g w x v) → Calls P f vs w (PostOf P g w bs out) := by
  unfold evFnD at h
  rw [hf] at h
  dsimp only at h
  unfold okFnD at hok
  simp only [Bool.and_eq_true, Bool.not_eq_true'] at hok
  cases hb : fn.body with
  | none => rw [hb] at h; cases h
  | some c =>
    rw [hb] at h hok
    dsimp only at h hok
    obtain ⟨hchk, h⟩ := bif_some h
    simp only [Bool.and_eq_true] at hchk
    have hbl : bs.length = fn.params.size := Nat.eq_of_beq_eq_true hchk.1.2
    refine ⟨⟨fn, hf, by rw [hb]; rfl, hok.1⟩, fun g w vs hm hL hl hv hr => ?_⟩
    exact calls_of_wp_defers hf hb (evS_sound (F := fxOf g w bs fn.params.size hm hL) hmix hext (takes := takes) rfl (fun g' s' a' w' e hI' => by
      obtain ⟨x, v, bs', rfl, hrun, post⟩ := outOf_sound hm hL hI' hbl e
      exact ⟨x, hrun, x, g', rfl, post⟩) c hok.2 _ g _ w h (entry_inv hm hL hl hv hr))
theorem sound_addD {ext : CallF} (hmix : P.follows .mixedOrders = true) (hext : SoundCall P ext) (f : FuncId) {fn : Func} (hf : P.funcs[f]? = some fn) (hok : okFnD P fn = true) (ent : List AV → Bx → Option (Bool × Out))
    (h : ∀ xs bs out, ent xs bs = some (true, out) → ∃ n, evFnD P takes ext n f xs bs = some out) : SoundCall P (addF f ent ext) := fun g xs bs out ho => by
  unfold addF at ho
  cases hg : Nat.beq g f <;> rw [hg] at ho <;> simp only [cond_true, cond_false] at ho
  · exact hext g xs bs out ho
  · have e : g = f := Nat.eq_of_beq_eq_true hg
    subst e
    obtain ⟨n, hn⟩ := h xs bs out ho
    obtain ⟨h1, h2⟩ := sound_fnD hmix hext hf hok hn
    refine ⟨h1, fun gh w vs a1 aL a2 a3 a4 => ?_⟩
    have := h2 gh w vs a1 aL a2 a3 a4
    cases out <;> exact this
end
end Go.Proofs.YtckdgcpomkefpaaGreatDoor.En
