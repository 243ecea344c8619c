/- Operations that only read tell what the plain evaluator tells. -/
import Derived.Test.YtckdgcpomkefpaaGreatDoorEn2
import Derived.Laws.Cells
import Derived.WalkLawsBesides
import Derived.WalkSpells
import Derived.Lib.BytesEntry
set_option linter.unusedVariables false
set_option linter.unusedSimpArgs false
namespace Go.Proofs.YtckdgcpomkefpaaGreatDoor.En
open Go
section
variable {P : Program} {F : Fx} {g : Gh} {s : St} {a : Act} {w : World}

/-- The value of an operation is found without a change of the world. -/
def Tells (P : Program) (w : World) (m : Sem Next) (Q : Value → Prop) : Prop := ∃ v, m.run P w = .ok (.value v) w ∧ Q v
def Runs {α : Type} (P : Program) (w : World) (m : Sem α) (Q : α → Prop) : Prop := ∃ v, m.run P w = .ok v w ∧ Q v
theorem Runs.tells {m : Sem Value} {Q : Value → Prop} (h : Runs P w m Q) : Tells P w (do pure (.value (← m))) Q := by
  obtain ⟨v, h1, h2⟩ := h
  exact ⟨v, by simp [h1], h2⟩
theorem Runs.bind {α β : Type} {m : Sem α} {k : α → Sem β} {Q : α → Prop} {R : β → Prop} (h : Runs P w m Q) (hk : ∀ x, Q x → Runs P w (k x) R) : Runs P w (m >>= k) R := by
  obtain ⟨v, h1, h2⟩ := h
  obtain ⟨u, h3, h4⟩ := hk v h2
  exact ⟨u, by simp [h1, h3], h4⟩
theorem runs_pure {α : Type} {x : α} {Q : α → Prop} (h : Q x) : Runs P w (pure x) Q := ⟨x, by simp, h⟩
theorem runs_underlying {T : TypeId} {d : TypeDesc} (h : P.underlying T = some d) : Runs P w (underlying T) (· = d) := ⟨d, run_underlying h w, rfl⟩
theorem runs_sizeOf {T : TypeId} {n : Nat} (h : szT P T = some n) : Runs P w (sizeOf T) (· = n) := by
  unfold szT at h
  obtain ⟨i, hi, rfl⟩ := Option.map_eq_some_iff.1 h
  exact ⟨i.size, by simp [sizeOf, typeInfo, hi], rfl⟩
theorem runs_isAgg {T : TypeId} {b : Bool} (h : aggT P T = some b) : Runs P w (isAgg T) (· = b) := by
  unfold aggT at h
  obtain ⟨d, hd, rfl⟩ := Option.map_eq_some_iff.1 h
  refine ⟨aggD d, ?_, rfl⟩
  simp only [isAgg, Sem.run_bind, run_underlying hd, Result.andThen_ok]
  cases d <;> simp [aggD]
theorem add_lit (β off j : Nat) : (⟨β, off, none⟩ : Addr).add j = ⟨β, off + j, none⟩ := by
  unfold Addr.add; split <;> simp_all
theorem runs_loadCells {β off : Nat} {n : Nat} {cs : List AV} (hn : n ≤ cs.length) (hc : ∀ (j : Nat) c, cs[j]? = some c → ∃ u, w.cell? ⟨β, off + j, none⟩ = some u ∧ RepC P g w c u) :
    Runs P w (loadCells ⟨β, off, none⟩ n) (fun vs => vs.size = n ∧ ∀ (j : Nat) c, (cs.take n)[j]? = some c → ∃ u, vs[j]? = some u ∧ RepC P g w c u) := by
  refine ⟨_, run_loadCells w ⟨β, off, none⟩ n (fun j => (w.cell? ⟨β, off + j, none⟩).getD undef) (fun j hj => ?_), by simp, fun j c hj => ?_⟩
  · obtain ⟨u, hu, _⟩ := hc j cs[j] (List.getElem?_eq_getElem (by omega))
    rw [add_lit, hu]; rfl
  · rw [List.getElem?_take] at hj
    split at hj
    · rename_i hlt
      obtain ⟨u, hu, hr⟩ := hc j c hj
      exact ⟨u, by simp [hlt, hu], hr⟩
    · cases hj
theorem loadVar_sound {β off : Nat} {T : TypeId} {cs : List AV} {x : AV} (hc : ∀ (j : Nat) c, cs[j]? = some c → ∃ u, w.cell? ⟨β, off + j, none⟩ = some u ∧ RepC P g w c u) (h : partAV P T cs 0 = some x) :
    Runs P w (loadVar T ⟨β, off, none⟩) (RepS P g w x) := by
  unfold partAV at h
  obtain ⟨ag, hag, h⟩ := Option.bind_eq_some_iff.1 h
  refine (runs_isAgg hag).bind fun b hb => ?_
  rw [hb]
  clear hb
  cases ag with
  | false =>
    simp only [cond_false] at h
    obtain ⟨c, hcx, h⟩ := Option.bind_eq_some_iff.1 h
    cases hf : c.flat <;> rw [hf] at h <;> cases h
    obtain ⟨u, hu, hr⟩ := hc 0 _ hcx
    exact ⟨u, by simp [show w.cell? ⟨β, off, none⟩ = some u from hu], hr.S⟩
  | true =>
    simp only [cond_true] at h
    obtain ⟨n, hn, h⟩ := Option.bind_eq_some_iff.1 h
    simp only [Nat.zero_add, List.drop_zero] at h
    cases hle : Nat.ble n cs.length <;> rw [hle] at h
    · cases h
    · cases h
      rw [if_pos rfl]
      refine (runs_sizeOf hn).bind fun k hk => ?_
      rw [hk]
      have hle' := Nat.le_of_ble_eq_true hle
      refine (runs_loadCells hle' hc).bind fun vs hv => ?_
      exact runs_pure ⟨vs, rfl, by rw [hv.1, List.length_take, Nat.min_eq_left hle'], hv.2⟩
/-- The cells behind a pointer. -/
theorem cellsOf_sound (h : Inv P F g s a w) {x : AV} {cs : List AV} {v : Value} (hx : RepS P g w x v) (hcs : s.cellsOf x = some cs) :
    ∃ β off, v = .pointer (some ⟨β, off, none⟩) ∧ ∀ (j : Nat) c, cs[j]? = some c → ∃ u, w.cell? ⟨β, off + j, none⟩ = some u ∧ RepC P g w c u := by
  cases x <;> simp only [St.cellsOf] at hcs <;> first | cases hcs; done | skip
  case box d off =>
    obtain ⟨β, hb, rfl⟩ := (show RepC P g w (.box d off) v from hx)
    obtain ⟨cs0, h0, rfl⟩ := Option.map_eq_some_iff.1 hcs
    have h0' : s.b[d]? = some (some cs0) := by
      unfold St.boxAt at h0
      rw [List.getD_eq_getElem?_getD] at h0
      cases hq : s.b[d]? with
      | none => rw [hq] at h0; cases h0
      | some o => rw [hq] at h0; exact congrArg some h0
    obtain ⟨β', us, T, e1, e2, e3, e4, e5⟩ := h.mem.box d cs0 h0'
    rw [hb] at e1
    cases e1
    refine ⟨β, off, rfl, fun j c hj => ?_⟩
    rw [List.getElem?_map, List.getElem?_drop] at hj
    obtain ⟨c0, hc0, rfl⟩ := Option.map_eq_some_iff.1 hj
    obtain ⟨u, hu, hr⟩ := e5 _ _ hc0
    refine ⟨u, by simp [World.cell?, e2, hu], ?_⟩
    by_cases hs : ∃ T', c0 = .self T'
    · obtain ⟨T', rfl⟩ := hs
      obtain ⟨rfl, hr⟩ := hr
      rcases hr with rfl | rfl <;> rfl
    · rw [RepB.eq (fun T' e => hs ⟨T', e⟩)] at hr
      cases c0 <;> first | exact hr | exact absurd ⟨_, rfl⟩ hs
  case ro cs0 =>
    cases hcs
    obtain ⟨β, o, rfl, hc⟩ := (show RepC P g w (.ro cs0) v from hx)
    refine ⟨β, o, rfl, fun j c' hj => ?_⟩
    rw [List.getElem?_map] at hj
    obtain ⟨c, hj0, rfl⟩ := Option.map_eq_some_iff.1 hj
    obtain ⟨u, h1, h2, h3⟩ := hc j c hj0
    refine ⟨u, h1, ?_⟩
    cases c <;> simp only [Rep0] at h3 <;> first | exact h3 | (obtain ⟨rfl, h3⟩ := h3; exact ⟨h3, fun n hn => by cases hn⟩)
def okOp (o : Oper) : Bool := o.op.operands.toList.all okO
theorem okOp_mem {o : Oper} (h : okOp o = true) {x : Operand} (hx : x ∈ o.op.operands.toList) : okO x = true := List.all_eq_true.1 h x hx

theorem eqGuard_int {op : BinOp} {x y : Operand} (T : TypeId) {k k' : IntKind} {p q : Int} : (eqGuard op T x y (.int k p) (.int k' q)).run P w = .ok () w := by
  cases op <;> rfl
theorem eqGuard_str {op : BinOp} {x y : Operand} (T : TypeId) {p q : ByteArray} : (eqGuard op T x y (.string p) (.string q)).run P w = .ok () w := by
  cases op <;> rfl
theorem eqGuard_bool {op : BinOp} {x y : Operand} (T : TypeId) {p q : Bool} : (eqGuard op T x y (.bool p) (.bool q)).run P w = .ok () w := by
  cases op <;> rfl
theorem equalIn_bool {T : TypeId} (hu : P.underlying T = some .bool) {p q : Bool} (n : Nat) : (Op.equalIn (n + 1) T (.bool p) (.bool q)).run P w = .ok (p == q) w := by
  simp only [Op.equalIn, Sem.run_bind, run_underlying hu, Result.andThen_ok, Sem.run_pure]
theorem equal_bool {T : TypeId} (hu : P.underlying T = some .bool) {p q : Bool} : (Op.equal T (.bool p) (.bool q)).run P w = .ok (p == q) w := equalIn_bool hu 9999
theorem equalIn_nil {T : TypeId} {ms : _} (hu : P.underlying T = some (.interface ms)) (n : Nat) : (Op.equalIn (n + 1) T .nilIface .nilIface).run P w = .ok true w := by
  simp only [Op.equalIn, Sem.run_bind, run_underlying hu, Result.andThen_ok, Sem.run_pure]
theorem equalIn_iface {T tx : TypeId} {vx : Value} {ms : _} (hu : P.underlying T = some (.interface ms)) (n : Nat) : (Op.equalIn (n + 1) T (.iface tx vx) .nilIface).run P w = .ok false w := by
  simp only [Op.equalIn, Sem.run_bind, run_underlying hu, Result.andThen_ok, Sem.run_pure]
theorem ifaceT_eq {T : TypeId} (h : ifaceT P T = true) : ∃ ms, P.underlying T = some (.interface ms) := by
  unfold ifaceT at h
  split at h
  · rename_i ms e; exact ⟨ms, e⟩
  · cases h
theorem constO_eq {y : Operand} (h : constO y = true) : ∃ c, y = .const c := by
  cases y <;> first | exact ⟨_, rfl⟩ | cases h
/-- The type of truth values, where '==' asks for it. -/
theorem binOp_sound {op : BinOp} {x y : Operand} (T : TypeId) {p q r : Value} (hT : boolOk P T y p = true) (h : pureOp op p q = some r) : Runs P w (do eqGuard op T x y p q; binOp op T p q) (RepS P g w (.v r)) := by
  unfold pureOp at h
  cases p <;> cases q <;> simp only at h <;> first | cases h; done | skip
  case bool.bool p q =>
    have hu : P.underlying T = some .bool := by
      simp only [boolOk] at hT
      split at hT
      · assumption
      · cases hT
    cases op <;> first | cases h; done | skip
    all_goals (cases h; refine ⟨_, ?_, ⟨rfl, rfl⟩⟩)
    · simp only [Sem.run_bind, eqGuard_bool, Result.andThen_ok, binOp, equal_bool hu, Sem.run_pure]
    · simp only [Sem.run_bind, eqGuard_bool, Result.andThen_ok, binOp, equal_bool hu, Sem.run_pure]
  case nilIface.nilIface =>
    simp only [boolOk, Bool.and_eq_true] at hT
    obtain ⟨ms, hu⟩ := ifaceT_eq hT.1
    obtain ⟨c, rfl⟩ := constO_eq hT.2
    have hg : (eqGuard op T x (.const c) .nilIface .nilIface).run P w = .ok () w := by
      cases op <;> simp [eqGuard]
    have he : (Op.equal T .nilIface .nilIface).run P w = .ok true w := equalIn_nil hu 9999
    cases op <;> first | cases h; done | skip
    all_goals (cases h; refine ⟨_, ?_, ⟨rfl, rfl⟩⟩)
    all_goals (simp only [Sem.run_bind, hg, Result.andThen_ok, binOp, he, Sem.run_pure]; try rfl)
  case iface.nilIface tx vx =>
    simp only [boolOk] at hT
    obtain ⟨ms, hu⟩ := ifaceT_eq hT
    have hg : (eqGuard op T x y (.iface tx vx) .nilIface).run P w = .ok () w := by
      cases op <;> rfl
    have he : (Op.equal T (.iface tx vx) .nilIface).run P w = .ok false w := equalIn_iface hu 9999
    cases op <;> first | cases h; done | skip
    all_goals (cases h; refine ⟨_, ?_, ⟨rfl, rfl⟩⟩)
    all_goals (simp only [Sem.run_bind, hg, Result.andThen_ok, binOp, he, Sem.run_pure]; try rfl)
  case int.int k p k' q =>
    by_cases hk : k = k'
    · subst hk
      cases op <;> simp only [if_true] at h <;> first | cases h; done | skip
      case shl =>
        cases hd : decide (q < 0) <;> rw [hd] at h <;> cases h
        have : ¬ q < 0 := of_decide_eq_false hd
        exact ⟨_, by simp [eqGuard_int, binOp, Op.shift, this], ⟨rfl, rfl⟩⟩
      case shr =>
        cases hd : decide (q < 0) <;> rw [hd] at h <;> cases h
        have : ¬ q < 0 := of_decide_eq_false hd
        exact ⟨_, by simp [eqGuard_int, binOp, Op.shift, this], ⟨rfl, rfl⟩⟩
      case quo =>
        cases hd : decide (q = 0) <;> rw [hd] at h <;> cases h
        have : ¬ q = 0 := of_decide_eq_false hd
        exact ⟨_, by simp [eqGuard_int, binOp, Op.intDiv, this], ⟨rfl, rfl⟩⟩
      case rem =>
        cases hd : decide (q = 0) <;> rw [hd] at h <;> cases h
        have : ¬ q = 0 := of_decide_eq_false hd
        exact ⟨_, by simp [eqGuard_int, binOp, Op.intDiv, this], ⟨rfl, rfl⟩⟩
      all_goals (cases h; exact ⟨_, by simp [eqGuard_int, binOp, Op.intArith, Op.intBits, Op.intCmp], ⟨rfl, rfl⟩⟩)
    · cases op <;> simp only [if_neg hk] at h <;> first | cases h; done | skip
      case shl =>
        cases hd : decide (q < 0) <;> rw [hd] at h <;> cases h
        have : ¬ q < 0 := of_decide_eq_false hd
        exact ⟨_, by simp [eqGuard_int, binOp, Op.shift, this], ⟨rfl, rfl⟩⟩
      case shr =>
        cases hd : decide (q < 0) <;> rw [hd] at h <;> cases h
        have : ¬ q < 0 := of_decide_eq_false hd
        exact ⟨_, by simp [eqGuard_int, binOp, Op.shift, this], ⟨rfl, rfl⟩⟩
  case string.string p q =>
    cases op <;> simp only at h <;> first | cases h; done | skip
    case add =>
      cases hd : decide (p.size + q.size ≤ 4611686018427387904) <;> rw [hd] at h <;> cases h
      have hd' : p.size + q.size ≤ 4611686018427387904 := of_decide_eq_true hd
      have : ¬ ((p.size : Int) + q.size > IntKind.i64.max) := by
        have : IntKind.i64.max = 9223372036854775807 := by decide
        omega
      exact ⟨_, by simp only [Sem.run_bind, eqGuard_str, Result.andThen_ok, binOp, Op.stringOp, Sem.run_pure, show (((p.size + q.size : Nat) : Int) > IntKind.i64.max) = False from eq_false (by omega), if_false], ⟨rfl, rfl⟩⟩
    all_goals (cases h; exact ⟨_, by simp [eqGuard_str, binOp, Op.stringOp], ⟨rfl, rfl⟩⟩)
theorem Runs.tells' {m : Sem Value} {Q : Value → Prop} (h : Runs P w (m >>= pure) Q) : Tells P w (do pure (.value (← m))) Q := by
  obtain ⟨v, h1, h2⟩ := h
  exact ⟨v, by simp at h1; simp [h1], h2⟩
theorem strT_eq {T : TypeId} (h : strT P T = true) : P.underlying T = some .string := by
  simp only [strT] at h
  split at h
  · assumption
  · cases h
theorem elemT_eq {T E : TypeId} (h : elemT P T = some E) : P.underlying T = some (.slice E) := by
  simp only [elemT] at h
  split at h
  · rename_i e; cases h; exact e
  · cases h
theorem index_sound {T : TypeId} {str : ByteArray} {k : IntKind} {n : Int} (hu : P.underlying T = some .string) (h0 : 0 ≤ n) (h1 : n < str.size) : Runs P w (Instr.index T (.string str) (.int k n)) (RepS P g w (.v (.int .u8 (bt str n)))) := by
  simp only [Instr.index]
  refine (runs_pure (Q := (· = (k, n))) rfl).bind fun p hp => ?_
  subst hp
  refine (runs_underlying hu).bind fun d hd => ?_
  subst hd
  have hlt : n.toNat < str.size := by omega
  have e : str[n.toNat]? = some str.data[n.toNat] := by
    rw [getElem?_pos str n.toNat hlt]; rfl
  simp only [if_pos h0, e]
  refine runs_pure ⟨?_, rfl⟩
  unfold bt
  have : n.toNat < str.data.size := hlt
  simp only [Array.getD, this, dif_pos]
  rfl
theorem fieldAt_sound {T U : TypeId} {f off n β o : Nat} (hf : fieldOf P T f = some (off, U)) (hn : szT P U = some n) (h0 : n ≠ 0) : Runs P w (Instr.fieldAt T (.pointer (some ⟨β, o, none⟩)) f) (· = .pointer (some ⟨β, o + off, none⟩)) := by
  unfold fieldOf at hf
  split at hf
  · rename_i fs hu
    obtain ⟨fd, hfd, he⟩ := Option.map_eq_some_iff.1 hf
    cases he
    simp only [Instr.fieldAt]
    refine (runs_underlying hu).bind fun d hd => ?_
    subst hd
    dsimp only
    rw [hfd]
    dsimp only
    refine (runs_pure (Q := (· = (⟨β, o, none⟩ : Addr))) rfl).bind fun ad he => ?_
    subst he
    refine Runs.bind (Q := (· = (⟨β, o + fd.offset, none⟩ : Addr))) ?_ fun ad he => by subst he; exact runs_pure rfl
    simp only [fieldPlace]
    refine (runs_sizeOf hn).bind fun m hm => ?_
    subst hm
    rw [if_neg h0]
    exact runs_pure (add_lit _ _ _)
  · cases hf
theorem field_sound {T U : TypeId} {f off : Nat} {vs : Array Value} {cs : List AV} {x : AV} (hf : fieldOf P T f = some (off, U)) (e2 : vs.size = cs.length)
    (e3 : ∀ (j : Nat) c, cs[j]? = some c → ∃ u, vs[j]? = some u ∧ RepC P g w c u) (hx : partAV P U cs off = some x) : Runs P w (Instr.field T (.agg vs) f) (RepS P g w x) := by
  unfold fieldOf at hf
  split at hf
  · rename_i fs hu
    obtain ⟨fd, hfd, he⟩ := Option.map_eq_some_iff.1 hf
    cases he
    simp only [Instr.field]
    refine (runs_underlying hu).bind fun d hd => ?_
    subst hd
    dsimp only
    rw [hfd]
    dsimp only
    refine (runs_pure (Q := (· = vs)) rfl).bind fun vs' he => ?_
    subst he
    unfold partAV at hx
    obtain ⟨ag, hag, hx⟩ := Option.bind_eq_some_iff.1 hx
    simp only [part]
    refine (runs_isAgg hag).bind fun b hb => ?_
    subst hb
    cases b with
    | false =>
      simp only [cond_false] at hx
      obtain ⟨c, hcx, hx⟩ := Option.bind_eq_some_iff.1 hx
      cases hf : c.flat <;> rw [hf] at hx <;> cases hx
      obtain ⟨u, hu', hr⟩ := e3 _ _ hcx
      simp only [Bool.false_eq_true, if_false, hu']
      exact runs_pure hr.S
    | true =>
      simp only [cond_true] at hx
      obtain ⟨n, hn, hx⟩ := Option.bind_eq_some_iff.1 hx
      cases hle : Nat.ble (fd.offset + n) cs.length <;> rw [hle] at hx
      · cases hx
      · cases hx
        have hle' := Nat.le_of_ble_eq_true hle
        rw [if_pos rfl]
        refine (runs_sizeOf hn).bind fun m hm => ?_
        subst hm
        refine runs_pure ⟨_, rfl, by simp; omega, fun j c hj => ?_⟩
        rw [List.getElem?_take] at hj
        split at hj
        · rename_i hlt
          rw [List.getElem?_drop] at hj
          obtain ⟨u, hu', hr⟩ := e3 _ _ hj
          have hb := (Array.getElem?_eq_some_iff.1 hu').1
          refine ⟨u, ?_, hr⟩
          rw [Array.getElem?_extract, if_pos (by omega)]
          exact hu'
        · cases hj
  · cases hf
theorem idx_eq {l : List Dat} {n : Int} {d : Dat} (h : idx l n = some d) : 0 ≤ n ∧ l[n.toNat]? = some d ∧ n.toNat < l.length := by
  unfold idx at h
  cases hc : decide (0 ≤ n) <;> rw [hc] at h
  · cases h
  · exact ⟨of_decide_eq_true hc, h, (List.getElem?_eq_some_iff.1 h).1⟩
theorem expand_get (d : Dat) : ∀ (ks : List CK) (j i : Nat), (expand d ks j)[i]? = (ks[i]?).map fun k => expC d k (j + i)
  | [], j, i => by simp [expand]
  | k :: ks, j, 0 => by simp [expand]
  | k :: ks, j, i + 1 => by simp [expand, expand_get d ks (j + 1) i, Nat.add_assoc, Nat.add_comm 1 i]
theorem indexAt_sound {T E : TypeId} {ks : List CK} {k : IntKind} {n : Int} {l : List Dat} {v : Value} {d : Dat} (hu : P.underlying T = some (.slice E)) (hks : kinds P E = some ks) (hz : szT P E = some ks.length)
    (hrow : RepRow P g.G w E l v) (hd : idx l n = some d) : Runs P w (Instr.indexAt T v (.int k n)) (RepS P g w (.ro (expand d ks 0))) := by
  obtain ⟨h0, hget, hlt⟩ := idx_eq hd
  cases hrow with
  | nil E A cap => simp at hlt
  | mk E l β off cap ks' vals hk hlen hc hs hr =>
    rw [hks] at hk
    cases hk
    simp only [Instr.indexAt]
    refine (runs_pure (Q := (· = (k, n))) rfl).bind fun p hp => ?_
    subst hp
    refine (runs_underlying hu).bind fun d' hd' => ?_
    subst hd'
    dsimp only
    refine (runs_pure (Q := (· = (some (⟨β, off, none⟩ : Addr), l.length, E))) rfl).bind fun p hp => ?_
    subst hp
    refine (runs_underlying hu).bind fun d' hd' => ?_
    subst hd'
    dsimp only
    · rw [if_pos ⟨h0, by omega⟩]
      refine (runs_sizeOf hz).bind fun m hm => ?_
      subst hm
      refine runs_pure ⟨β, off + n.toNat * ks.length, by rw [add_lit], fun j c hj => ?_⟩
      rw [expand_get] at hj
      obtain ⟨kk, hkk, rfl⟩ := Option.map_eq_some_iff.1 hj
      have hj' := (List.getElem?_eq_some_iff.1 hkk).1
      obtain ⟨c1, c2, c3⟩ := hc n.toNat j hlt hj'
      refine ⟨_, c2, c1, ?_⟩
      have hsc := hs n.toNat j d kk hget hkk
      have hrc := fun E' (e : kk = .row E') => hr n.toNat j d E' hget (by rw [hkk, e])
      cases kk <;> simp only [expC, Nat.zero_add, Rep0]
      · exact ⟨hsc, rfl⟩
      · exact ⟨hsc, rfl⟩
      · exact ⟨hsc, rfl⟩
      · exact ⟨trivial, hrc _ rfl⟩
      · exact c3
      · exact c3
theorem bound_sound (h : Inv P F g s a w) {o : Option Operand} {d : Nat} {n : Int} (hk : ∀ y, o = some y → RepS P g w (s.ev y) (a.eval y)) (hb : bound s o d = some n) : (o.map a.eval = none ∧ n = d) ∨ ∃ k, o.map a.eval = some (.int k n) := by
  cases o with
  | none => cases hb; exact .inl ⟨rfl, rfl⟩
  | some y =>
    have hy := hk y rfl
    simp only [bound] at hb
    cases hyv : s.ev y <;> rw [hyv] at hb hy <;> first | cases hb; done | skip
    rename_i yv
    cases yv <;> first | cases hb; done | skip
    rename_i k m
    cases hb
    obtain ⟨ey, _⟩ := (show a.eval y = .int k n ∧ _ from hy)
    exact .inr ⟨k, congrArg some ey⟩
theorem runs_bounds {isSlice : Bool} {len cap : Nat} {lo hi : Option Value} {hh ll : Int} (e1 : (hi = none ∧ hh = len) ∨ ∃ k, hi = some (.int k hh)) (e2 : (lo = none ∧ ll = (0 : Nat)) ∨ ∃ k, lo = some (.int k ll)) (h0 : 0 ≤ hh) (h1 : hh ≤ cap) (h2 : 0 ≤ ll) (h3 : ll ≤ hh) :
    Runs P w (Instr.sliceBounds isSlice len cap lo hi none) (· = (ll.toNat, hh.toNat, cap)) := by
  have sb : ∀ (k : IntKind) (i : Int) (y : Nat) (code : BoundsCode), 0 ≤ i → i ≤ y → Runs P w (Instr.sliceBound (.int k i) y code) (· = i.toNat) := fun k i y code a1 a2 => ⟨_, Go.run_sliceBound w k i y code a1 a2, rfl⟩
  simp only [Instr.sliceBounds]
  refine (runs_pure (Q := (· = cap)) rfl).bind fun m hm => ?_
  subst hm
  rcases e1 with ⟨rfl, rfl⟩ | ⟨k, rfl⟩ <;> rcases e2 with ⟨rfl, rfl⟩ | ⟨k', rfl⟩ <;> dsimp only
  · exact (runs_pure (Q := (· = len)) rfl).bind fun m' hm => by subst hm; exact (runs_pure (Q := (· = 0)) rfl).bind fun m' hm => by subst hm; exact runs_pure (by simp)
  · exact (runs_pure (Q := (· = len)) rfl).bind fun m' hm => by subst hm; exact (sb k' ll _ _ h2 (by omega)).bind fun m' hm => by subst hm; exact runs_pure (by simp)
  · exact (sb k hh _ _ h0 h1).bind fun m' hm => by subst hm; exact (runs_pure (Q := (· = 0)) rfl).bind fun m' hm => by subst hm; exact runs_pure (by simp)
  · exact (sb k hh _ _ h0 h1).bind fun m' hm => by subst hm; exact (sb k' ll _ _ h2 (by omega)).bind fun m' hm => by subst hm; exact runs_pure (by simp)
theorem sliceRow_sound {T E : TypeId} {l : List Dat} {v : Value} {lo hi : Option Value} {hh ll : Int} {ks : List CK} (hks : kinds P E = some ks) (hz : szT P E = some ks.length) (hu : P.underlying T = some (.slice E)) (hrow : RepRow P g.G w E l v)
    (e1 : (hi = none ∧ hh = l.length) ∨ ∃ k, hi = some (.int k hh)) (e2 : (lo = none ∧ ll = (0 : Nat)) ∨ ∃ k, lo = some (.int k ll)) (h0 : 0 ≤ hh) (h1 : hh ≤ l.length) (h2 : 0 ≤ ll) (h3 : ll ≤ hh) :
    Runs P w (Instr.sliceAt T v lo hi none) (RepS P g w (.row none E ((l.take hh.toNat).drop ll.toNat))) := by
  obtain ⟨A, cap, hv⟩ := hrow.slice
  have hcap : l.length ≤ cap ∨ l = [] := by
    cases hrow with
    | nil E A cap => exact .inr rfl
    | mk E l β off cap ks vals hk hlen hc hs hr => injection hv with _ _ e; subst e; exact .inl hlen
  have hcap' : l.length ≤ cap := by
    rcases hcap with h | rfl
    · exact h
    · exact Nat.zero_le _
  subst hv
  simp only [Instr.sliceAt, Instr.slice]
  refine (runs_underlying hu).bind fun d hd => ?_
  subst hd
  refine (runs_underlying hu).bind fun d hd => ?_
  subst hd
  refine (runs_bounds (isSlice := true) (len := l.length) (cap := cap) e1 e2 h0 (by omega) h2 h3).bind fun r hr => ?_
  subst hr
  dsimp only
  refine (runs_sizeOf hz).bind fun m hm => ?_
  subst hm
  refine runs_pure ⟨?_, fun n hn => by cases hn⟩
  have hn1 : hh.toNat ≤ l.length := by omega
  have hn2 : ll.toNat ≤ hh.toNat := by omega
  generalize hh.toNat = hn at hn1 hn2 ⊢
  generalize ll.toNat = ln at hn1 hn2 ⊢
  have hL : ((l.take hn).drop ln).length = hn - ln := by simp; omega
  by_cases hcl : cap = ln
  · have : (l.take hn).drop ln = [] := List.eq_nil_of_length_eq_zero (by rw [hL]; omega)
    rw [this, show hn - ln = 0 by omega]
    exact .nil _ _ _
  · rw [if_neg hcl]
    cases hrow with
    | nil E A cap =>
      simp only [List.take_nil, List.drop_nil, List.length_nil] at hn1 ⊢
      rw [show hn - ln = 0 by omega]
      exact .nil _ _ _
    | mk E l β off cap ks' vals hk hlen hc hs hr =>
      rw [hks] at hk
      cases hk
      simp only [Option.map_some, add_lit]
      have := RepRow.mk (P := P) (G := g.G) (w := w) E ((l.take hn).drop ln) β (off + ln * ks.length) (cap - ln) ks (fun i j => vals (ln + i) j) hks (by omega) (fun i j hi hj => ?_) (fun i j d k hd hj => ?_) (fun i j d E' hd hj => ?_)
      · rw [hL] at this; exact this
      · obtain ⟨c1, c2, c3⟩ := hc (ln + i) j (by omega) hj
        have e : off + ln * ks.length + i * ks.length + j = off + (ln + i) * ks.length + j := by rw [Nat.add_mul]; omega
        rw [e]
        exact ⟨c1, c2, c3⟩
      · refine hs (ln + i) j d k ?_ hj
        rw [List.getElem?_drop, List.getElem?_take] at hd
        split at hd
        · exact hd
        · cases hd
      · refine hr (ln + i) j d E' ?_ hj
        rw [List.getElem?_drop, List.getElem?_take] at hd
        split at hd
        · exact hd
        · cases hd
theorem plainL_sound {cs : List AV} {l : List Value} {vs : Array Value} (hl : plainL cs = some l) (e2 : vs.size = cs.length)
    (e3 : ∀ (j : Nat) c, cs[j]? = some c → ∃ u, vs[j]? = some u ∧ RepC P g w c u) : vs = l.toArray := by
  have key : ∀ (cs : List AV) (l us : List Value), plainL cs = some l → us.length = cs.length → (∀ (j : Nat) c, cs[j]? = some c → ∃ u, us[j]? = some u ∧ RepC P g w c u) → us = l := by
    intro cs
    induction cs with
    | nil => intro l us hl e2 e3; cases hl; exact List.eq_nil_of_length_eq_zero e2
    | cons c cs ih =>
      intro l us hl e2 e3
      cases c <;> simp only [plainL] at hl <;> first | cases hl; done | skip
      obtain ⟨l', hl', he⟩ := Option.bind_eq_some_iff.1 hl
      cases he
      cases us with
      | nil => simp at e2
      | cons u us =>
        obtain ⟨u', hu', hr⟩ := e3 0 _ rfl
        simp at hu'
        subst hu'
        rw [ih l' us hl' (by simpa using e2) (fun j c hj => by simpa using e3 (j + 1) c (by simpa using hj))]
        obtain ⟨rfl, _⟩ := hr
        rfl
  have := key cs l vs.toList hl (by simpa using e2) (fun j c hj => by simpa using e3 j c hj)
  rw [← this]
theorem convV_sound {src dst : TypeId} {x r : Value} (h : convV P src dst x = some r) : Runs P w (convert src dst x) (RepS P g w (.v r)) := by
  unfold convV at h
  split at h
  · split at h
    · rename_i d k hd hk
      cases h
      simp only [convert]
      refine (runs_underlying hd).bind fun d' e => ?_
      subst e
      refine (runs_underlying hk).bind fun d' e => ?_
      subst e
      exact ⟨_, by simp [Conv.intToInt], ⟨rfl, rfl⟩⟩
    · cases h
  · split at h
    · rename_i d hd hk
      cases h
      simp only [convert]
      refine (runs_underlying hd).bind fun d' e => ?_
      subst e
      refine (runs_underlying hk).bind fun d' e => ?_
      subst e
      exact runs_pure ⟨rfl, rfl⟩
    · cases h
  · split at h
    · rename_i E hd hk
      split at h
      · rename_i he
        cases h
        simp only [convert]
        refine (runs_underlying hd).bind fun d' e => ?_
        subst e
        refine (runs_underlying hk).bind fun d' e => ?_
        subst e
        dsimp only
        refine (runs_underlying he).bind fun d' e => ?_
        subst e
        exact ⟨_, by simp [Conv.bytesToString]; rfl, ⟨rfl, rfl⟩⟩
      · cases h
    · cases h
  · cases h
theorem kinds_byte {E : TypeId} (h : P.underlying E = some (.int .u8)) : kinds P E = some [.int .u8] := by
  simp only [kinds, kindsF, h]
theorem push_eq (ns : List Int) : ∀ acc : ByteArray, ns.foldl (fun r n => r.push (UInt8.ofNat n.toNat)) acc = ⟨(acc.data.toList ++ ns.map fun n => UInt8.ofNat n.toNat).toArray⟩ := by
  induction ns with
  | nil => intro acc; simp
  | cons n ns ih => intro acc; simp only [List.foldl_cons, ih, List.map_cons]; congr 1; simp [ByteArray.push]
theorem convRow_sound {src dst E : TypeId} {l : List Dat} {v : Value} {x : AV} (hrow : RepRow P g.G w E l v)
    (h : (match P.underlying src, P.underlying dst with
      | some (.slice E'), some .string => (match P.underlying E' with
        | some (.int .u8) => bif E == E' then some (S (bytesOf l)) else none
        | _ => none)
      | _, _ => none) = some x) : Runs P w (convert src dst v) (RepS P g w x) := by
  split at h
  · rename_i E' hd hk
    split at h
    · rename_i he
      cases hE : (E == E') <;> rw [hE] at h <;> cases h
      have : E = E' := by simpa using hE
      subst this
      have hkk := kinds_byte he
      obtain ⟨A, cap, hv⟩ := hrow.slice
      subst hv
      simp only [convert]
      refine (runs_underlying hd).bind fun d' e => ?_
      subst e
      refine (runs_underlying hk).bind fun d' e => ?_
      subst e
      dsimp only
      refine (runs_underlying he).bind fun d' e => ?_
      subst e
      dsimp only
      cases hrow with
      | nil =>
        cases A with
        | none => exact ⟨_, by simp [Conv.bytesToString]; rfl, ⟨rfl, rfl⟩⟩
        | some ad =>
          have := run_bytesToString (P := P) w ad 0 cap [] (by simp [loadCells, loadCellsFrom])
          exact ⟨_, this, ⟨rfl, rfl⟩⟩
      | mk E l β off cap ks vals hk' hlen hc hs hr =>
        rw [hkk] at hk'
        cases hk'
        have := run_bytesToString (P := P) w ⟨β, off, none⟩ l.length cap (l.map fun d => (d.at 0).toI) (by
          rw [run_loadCells w ⟨β, off, none⟩ l.length (fun j => vals j 0) (fun j hj => ?_)]
          · congr 2
            apply List.ext_getElem
            · simp
            · intro i h1 h2
              simp at h1 h2
              simp only [List.getElem_map, List.getElem_range]
              exact hs i 0 l[i] _ (List.getElem?_eq_getElem h1) rfl
          · obtain ⟨c1, c2, c3⟩ := hc j 0 hj (by simp)
            rw [add_lit, ← c2]
            congr 2
            simp)
        refine ⟨_, this, ⟨?_, rfl⟩⟩
        rw [push_eq]
        congr 1
        simp [bytesOf, Function.comp_def]
    · cases h
  · cases h
theorem runs_mapM {α β : Type} {f : α → Sem β} {q : α → β → Prop} : ∀ (l : List α), (∀ x ∈ l, Runs P w (f x) (q x)) → Runs P w (l.mapM f) (fun r => r.length = l.length ∧ ∀ (i : Nat) x, l[i]? = some x → ∃ y, r[i]? = some y ∧ q x y)
  | [], _ => by rw [List.mapM_nil]; exact runs_pure ⟨rfl, fun i x h => by simp at h⟩
  | x :: l, h => by
    rw [List.mapM_cons]
    refine (h x (by simp)).bind fun y hy => ?_
    refine (runs_mapM l (fun z hz => h z (by simp [hz]))).bind fun r hr => ?_
    refine runs_pure ⟨by simp [hr.1], fun i z hz => ?_⟩
    cases i with
    | zero => simp at hz; subst hz; exact ⟨y, rfl, hy⟩
    | succ i => simp at hz; obtain ⟨u, h1, h2⟩ := hr.2 i z hz; exact ⟨u, by simpa using h1, h2⟩
theorem cells_rep {x : AV} {v : Value} (hx : RepS P g w x v) (h1 : x.cells.all AV.one = true) : v.cells.size = x.cells.length ∧ ∀ (j : Nat) c, x.cells[j]? = some c → ∃ u, v.cells[j]? = some u ∧ RepC P g w c u := by
  by_cases ha : ∃ cs, x = .agg cs
  · obtain ⟨cs, rfl⟩ := ha
    obtain ⟨vs, rfl, e2, e3⟩ := hx
    exact ⟨e2, e3⟩
  · have hc : x.cells = [x] := by cases x <;> first | rfl | exact absurd ⟨_, rfl⟩ ha
    rw [hc] at h1 ⊢
    have hr := hx.one (by simpa using h1)
    have ho := hr.one
    have hvc : v.cells = #[v] := by cases v <;> first | rfl | (simp [Value.oneCell'] at ho)
    rw [hvc]
    refine ⟨rfl, fun j c hj => ?_⟩
    cases j with
    | zero => simp at hj; subst hj; exact ⟨v, rfl, hr⟩
    | succ j => simp at hj
/-- Cells written over others, from a place on. -/
theorem foldl_set (new : List Value) : ∀ (k : Nat) (off : Nat) (cs : Array Value), off + k + new.length ≤ cs.size →
    ∀ j : Nat, ((new.zipIdx k).foldl (fun cs (c, j) => cs.setIfInBounds (off + j) c) cs)[j]? = if off + k ≤ j ∧ j < off + k + new.length then new[j - (off + k)]? else cs[j]? := by
  induction new with
  | nil => intro k off cs h j; simp; intro h1 h2; omega
  | cons x new ih =>
    intro k off cs h j
    simp only [List.length_cons] at h
    rw [List.zipIdx_cons, List.foldl_cons, ih (k + 1) off _ (by simp; omega) j]
    simp only [Array.getElem?_setIfInBounds, List.length_cons]
    by_cases h1 : off + (k + 1) ≤ j ∧ j < off + (k + 1) + new.length
    · rw [if_pos h1, if_pos (by omega), show j - (off + k) = (j - (off + (k + 1))) + 1 by omega]
      rfl
    · rw [if_neg h1]
      by_cases h2 : off + k = j
      · rw [if_pos h2, if_pos (by omega), if_pos (by omega), show j - (off + k) = 0 by omega]
        rfl
      · rw [if_neg h2, if_neg (by omega)]
theorem size_foldl_set (new : List (Value × Nat)) : ∀ (off : Nat) (cs : Array Value), (new.foldl (fun cs (c, j) => cs.setIfInBounds (off + j) c) cs).size = cs.size := by
  induction new with
  | nil => intro off cs; rfl
  | cons x new ih => intro off cs; simp [ih]
theorem fill_sound {place : Nat → Option (Nat × Nat)} : ∀ (l : List (Nat × Nat × AV)) (vs : List (Nat × Value)) (cs : List AV) (us : Array Value) (cs' : List AV),
    us.size = cs.length → (∀ (j : Nat) c, cs[j]? = some c → ∃ u, us[j]? = some u ∧ RepC P g w c u) → fillAV cs l = some cs' → l.length = vs.length →
    (∀ (i : Nat) off n x, l[i]? = some (off, n, x) → ∃ f v, vs[i]? = some (f, v) ∧ place f = some (off, n) ∧ RepS P g w x v) →
    ∃ us', Instr.fill place us vs = some us' ∧ us'.size = cs'.length ∧ ∀ (j : Nat) c, cs'[j]? = some c → ∃ u, us'[j]? = some u ∧ RepC P g w c u
  | [], vs, cs, us, cs', hs, hr, hf, hl, hp => by
    cases hf
    have : vs = [] := List.eq_nil_of_length_eq_zero (by simpa using hl.symm)
    subst this
    exact ⟨us, rfl, hs, hr⟩
  | (off, n, x) :: l, vs, cs, us, cs', hs, hr, hf, hl, hp => by
    cases vs with
    | nil => simp at hl
    | cons v0 vs =>
    obtain ⟨f, v, hv, hpl, hx⟩ := hp 0 off n x rfl
    simp at hv
    subst hv
    simp only [fillAV] at hf
    cases hc : (Nat.beq x.cells.length n && Nat.ble (off + n) cs.length && x.cells.all AV.one) <;> rw [hc] at hf
    · cases hf
    simp only [Bool.and_eq_true] at hc
    have hn : x.cells.length = n := Nat.eq_of_beq_eq_true hc.1.1
    have hle := Nat.le_of_ble_eq_true hc.1.2
    obtain ⟨c1, c2⟩ := cells_rep hx hc.2
    simp only [Instr.fill, hpl]
    have hsz : v.cells.size = n := by rw [c1, hn]
    rw [if_neg (by simp [hsz]; omega)]
    refine fill_sound l vs (cs.take off ++ (x.cells ++ cs.drop (off + n))) _ cs' ?_ ?_ hf (by simpa using hl) (fun i o m y hi => by simpa using hp (i + 1) o m y (by simpa using hi))
    · rw [← Array.foldl_toList, size_foldl_set, hs]
      simp [hn]; omega
    · intro j c hj
      have hfs := foldl_set v.cells.toList 0 off us (by simp [hsz]; omega) j
      have hz : v.cells.zipIdx.foldl (fun cs (c, j) => cs.setIfInBounds (off + j) c) us = (v.cells.toList.zipIdx 0).foldl (fun cs (c, j) => cs.setIfInBounds (off + j) c) us := by
        rw [← Array.foldl_toList, Array.toList_zipIdx]
      rw [hz, hfs]
      simp only [Nat.add_zero, Array.length_toList, hsz]
      by_cases h1 : off ≤ j ∧ j < off + n
      · rw [if_pos h1, Array.getElem?_toList]
        rw [List.getElem?_append_right (by simp; omega), List.getElem?_append_left (by simp [hn]; omega)] at hj
        simp only [List.length_take, Nat.min_eq_left (show off ≤ cs.length by omega)] at hj
        exact c2 _ c hj
      · rw [if_neg h1]
        by_cases h2 : j < off
        · rw [List.getElem?_append_left (by simp; omega), List.getElem?_take, if_pos h2] at hj
          exact hr j c hj
        · rw [List.getElem?_append_right (by simp; omega), List.getElem?_append_right (by simp [hn]; omega), List.getElem?_drop] at hj
          simp only [List.length_take, Nat.min_eq_left (show off ≤ cs.length by omega), hn] at hj
          rw [show off + n + (j - off - n) = j by omega] at hj
          exact hr j c hj
theorem partsAV_sound {T : TypeId} {fs : Array Field} (hu : P.underlying T = some (.struct fs)) : ∀ (ps : List (Nat × Operand)) (l : List (Nat × Nat × AV)), partsAV P s T ps = some l →
    l.length = ps.length ∧ ∀ (i : Nat) off n x, l[i]? = some (off, n, x) → ∃ f y fd, ps[i]? = some (f, y) ∧ fs[f]? = some fd ∧ fd.offset = off ∧ szT P fd.type = some n ∧ x = s.ev y
  | [], l, h => by cases h; exact ⟨rfl, fun i off n x h => by simp at h⟩
  | (f, y) :: ps, l, h => by
    simp only [partsAV] at h
    obtain ⟨⟨off, U⟩, h1, h⟩ := Option.bind_eq_some_iff.1 h
    obtain ⟨n, h2, h⟩ := Option.bind_eq_some_iff.1 h
    obtain ⟨l', h3, h⟩ := Option.bind_eq_some_iff.1 h
    cases h
    obtain ⟨e1, e2⟩ := partsAV_sound hu ps l' h3
    refine ⟨by simp [e1], fun i o m x hi => ?_⟩
    cases i with
    | zero =>
      simp at hi
      obtain ⟨rfl, rfl, rfl⟩ := hi
      simp only [fieldOf, hu] at h1
      obtain ⟨fd, hfd, he⟩ := Option.map_eq_some_iff.1 h1
      cases he
      exact ⟨f, y, fd, rfl, hfd, rfl, h2, rfl⟩
    | succ i => simpa using e2 i o m x (by simpa using hi)
theorem oneV_eq (v : Value) : oneV v = v.oneCell' := by cases v <;> rfl
theorem zero_rep {T : TypeId} {z : List AV} (hz : zeroCells P T = some z) : Runs P w (zeroValue T) (fun v => v.cells.size = z.length ∧ ∀ (j : Nat) c, z[j]? = some c → ∃ u, v.cells[j]? = some u ∧ c = .v u ∧ u.oneCell' = true) := by
  unfold zeroCells at hz
  obtain ⟨v, hv, hz⟩ := Option.bind_eq_some_iff.1 hz
  obtain ⟨i, hi, hv⟩ := Option.bind_eq_some_iff.1 hv
  cases hc : v.cells.toList.all oneV <;> rw [hc] at hz <;> cases hz
  refine ⟨v, by simp [zeroValue, typeInfo, hi, hv], by simp, fun j c hj => ?_⟩
  rw [List.getElem?_map] at hj
  obtain ⟨u, hu, rfl⟩ := Option.map_eq_some_iff.1 hj
  have := List.all_eq_true.1 hc u (List.mem_of_getElem? hu)
  rw [Array.getElem?_toList] at hu
  exact ⟨u, hu, rfl, by rw [← oneV_eq]; exact this⟩
theorem build_sound {T : TypeId} {ps : Array (Nat × Operand)} {z cs : List AV} {l : List (Nat × Nat × AV)} (hz : zeroCells P T = some z) (hf : fieldsOk P T = true) (hl : partsAV P s T ps.toList = some l) (hcs : fillAV z l = some cs)
    (hk : ∀ i x, (i, x) ∈ ps.toList → RepS P g w (s.ev x) (a.eval x)) : Runs P w (Instr.build T (ps.map fun (i, x) => (i, a.eval x))) (RepS P g w (.agg cs)) := by
  unfold fieldsOk at hf
  split at hf
  · rename_i fs hu
    obtain ⟨l1, l2⟩ := partsAV_sound hu _ _ hl
    simp only [Instr.build]
    refine (zero_rep hz).bind fun v hv => ?_
    refine (runs_underlying hu).bind fun d hd => ?_
    subst hd
    dsimp only
    rw [Array.mapM_eq_mapM_toList]
    have hm := runs_mapM (P := P) (w := w) (f := fun f : Field => (do pure (f.offset, ← sizeOf f.type) : Sem (Nat × Nat))) (q := fun f y => ∃ n, szT P f.type = some n ∧ y = (f.offset, n)) fs.toList (fun f hf' => by
      have := List.all_eq_true.1 hf f hf'
      obtain ⟨n, hn⟩ := Option.isSome_iff_exists.1 this
      exact (runs_sizeOf hn).bind fun m hm => runs_pure ⟨n, hn, by rw [hm]⟩)
    obtain ⟨r, hr1, hr2, hr3⟩ := hm
    obtain ⟨us', f1, f2, f3⟩ := fill_sound (place := (r.toArray[·]?)) l (ps.map fun (i, x) => (i, a.eval x)).toList z v.cells cs hv.1 (fun j c hj => by
      obtain ⟨u, h1, rfl, h3⟩ := hv.2 j c hj
      exact ⟨u, h1, rfl, h3⟩) hcs (by simp [l1]) (fun i off n x hi => by
      obtain ⟨f, y, fd, h1, h2, h3, h4, h5⟩ := l2 i off n x hi
      refine ⟨f, a.eval y, by simp at h1 ⊢; exact ⟨_, _, h1, rfl, rfl⟩, ?_, ?_⟩
      · obtain ⟨yy, e1, n', e2, e3⟩ := hr3 f fd (by simpa using h2)
        rw [h4] at e2
        cases e2
        show r.toArray[f]? = _
        rw [List.getElem?_toArray, e1, e3, h3]
      · rw [h5]; exact hk f y (List.mem_of_getElem? h1))
    refine ⟨.agg us', ?_, us', rfl, f2, f3⟩
    have hr1' : ((List.mapM (fun f : Field => (do let n ← sizeOf f.type; pure (f.offset, n) : Sem (Nat × Nat))) fs.toList).run P w) = .ok r w := hr1
    simp only [Sem.run_bind, Sem.run_map, hr1', Result.andThen_ok]
    rw [f1]
    rfl
  · cases hf
theorem rhs_sound (h : Inv P F g s a w) {o : Oper} (hr : reads P o.op = true) (hok : okOp o = true) {x : AV} (hx : rhs P o s = some x) : Tells P w (execOp a.eval o) (RepS P g w x) := by
  have hk := fun (y : Operand) (hy : y ∈ o.op.operands.toList) => h.ev y (okOp_mem hok hy)
  obtain ⟨dst, op, ty, pos, after, guard⟩ := o
  unfold rhs at hx
  unfold execOp
  cases op <;> dsimp only at hx ⊢ <;> simp only [reads] at hr <;> first | cases hr; done | skip
  case move y =>
    cases hx
    exact ⟨_, rfl, hk y (by simp [Op.operands])⟩
  case load T y =>
    obtain ⟨cs, hcs, hp⟩ := Option.bind_eq_some_iff.1 hx
    obtain ⟨β, off, hv, hc⟩ := cellsOf_sound h (hk y (by simp [Op.operands])) hcs
    refine Runs.tells ?_
    show Runs P w (do loadVar T (← Instr.sureAddr (a.eval y))) _
    rw [hv]
    exact (runs_pure (Q := (· = (⟨β, off, none⟩ : Addr))) rfl).bind fun ad he => he ▸ loadVar_sound hc hp
  case pick c y z =>
    have hc := hk c (by simp [Op.operands])
    have hy := hk y (by simp [Op.operands])
    have hz := hk z (by simp [Op.operands])
    cases hcv : s.ev c <;> rw [hcv] at hx hc <;> first | cases hx; done | skip
    rename_i cv
    cases cv <;> first | cases hx; done | skip
    rename_i b
    obtain ⟨he, _⟩ := hc
    refine ⟨if b then a.eval y else a.eval z, by simp [he, asBool], ?_⟩
    cases b
    · simp only [Bool.false_eq_true, if_false, cond_false] at hx ⊢
      split at hx
      · rename_i e1 e2; cases hx; rw [e2] at hz; exact hz
      · cases hx; exact hz
    · simp only [if_true, cond_true] at hx ⊢
      split at hx
      · rename_i e1 e2; cases hx; rw [e1] at hy; exact hy
      · cases hx; exact hy
  case nilCheck y =>
    have hy := hk y (by simp [Op.operands])
    cases hyv : s.ev y <;> rw [hyv] at hx hy <;> first | cases hx; done | skip
    · rename_i d off
      cases hx
      obtain ⟨β, hb, he⟩ := (show RepC P g w (.box d off) (a.eval y) from hy)
      exact ⟨_, by simp [he], ⟨β, hb, rfl⟩⟩
    · rename_i cs
      cases hx
      obtain ⟨β, o, he, hc⟩ := (show RepC P g w (.ro cs) (a.eval y) from hy)
      exact ⟨_, by simp [he], ⟨β, o, rfl, hc⟩⟩
  case binOp op T y z U =>
    have hy := hk y (by simp [Op.operands])
    have hz := hk z (by simp [Op.operands])
    cases hyv : s.ev y <;> rw [hyv] at hx hy <;> first | cases hx; done | skip
    cases hzv : s.ev z <;> rw [hzv] at hx hz <;> first | cases hx; done | skip
    rename_i av bv
    try dsimp only at hx
    cases hbo : boolOk P T z av <;> rw [hbo] at hx
    · cases hx
    obtain ⟨r, hp, rfl⟩ := Option.map_eq_some_iff.1 hx
    obtain ⟨ey, _⟩ := (show a.eval y = av ∧ _ from hy)
    obtain ⟨ez, _⟩ := (show a.eval z = bv ∧ _ from hz)
    refine Runs.tells ?_
    rw [ey, ez]
    exact binOp_sound T hbo hp
  case unOp op T y =>
    have hy := hk y (by simp [Op.operands])
    cases hyv : s.ev y <;> rw [hyv] at hx hy <;> first | cases hx; done | skip
    rename_i av
    obtain ⟨r, hp, rfl⟩ := Option.map_eq_some_iff.1 hx
    obtain ⟨ey, _⟩ := (show a.eval y = av ∧ _ from hy)
    refine Runs.tells ?_
    rw [ey]
    cases op <;> cases av <;> simp only [unOpV] at hp <;> first | cases hp; done | skip
    all_goals (cases hp; refine ⟨_, ?_, ⟨rfl, rfl⟩⟩; simp [Op.unary, Op.intArith])
  case extract y i =>
    have hy := hk y (by simp [Op.operands])
    cases hyv : s.ev y <;> rw [hyv] at hx hy <;> first | cases hx; done | skip
    rename_i vs
    obtain ⟨us, e1, e2, e3⟩ := hy
    obtain ⟨c, hcx, hx⟩ := Option.bind_eq_some_iff.1 hx
    cases hf : c.noTup <;> rw [hf] at hx <;> cases hx
    obtain ⟨u, hu, hr⟩ := e3 i _ hcx
    refine Runs.tells ⟨u, ?_, hr.S⟩
    rw [e1]
    simp [Instr.extract, hu]
  case index T y i =>
    have hy := hk y (by simp [Op.operands])
    have hi := hk i (by simp [Op.operands])
    try dsimp only at hx
    cases hyv : s.ev y <;> rw [hyv] at hx hy <;> first | cases hx; done | skip
    rename_i yv
    cases yv <;> first | cases hx; done | skip
    rename_i str
    cases hiv : s.ev i <;> rw [hiv] at hx hi <;> first | cases hx; done | skip
    rename_i iv
    cases iv <;> first | cases hx; done | skip
    rename_i k n
    try dsimp only at hx
    cases hc : (strT P T && decide (0 ≤ n) && decide (n < str.size)) <;> rw [hc] at hx
    · cases hx
    · cases hx
      simp only [Bool.and_eq_true, decide_eq_true_eq] at hc
      obtain ⟨ey, _⟩ := (show a.eval y = .string str ∧ _ from hy)
      obtain ⟨ei, _⟩ := (show a.eval i = .int k n ∧ _ from hi)
      refine Runs.tells ?_
      rw [ey, ei]
      exact index_sound (strT_eq hc.1.1) hc.1.2 hc.2
  case fieldAddr T y f =>
    have hy := hk y (by simp [Op.operands])
    obtain ⟨⟨off, U⟩, hf, hx⟩ := Option.bind_eq_some_iff.1 hx
    obtain ⟨n, hn, hx⟩ := Option.bind_eq_some_iff.1 hx
    try dsimp only at hx
    cases h0 : (n == 0) <;> rw [h0] at hx
    · simp only [cond_false] at hx
      have hn0 : n ≠ 0 := by simpa using h0
      cases hyv : s.ev y <;> rw [hyv] at hx hy <;> first | cases hx; done | skip
      · rename_i d o
        cases hx
        obtain ⟨β, hb, he⟩ := (show RepC P g w (.box d o) (a.eval y) from hy)
        rw [he]
        exact ((fieldAt_sound hf hn hn0).bind fun v hv => runs_pure (Q := RepS P g w (.box d (o + off))) (by rw [hv]; exact ⟨β, hb, rfl⟩)).tells'
      · rename_i cs
        cases hx
        obtain ⟨β, o, he, hc⟩ := (show RepC P g w (.ro cs) (a.eval y) from hy)
        rw [he]
        refine ((fieldAt_sound hf hn hn0).bind fun v hv => runs_pure (Q := RepS P g w (.ro (cs.drop off))) ?_).tells'
        rw [hv]
        refine ⟨β, o + off, rfl, fun j c hj => ?_⟩
        rw [List.getElem?_drop] at hj
        obtain ⟨u, h1, h2, h3⟩ := hc _ c hj
        exact ⟨u, by rw [← h1]; congr 2; omega, by rw [show o + off + j = o + (off + j) by omega]; exact h2, h3⟩
    · cases hx
  case field T y f =>
    have hy := hk y (by simp [Op.operands])
    obtain ⟨⟨off, U⟩, hf, hx⟩ := Option.bind_eq_some_iff.1 hx
    try dsimp only at hx
    cases hyv : s.ev y <;> rw [hyv] at hx hy <;> first | cases hx; done | skip
    rename_i cs
    obtain ⟨vs, e1, e2, e3⟩ := hy
    refine Runs.tells ?_
    rw [e1]
    exact field_sound hf e2 e3 hx
  case indexAddr T y i =>
    have hy := hk y (by simp [Op.operands])
    have hi := hk i (by simp [Op.operands])
    try dsimp only at hx
    cases hyv : s.ev y <;> rw [hyv] at hx hy <;> first | cases hx; done | skip
    cases hiv : s.ev i <;> rw [hiv] at hx hi <;> first | cases hx; done | skip
    rename_i t E l iv
    cases iv <;> first | cases hx; done | skip
    rename_i k n
    try dsimp only at hx
    cases hE : (elemT P T == some E) <;> rw [hE] at hx
    · cases hx
    simp only [cond_true] at hx
    obtain ⟨ks, hks, hx⟩ := Option.bind_eq_some_iff.1 hx
    cases hz : (szT P E == some ks.length) <;> rw [hz] at hx
    · cases hx
    simp only [cond_true] at hx
    obtain ⟨d, hd, hx⟩ := Option.bind_eq_some_iff.1 hx
    cases hx
    obtain ⟨ei, _⟩ := (show a.eval i = .int k n ∧ _ from hi)
    obtain ⟨hrow, _⟩ := (show RepC P g w (.row t E l) (a.eval y) from hy)
    refine Runs.tells ?_
    rw [ei]
    exact indexAt_sound (elemT_eq (by simpa using hE)) hks (by simpa using hz) hrow hd
  case slice T y lo hi mx =>
    cases mx <;> first | cases hx; done | skip
    have hy := hk y (by simp [Op.operands])
    dsimp only at hx
    cases hyv : s.ev y <;> rw [hyv] at hx hy <;> first | cases hx; done | skip
    · rename_i yv
      cases yv <;> first | cases hx; done | skip
      rename_i str
      obtain ⟨hh, ehh, hx⟩ := Option.bind_eq_some_iff.1 hx
      obtain ⟨ll, ell, hx⟩ := Option.bind_eq_some_iff.1 hx
      cases hc : (strT P T && decide (0 ≤ hh) && decide (hh ≤ str.size) && decide (0 ≤ ll) && decide (ll ≤ hh)) <;> rw [hc] at hx
      · cases hx
      · cases hx
        simp only [Bool.and_eq_true, decide_eq_true_eq] at hc
        obtain ⟨ey, _⟩ := (show a.eval y = .string str ∧ _ from hy)
        refine Runs.tells ?_
        rw [ey]
        show Runs P w (Instr.sliceAt T (.string str) (lo.map a.eval) (hi.map a.eval) none) _
        have hu := strT_eq hc.1.1.1.1
        simp only [Instr.sliceAt, Instr.slice]
        refine (runs_underlying hu).bind fun d hd => ?_
        subst hd
        refine (runs_underlying hu).bind fun d hd => ?_
        subst hd
        refine (runs_bounds (isSlice := false) (len := str.size) (cap := str.size) (bound_sound h (fun y hy => hk y (by simp [Op.operands, hy])) ehh) (bound_sound h (fun y hy => hk y (by simp [Op.operands, hy])) ell) hc.1.1.1.2 hc.1.1.2 hc.1.2 hc.2).bind fun r hr => ?_
        subst hr
        exact runs_pure ⟨rfl, rfl⟩
    · rename_i t E l
      obtain ⟨hh, ehh, hx⟩ := Option.bind_eq_some_iff.1 hx
      obtain ⟨ll, ell, hx⟩ := Option.bind_eq_some_iff.1 hx
      obtain ⟨ks, hks, hx⟩ := Option.bind_eq_some_iff.1 hx
      cases hc : (elemT P T == some E && szT P E == some ks.length && decide (0 ≤ hh) && decide (hh ≤ l.length) && decide (0 ≤ ll) && decide (ll ≤ hh)) <;> rw [hc] at hx
      · cases hx
      · cases hx
        simp only [Bool.and_eq_true, decide_eq_true_eq] at hc
        obtain ⟨hrow, _⟩ := (show RepC P g w (.row t E l) (a.eval y) from hy)
        refine Runs.tells ?_
        show Runs P w (Instr.sliceAt T (a.eval y) (lo.map a.eval) (hi.map a.eval) none) _
        have hu := elemT_eq (T := T) (E := E) (P := P) (by simpa using hc.1.1.1.1.1)
        exact sliceRow_sound hks (by simpa using hc.1.1.1.1.2) hu hrow (bound_sound h (fun y hy => hk y (by simp [Op.operands, hy])) ehh) (bound_sound h (fun y hy => hk y (by simp [Op.operands, hy])) ell) hc.1.1.1.2 hc.1.1.2 hc.1.2 hc.2
  case makeInterface T y =>
    have hy := hk y (by simp [Op.operands])
    cases hu : P.underlying T with
    | none => rw [hu] at hx; cases hx
    | some d =>
      rw [hu] at hx
      have hd : ∀ ms, d ≠ .interface ms := fun ms e => by subst e; cases hx
      have hx' : (match s.ev y with
        | .v a => some (AV.v (.iface T a))
        | .agg cs => (plainL cs).bind fun l => some (.v (.iface T (.agg l.toArray)))
        | _ => none) = some x := by
        cases d <;> first | exact hx | exact absurd rfl (hd _)
      have key : ∀ v, Runs P w (Instr.makeInterface T v) (· = .iface T v) := fun v => by
        simp only [Instr.makeInterface]
        refine (runs_underlying hu).bind fun d' hd' => ?_
        subst hd'
        split
        · exact absurd rfl (hd _)
        · exact runs_pure rfl
      cases hyv : s.ev y <;> rw [hyv] at hx' hy <;> first | cases hx'; done | skip
      · cases hx'
        obtain ⟨ey, _⟩ := hy
        refine Runs.tells ?_
        obtain ⟨v, hv, rfl⟩ := key (a.eval y)
        exact ⟨_, hv, by rw [ey]; exact ⟨rfl, rfl⟩⟩
      · rename_i cs
        obtain ⟨l, hl, hx'⟩ := Option.bind_eq_some_iff.1 hx'
        cases hx'
        obtain ⟨vs, e1, e2, e3⟩ := hy
        refine Runs.tells ?_
        obtain ⟨v, hv, rfl⟩ := key (a.eval y)
        refine ⟨_, hv, ?_⟩
        rw [e1, plainL_sound hl e2 e3]
        exact ⟨rfl, rfl⟩
  case convert src dst y =>
    have hy := hk y (by simp [Op.operands])
    try dsimp only at hx
    refine Runs.tells ?_
    cases hyv : s.ev y <;> rw [hyv] at hx hy <;> first | cases hx; done | skip
    · rename_i yv
      obtain ⟨r, hp, rfl⟩ := Option.map_eq_some_iff.1 hx
      obtain ⟨ey, _⟩ := (show a.eval y = yv ∧ _ from hy)
      rw [ey]
      exact convV_sound hp
    · rename_i t E l
      obtain ⟨hrow, _⟩ := (show RepC P g w (.row t E l) (a.eval y) from hy)
      exact convRow_sound hrow hx
  case build T ps =>
    obtain ⟨z, hz, hx⟩ := Option.bind_eq_some_iff.1 hx
    cases hf : fieldsOk P T <;> rw [hf] at hx
    · cases hx
    simp only [cond_true] at hx
    obtain ⟨l, hl, hx⟩ := Option.bind_eq_some_iff.1 hx
    obtain ⟨cs, hcs, hx⟩ := Option.bind_eq_some_iff.1 hx
    cases hx
    refine Runs.tells ?_
    exact build_sound hz hf hl hcs (fun i x hx => hk x (by simp [Op.operands]; exact ⟨_, by simpa using hx⟩))
  case call c =>
    obtain ⟨callee, args, Ts⟩ := c
    cases callee <;> first | cases hr; done | skip
    rename_i b
    cases b <;> first | cases hr; done | skip
    dsimp only at hx
    obtain ⟨args⟩ := args
    cases args with
    | nil => cases hx
    | cons y r =>
      cases r with
      | cons z r => cases hx
      | nil =>
        have hy := hk y (by simp [Op.operands, Call.operands])
        cases hT : Ts[0]? with
        | none => rw [hT] at hx; cases hx
        | some T =>
          rw [hT] at hx
          dsimp only at hx
          have hrun : ∀ v : Value, Runs P w (Builtin.len_ Ts ty #[a.eval y]) (RepS P g w x) → Tells P w (do let d ← resolve a.eval { callee := .builtin .len, args := #[y], argTypes := Ts } ty; invoke d.target d.args) (RepS P g w x) := fun _ hv => by
            obtain ⟨v, h1, h2⟩ := hv
            exact ⟨v, by simp [resolve, invoke, builtin, h1], h2⟩
          refine hrun undef ?_
          split at hx
          · rename_i t E' l hyv
            rw [hyv] at hy
            obtain ⟨hrow, _⟩ := (show RepC P g w (.row t E' l) (a.eval y) from hy)
            obtain ⟨A, cap, hv⟩ := hrow.slice
            cases hE : elemT P T with
            | none => rw [hE] at hx; cases hx
            | some E =>
              rw [hE] at hx
              cases hx
              rw [hv]
              exact ⟨_, by simp [Builtin.len_, hT, run_underlying (elemT_eq hE), goInt], ⟨rfl, rfl⟩⟩
          · rename_i str hyv
            rw [hyv] at hy
            obtain ⟨ey, _⟩ := (show a.eval y = .string str ∧ _ from hy)
            cases hs : strT P T <;> rw [hs] at hx <;> cases hx
            rw [ey]
            exact ⟨_, by simp [Builtin.len_, hT, run_underlying (strT_eq hs), goInt], ⟨rfl, rfl⟩⟩
          · rename_i hyv
            rw [hyv] at hy
            obtain ⟨ey, _⟩ := (show a.eval y = .slice none 0 0 ∧ _ from hy)
            cases hE : elemT P T with
            | none => rw [hE] at hx; cases hx
            | some E =>
              rw [hE] at hx
              cases hx
              rw [ey]
              exact ⟨_, by simp [Builtin.len_, hT, run_underlying (elemT_eq hE), goInt], ⟨rfl, rfl⟩⟩
          · cases hx
end
end Go.Proofs.YtckdgcpomkefpaaGreatDoor.En
