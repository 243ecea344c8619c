/- Part 1 of a proof: what it needs of the program's functions as plain Lean functions, with the proof that the machine's calls come to them, and of plain laws; put together out of smaller texts. No conditions besides those that each statement names. -/
import Derived.Laws.Cells
import Derived.Lib.AppendStr
import Derived.Lib.BytesEntry
import Derived.Test.YtckdgcpomkefpaaGreatDoorLa0
import Derived.WalkLawsBesides
import Derived.WalkSpells
section
set_option linter.unusedVariables false
set_option linter.unusedSimpArgs false
namespace Go.Proofs.YtckdgcpomkefpaaGreatDoor.En
open Go
section
variable {P : Program} {F : Fx} {g : Gh} {s : St} {a : Act} {w : World}
def Tells (P : Program) (w : World) (m : Sem Next) (Q : Value → Prop) : Prop := ∃ v, m.run P w = .ok (.value v) w ∧ Q v
def Runs {α : Type} (P : Program) (w : World) (m : Sem α) (Q : α → Prop) : Prop := ∃ v, m.run P w = .ok v w ∧ Q v
theorem Runs.tells {m : Sem Value} {Q : Value → Prop} (h : Runs P w m Q) : Tells P w (do pure (.value (← m))) Q := by
  obtain ⟨v, h1, h2⟩ := h
  exact ⟨v, by simp [h1], h2⟩
theorem Runs.bind {α β : Type} {m : Sem α} {k : α → Sem β} {Q : α → Prop} {R : β → Prop} (h : Runs P w m Q) (hk : ∀ x, Q x → Runs P w (k x) R) : Runs P w (m >>= k) R := by
  obtain ⟨v, h1, h2⟩ := h
  obtain ⟨u, h3, h4⟩ := hk v h2
  exact ⟨u, by simp [h1, h3], h4⟩
theorem runs_pure {α : Type} {x : α} {Q : α → Prop} (h : Q x) : Runs P w (pure x) Q := ⟨x, by simp, h⟩
theorem runs_underlying {T : TypeId} {d : TypeDesc} (h : P.underlying T = some d) : Runs P w (underlying T) (· = d) := ⟨d, run_underlying h w, rfl⟩
theorem runs_sizeOf {T : TypeId} {n : Nat} (h : szT P T = some n) : Runs P w (sizeOf T) (· = n) := by
  unfold szT at h
  obtain ⟨i, hi, rfl⟩ := Option.map_eq_some_iff.1 h
  exact ⟨i.size, by simp [sizeOf, typeInfo, hi], rfl⟩
theorem runs_isAgg {T : TypeId} {b : Bool} (h : aggT P T = some b) : Runs P w (isAgg T) (· = b) := by
  unfold aggT at h
  obtain ⟨d, hd, rfl⟩ := Option.map_eq_some_iff.1 h
  refine ⟨aggD d, ?_, rfl⟩
  simp only [isAgg, Sem.run_bind, run_underlying hd, Result.andThen_ok]
  cases d <;> simp [aggD]
theorem add_lit (β off j : Nat) : (⟨β, off, none⟩ : Addr).add j = ⟨β, off + j, none⟩ := by
  unfold Addr.add; split <;> simp_all
theorem runs_loadCells {β off : Nat} {n : Nat} {cs : List AV} (hn : n ≤ cs.length) (hc : ∀ (j : Nat) c, cs[j]? = some c → ∃ u, w.cell? ⟨β, off + j, none⟩ = some u ∧ RepC P g w c u) :
    Runs P w (loadCells ⟨β, off, none⟩ n) (fun vs => vs.size = n ∧ ∀ (j : Nat) c, (cs.take n)[j]? = some c → ∃ u, vs[j]? = some u ∧ RepC P g w c u) := by
  refine ⟨_, run_loadCells w ⟨β, off, none⟩ n (fun j => (w.cell? ⟨β, off + j, none⟩).getD undef) (fun j hj => ?_), by simp, fun j c hj => ?_⟩
  · obtain ⟨u, hu, _⟩ := hc j cs[j] (List.getElem?_eq_getElem (by omega))
    rw [add_lit, hu]; rfl
  · rw [List.getElem?_take] at hj
    split at hj
    · rename_i hlt
      obtain ⟨u, hu, hr⟩ := hc j c hj
      exact ⟨u, by simp [hlt, hu], hr⟩
    · cases hj
theorem loadVar_sound {β off : Nat} {T : TypeId} {cs : List AV} {x : AV} (hc : ∀ (j : Nat) c, cs[j]? = some c → ∃ u, w.cell? ⟨β, off + j, none⟩ = some u ∧ RepC P g w c u) (h : partAV P T cs 0 = some x) :
    Runs P w (loadVar T ⟨β, off, none⟩) (RepS P g w x) := by
  unfold partAV at h
  obtain ⟨ag, hag, h⟩ := Option.bind_eq_some_iff.1 h
  refine (runs_isAgg hag).bind fun b hb => ?_
  rw [hb]
  clear hb
  cases ag with
  | false =>
    simp only [cond_false] at h
    obtain ⟨c, hcx, h⟩ := Option.bind_eq_some_iff.1 h
    cases hf : c.flat <;> rw [hf] at h <;> cases h
    obtain ⟨u, hu, hr⟩ := hc 0 _ hcx
    exact ⟨u, by simp [show w.cell? ⟨β, off, none⟩ = some u from hu], hr.S⟩
  | true =>
    simp only [cond_true] at h
    obtain ⟨n, hn, h⟩ := Option.bind_eq_some_iff.1 h
    simp only [Nat.zero_add, List.drop_zero] at h
    cases hle : Nat.ble n cs.length <;> rw [hle] at h
    · cases h
    · cases h
      rw [if_pos rfl]
      refine (runs_sizeOf hn).bind fun k hk => ?_
      rw [hk]
      have hle' := Nat.le_of_ble_eq_true hle
      refine (runs_loadCells hle' hc).bind fun vs hv => ?_
      exact runs_pure ⟨vs, rfl, by rw [hv.1, List.length_take, Nat.min_eq_left hle'], hv.2⟩
theorem cellsOf_sound (h : Inv P F g s a w) {x : AV} {cs : List AV} {v : Value} (hx : RepS P g w x v) (hcs : s.cellsOf x = some cs) :
    ∃ β off, v = .pointer (some ⟨β, off, none⟩) ∧ ∀ (j : Nat) c, cs[j]? = some c → ∃ u, w.cell? ⟨β, off + j, none⟩ = some u ∧ RepC P g w c u := by
  cases x <;> simp only [St.cellsOf] at hcs <;> first | cases hcs; done | skip
  case box d off =>
    obtain ⟨β, hb, rfl⟩ := (show RepC P g w (.box d off) v from hx)
    obtain ⟨cs0, h0, rfl⟩ := Option.map_eq_some_iff.1 hcs
    have h0' : s.b[d]? = some (some cs0) := by
      unfold St.boxAt at h0
      rw [List.getD_eq_getElem?_getD] at h0
      cases hq : s.b[d]? with
      | none => rw [hq] at h0; cases h0
      | some o => rw [hq] at h0; exact congrArg some h0
    obtain ⟨β', us, T, e1, e2, e3, e4, e5⟩ := h.mem.box d cs0 h0'
    rw [hb] at e1
    cases e1
    refine ⟨β, off, rfl, fun j c hj => ?_⟩
    rw [List.getElem?_map, List.getElem?_drop] at hj
    obtain ⟨c0, hc0, rfl⟩ := Option.map_eq_some_iff.1 hj
    obtain ⟨u, hu, hr⟩ := e5 _ _ hc0
    refine ⟨u, by simp [World.cell?, e2, hu], ?_⟩
    by_cases hs : ∃ T', c0 = .self T'
    · obtain ⟨T', rfl⟩ := hs
      obtain ⟨rfl, hr⟩ := hr
      rcases hr with rfl | rfl <;> rfl
    · rw [RepB.eq (fun T' e => hs ⟨T', e⟩)] at hr
      cases c0 <;> first | exact hr | exact absurd ⟨_, rfl⟩ hs
  case ro cs0 =>
    cases hcs
    obtain ⟨β, o, rfl, hc⟩ := (show RepC P g w (.ro cs0) v from hx)
    refine ⟨β, o, rfl, fun j c' hj => ?_⟩
    rw [List.getElem?_map] at hj
    obtain ⟨c, hj0, rfl⟩ := Option.map_eq_some_iff.1 hj
    obtain ⟨u, h1, h2, h3⟩ := hc j c hj0
    refine ⟨u, h1, ?_⟩
    cases c <;> simp only [Rep0] at h3 <;> first | exact h3 | (obtain ⟨rfl, h3⟩ := h3; exact ⟨h3, fun n hn => by cases hn⟩)
def okOp (o : Oper) : Bool := o.op.operands.toList.all okO
theorem okOp_mem {o : Oper} (h : okOp o = true) {x : Operand} (hx : x ∈ o.op.operands.toList) : okO x = true := List.all_eq_true.1 h x hx
theorem eqGuard_int {op : BinOp} {x y : Operand} (T : TypeId) {k k' : IntKind} {p q : Int} : (eqGuard op T x y (.int k p) (.int k' q)).run P w = .ok () w := by
  cases op <;> rfl
theorem eqGuard_str {op : BinOp} {x y : Operand} (T : TypeId) {p q : ByteArray} : (eqGuard op T x y (.string p) (.string q)).run P w = .ok () w := by
  cases op <;> rfl
theorem eqGuard_bool {op : BinOp} {x y : Operand} (T : TypeId) {p q : Bool} : (eqGuard op T x y (.bool p) (.bool q)).run P w = .ok () w := by
  cases op <;> rfl
theorem equalIn_bool {T : TypeId} (hu : P.underlying T = some .bool) {p q : Bool} (n : Nat) : (Op.equalIn (n + 1) T (.bool p) (.bool q)).run P w = .ok (p == q) w := by
  simp only [Op.equalIn, Sem.run_bind, run_underlying hu, Result.andThen_ok, Sem.run_pure]
theorem equal_bool {T : TypeId} (hu : P.underlying T = some .bool) {p q : Bool} : (Op.equal T (.bool p) (.bool q)).run P w = .ok (p == q) w := equalIn_bool hu 9999
theorem equalIn_nil {T : TypeId} {ms : _} (hu : P.underlying T = some (.interface ms)) (n : Nat) : (Op.equalIn (n + 1) T .nilIface .nilIface).run P w = .ok true w := by
  simp only [Op.equalIn, Sem.run_bind, run_underlying hu, Result.andThen_ok, Sem.run_pure]
theorem equalIn_iface {T tx : TypeId} {vx : Value} {ms : _} (hu : P.underlying T = some (.interface ms)) (n : Nat) : (Op.equalIn (n + 1) T (.iface tx vx) .nilIface).run P w = .ok false w := by
  simp only [Op.equalIn, Sem.run_bind, run_underlying hu, Result.andThen_ok, Sem.run_pure]
theorem ifaceT_eq {T : TypeId} (h : ifaceT P T = true) : ∃ ms, P.underlying T = some (.interface ms) := by
  unfold ifaceT at h
  split at h
  · rename_i ms e; exact ⟨ms, e⟩
  · cases h
theorem constO_eq {y : Operand} (h : constO y = true) : ∃ c, y = .const c := by
  cases y <;> first | exact ⟨_, rfl⟩ | cases h
theorem binOp_sound {op : BinOp} {x y : Operand} (T : TypeId) {p q r : Value} (hT : boolOk P T y p = true) (h : pureOp op p q = some r) : Runs P w (do eqGuard op T x y p q; binOp op T p q) (RepS P g w (.v r)) := by
  unfold pureOp at h
  cases p <;> cases q <;> simp only at h <;> first | cases h; done | skip
  case bool.bool p q =>
    have hu : P.underlying T = some .bool := by
      simp only [boolOk] at hT
      split at hT
      · assumption
      · cases hT
    cases op <;> first | cases h; done | skip
    all_goals (cases h; refine ⟨_, ?_, ⟨rfl, rfl⟩⟩)
    · simp only [Sem.run_bind, eqGuard_bool, Result.andThen_ok, binOp, equal_bool hu, Sem.run_pure]
    · simp only [Sem.run_bind, eqGuard_bool, Result.andThen_ok, binOp, equal_bool hu, Sem.run_pure]
  case nilIface.nilIface =>
    simp only [boolOk, Bool.and_eq_true] at hT
    obtain ⟨ms, hu⟩ := ifaceT_eq hT.1
    obtain ⟨c, rfl⟩ := constO_eq hT.2
    have hg : (eqGuard op T x (.const c) .nilIface .nilIface).run P w = .ok () w := by
      cases op <;> simp [eqGuard]
    have he : (Op.equal T .nilIface .nilIface).run P w = .ok true w := equalIn_nil hu 9999
    cases op <;> first | cases h; done | skip
    all_goals (cases h; refine ⟨_, ?_, ⟨rfl, rfl⟩⟩)
    all_goals (simp only [Sem.run_bind, hg, Result.andThen_ok, binOp, he, Sem.run_pure]; try rfl)
  case iface.nilIface tx vx =>
    simp only [boolOk] at hT
    obtain ⟨ms, hu⟩ := ifaceT_eq hT
    have hg : (eqGuard op T x y (.iface tx vx) .nilIface).run P w = .ok () w := by
      cases op <;> rfl
    have he : (Op.equal T (.iface tx vx) .nilIface).run P w = .ok false w := equalIn_iface hu 9999
    cases op <;> first | cases h; done | skip
    all_goals (cases h; refine ⟨_, ?_, ⟨rfl, rfl⟩⟩)
    all_goals (simp only [Sem.run_bind, hg, Result.andThen_ok, binOp, he, Sem.run_pure]; try rfl)
  case int.int k p k' q =>
    by_cases hk : k = k'
    · subst hk
      cases op <;> simp only [if_true] at h <;> first | cases h; done | skip
      case shl =>
        cases hd : decide (q < 0) <;> rw [hd] at h <;> cases h
        have : ¬ q < 0 := of_decide_eq_false hd
        exact ⟨_, by simp [eqGuard_int, binOp, Op.shift, this], ⟨rfl, rfl⟩⟩
      case shr =>
        cases hd : decide (q < 0) <;> rw [hd] at h <;> cases h
        have : ¬ q < 0 := of_decide_eq_false hd
        exact ⟨_, by simp [eqGuard_int, binOp, Op.shift, this], ⟨rfl, rfl⟩⟩
      case quo =>
        cases hd : decide (q = 0) <;> rw [hd] at h <;> cases h
        have : ¬ q = 0 := of_decide_eq_false hd
        exact ⟨_, by simp [eqGuard_int, binOp, Op.intDiv, this], ⟨rfl, rfl⟩⟩
      case rem =>
        cases hd : decide (q = 0) <;> rw [hd] at h <;> cases h
        have : ¬ q = 0 := of_decide_eq_false hd
        exact ⟨_, by simp [eqGuard_int, binOp, Op.intDiv, this], ⟨rfl, rfl⟩⟩
      all_goals (cases h; exact ⟨_, by simp [eqGuard_int, binOp, Op.intArith, Op.intBits, Op.intCmp], ⟨rfl, rfl⟩⟩)
    · cases op <;> simp only [if_neg hk] at h <;> first | cases h; done | skip
      case shl =>
        cases hd : decide (q < 0) <;> rw [hd] at h <;> cases h
        have : ¬ q < 0 := of_decide_eq_false hd
        exact ⟨_, by simp [eqGuard_int, binOp, Op.shift, this], ⟨rfl, rfl⟩⟩
      case shr =>
        cases hd : decide (q < 0) <;> rw [hd] at h <;> cases h
        have : ¬ q < 0 := of_decide_eq_false hd
        exact ⟨_, by simp [eqGuard_int, binOp, Op.shift, this], ⟨rfl, rfl⟩⟩
  case string.string p q =>
    cases op <;> simp only at h <;> first | cases h; done | skip
    case add =>
      cases hd : decide (p.size + q.size ≤ 4611686018427387904) <;> rw [hd] at h <;> cases h
      have hd' : p.size + q.size ≤ 4611686018427387904 := of_decide_eq_true hd
      have : ¬ ((p.size : Int) + q.size > IntKind.i64.max) := by
        have : IntKind.i64.max = 9223372036854775807 := by decide
        omega
      exact ⟨_, by simp only [Sem.run_bind, eqGuard_str, Result.andThen_ok, binOp, Op.stringOp, Sem.run_pure, show (((p.size + q.size : Nat) : Int) > IntKind.i64.max) = False from eq_false (by omega), if_false], ⟨rfl, rfl⟩⟩
    all_goals (cases h; exact ⟨_, by simp [eqGuard_str, binOp, Op.stringOp], ⟨rfl, rfl⟩⟩)
theorem Runs.tells' {m : Sem Value} {Q : Value → Prop} (h : Runs P w (m >>= pure) Q) : Tells P w (do pure (.value (← m))) Q := by
  obtain ⟨v, h1, h2⟩ := h
  exact ⟨v, by simp at h1; simp [h1], h2⟩
theorem strT_eq {T : TypeId} (h : strT P T = true) : P.underlying T = some .string := by
  simp only [strT] at h
  split at h
  · assumption
  · cases h
theorem elemT_eq {T E : TypeId} (h : elemT P T = some E) : P.underlying T = some (.slice E) := by
  simp only [elemT] at h
  split at h
  · rename_i e; cases h; exact e
  · cases h
theorem index_sound {T : TypeId} {str : ByteArray} {k : IntKind} {n : Int} (hu : P.underlying T = some .string) (h0 : 0 ≤ n) (h1 : n < str.size) : Runs P w (Instr.index T (.string str) (.int k n)) (RepS P g w (.v (.int .u8 (bt str n)))) := by
  simp only [Instr.index]
  refine (runs_pure (Q := (· = (k, n))) rfl).bind fun p hp => ?_
  subst hp
  refine (runs_underlying hu).bind fun d hd => ?_
  subst hd
  have hlt : n.toNat < str.size := by omega
  have e : str[n.toNat]? = some str.data[n.toNat] := by
    rw [getElem?_pos str n.toNat hlt]; rfl
  simp only [if_pos h0, e]
  refine runs_pure ⟨?_, rfl⟩
  unfold bt
  have : n.toNat < str.data.size := hlt
  simp only [Array.getD, this, dif_pos]
  rfl
theorem fieldAt_sound {T U : TypeId} {f off n β o : Nat} (hf : fieldOf P T f = some (off, U)) (hn : szT P U = some n) (h0 : n ≠ 0) : Runs P w (Instr.fieldAt T (.pointer (some ⟨β, o, none⟩)) f) (· = .pointer (some ⟨β, o + off, none⟩)) := by
  unfold fieldOf at hf
  split at hf
  · rename_i fs hu
    obtain ⟨fd, hfd, he⟩ := Option.map_eq_some_iff.1 hf
    cases he
    simp only [Instr.fieldAt]
    refine (runs_underlying hu).bind fun d hd => ?_
    subst hd
    dsimp only
    rw [hfd]
    dsimp only
    refine (runs_pure (Q := (· = (⟨β, o, none⟩ : Addr))) rfl).bind fun ad he => ?_
    subst he
    refine Runs.bind (Q := (· = (⟨β, o + fd.offset, none⟩ : Addr))) ?_ fun ad he => by subst he; exact runs_pure rfl
    simp only [fieldPlace]
    refine (runs_sizeOf hn).bind fun m hm => ?_
    subst hm
    rw [if_neg h0]
    exact runs_pure (add_lit _ _ _)
  · cases hf
theorem field_sound {T U : TypeId} {f off : Nat} {vs : Array Value} {cs : List AV} {x : AV} (hf : fieldOf P T f = some (off, U)) (e2 : vs.size = cs.length)
    (e3 : ∀ (j : Nat) c, cs[j]? = some c → ∃ u, vs[j]? = some u ∧ RepC P g w c u) (hx : partAV P U cs off = some x) : Runs P w (Instr.field T (.agg vs) f) (RepS P g w x) := by
  unfold fieldOf at hf
  split at hf
  · rename_i fs hu
    obtain ⟨fd, hfd, he⟩ := Option.map_eq_some_iff.1 hf
    cases he
    simp only [Instr.field]
    refine (runs_underlying hu).bind fun d hd => ?_
    subst hd
    dsimp only
    rw [hfd]
    dsimp only
    refine (runs_pure (Q := (· = vs)) rfl).bind fun vs' he => ?_
    subst he
    unfold partAV at hx
    obtain ⟨ag, hag, hx⟩ := Option.bind_eq_some_iff.1 hx
    simp only [part]
    refine (runs_isAgg hag).bind fun b hb => ?_
    subst hb
    cases b with
    | false =>
      simp only [cond_false] at hx
      obtain ⟨c, hcx, hx⟩ := Option.bind_eq_some_iff.1 hx
      cases hf : c.flat <;> rw [hf] at hx <;> cases hx
      obtain ⟨u, hu', hr⟩ := e3 _ _ hcx
      simp only [Bool.false_eq_true, if_false, hu']
      exact runs_pure hr.S
    | true =>
      simp only [cond_true] at hx
      obtain ⟨n, hn, hx⟩ := Option.bind_eq_some_iff.1 hx
      cases hle : Nat.ble (fd.offset + n) cs.length <;> rw [hle] at hx
      · cases hx
      · cases hx
        have hle' := Nat.le_of_ble_eq_true hle
        rw [if_pos rfl]
        refine (runs_sizeOf hn).bind fun m hm => ?_
        subst hm
        refine runs_pure ⟨_, rfl, by simp; omega, fun j c hj => ?_⟩
        rw [List.getElem?_take] at hj
        split at hj
        · rename_i hlt
          rw [List.getElem?_drop] at hj
          obtain ⟨u, hu', hr⟩ := e3 _ _ hj
          have hb := (Array.getElem?_eq_some_iff.1 hu').1
          refine ⟨u, ?_, hr⟩
          rw [Array.getElem?_extract, if_pos (by omega)]
          exact hu'
        · cases hj
  · cases hf
theorem idx_eq {l : List Dat} {n : Int} {d : Dat} (h : idx l n = some d) : 0 ≤ n ∧ l[n.toNat]? = some d ∧ n.toNat < l.length := by
  unfold idx at h
  cases hc : decide (0 ≤ n) <;> rw [hc] at h
  · cases h
  · exact ⟨of_decide_eq_true hc, h, (List.getElem?_eq_some_iff.1 h).1⟩
theorem expand_get (d : Dat) : ∀ (ks : List CK) (j i : Nat), (expand d ks j)[i]? = (ks[i]?).map fun k => expC d k (j + i)
  | [], j, i => by simp [expand]
  | k :: ks, j, 0 => by simp [expand]
  | k :: ks, j, i + 1 => by simp [expand, expand_get d ks (j + 1) i, Nat.add_assoc, Nat.add_comm 1 i]
theorem indexAt_sound {T E : TypeId} {ks : List CK} {k : IntKind} {n : Int} {l : List Dat} {v : Value} {d : Dat} (hu : P.underlying T = some (.slice E)) (hks : kinds P E = some ks) (hz : szT P E = some ks.length)
    (hrow : RepRow P g.G w E l v) (hd : idx l n = some d) : Runs P w (Instr.indexAt T v (.int k n)) (RepS P g w (.ro (expand d ks 0))) := by
  obtain ⟨h0, hget, hlt⟩ := idx_eq hd
  cases hrow with
  | nil E A cap => simp at hlt
  | mk E l β off cap ks' vals hk hlen hc hs hr =>
    rw [hks] at hk
    cases hk
    simp only [Instr.indexAt]
    refine (runs_pure (Q := (· = (k, n))) rfl).bind fun p hp => ?_
    subst hp
    refine (runs_underlying hu).bind fun d' hd' => ?_
    subst hd'
    dsimp only
    refine (runs_pure (Q := (· = (some (⟨β, off, none⟩ : Addr), l.length, E))) rfl).bind fun p hp => ?_
    subst hp
    refine (runs_underlying hu).bind fun d' hd' => ?_
    subst hd'
    dsimp only
    · rw [if_pos ⟨h0, by omega⟩]
      refine (runs_sizeOf hz).bind fun m hm => ?_
      subst hm
      refine runs_pure ⟨β, off + n.toNat * ks.length, by rw [add_lit], fun j c hj => ?_⟩
      rw [expand_get] at hj
      obtain ⟨kk, hkk, rfl⟩ := Option.map_eq_some_iff.1 hj
      have hj' := (List.getElem?_eq_some_iff.1 hkk).1
      obtain ⟨c1, c2, c3⟩ := hc n.toNat j hlt hj'
      refine ⟨_, c2, c1, ?_⟩
      have hsc := hs n.toNat j d kk hget hkk
      have hrc := fun E' (e : kk = .row E') => hr n.toNat j d E' hget (by rw [hkk, e])
      cases kk <;> simp only [expC, Nat.zero_add, Rep0]
      · exact ⟨hsc, rfl⟩
      · exact ⟨hsc, rfl⟩
      · exact ⟨hsc, rfl⟩
      · exact ⟨trivial, hrc _ rfl⟩
      · exact c3
      · exact c3
theorem bound_sound (h : Inv P F g s a w) {o : Option Operand} {d : Nat} {n : Int} (hk : ∀ y, o = some y → RepS P g w (s.ev y) (a.eval y)) (hb : bound s o d = some n) : (o.map a.eval = none ∧ n = d) ∨ ∃ k, o.map a.eval = some (.int k n) := by
  cases o with
  | none => cases hb; exact .inl ⟨rfl, rfl⟩
  | some y =>
    have hy := hk y rfl
    simp only [bound] at hb
    cases hyv : s.ev y <;> rw [hyv] at hb hy <;> first | cases hb; done | skip
    rename_i yv
    cases yv <;> first | cases hb; done | skip
    rename_i k m
    cases hb
    obtain ⟨ey, _⟩ := (show a.eval y = .int k n ∧ _ from hy)
    exact .inr ⟨k, congrArg some ey⟩
theorem runs_bounds {isSlice : Bool} {len cap : Nat} {lo hi : Option Value} {hh ll : Int} (e1 : (hi = none ∧ hh = len) ∨ ∃ k, hi = some (.int k hh)) (e2 : (lo = none ∧ ll = (0 : Nat)) ∨ ∃ k, lo = some (.int k ll)) (h0 : 0 ≤ hh) (h1 : hh ≤ cap) (h2 : 0 ≤ ll) (h3 : ll ≤ hh) :
    Runs P w (Instr.sliceBounds isSlice len cap lo hi none) (· = (ll.toNat, hh.toNat, cap)) := by
  have sb : ∀ (k : IntKind) (i : Int) (y : Nat) (code : BoundsCode), 0 ≤ i → i ≤ y → Runs P w (Instr.sliceBound (.int k i) y code) (· = i.toNat) := fun k i y code a1 a2 => ⟨_, Go.run_sliceBound w k i y code a1 a2, rfl⟩
  simp only [Instr.sliceBounds]
  refine (runs_pure (Q := (· = cap)) rfl).bind fun m hm => ?_
  subst hm
  rcases e1 with ⟨rfl, rfl⟩ | ⟨k, rfl⟩ <;> rcases e2 with ⟨rfl, rfl⟩ | ⟨k', rfl⟩ <;> dsimp only
  · exact (runs_pure (Q := (· = len)) rfl).bind fun m' hm => by subst hm; exact (runs_pure (Q := (· = 0)) rfl).bind fun m' hm => by subst hm; exact runs_pure (by simp)
  · exact (runs_pure (Q := (· = len)) rfl).bind fun m' hm => by subst hm; exact (sb k' ll _ _ h2 (by omega)).bind fun m' hm => by subst hm; exact runs_pure (by simp)
  · exact (sb k hh _ _ h0 h1).bind fun m' hm => by subst hm; exact (runs_pure (Q := (· = 0)) rfl).bind fun m' hm => by subst hm; exact runs_pure (by simp)
  · exact (sb k hh _ _ h0 h1).bind fun m' hm => by subst hm; exact (sb k' ll _ _ h2 (by omega)).bind fun m' hm => by subst hm; exact runs_pure (by simp)
theorem sliceRow_sound {T E : TypeId} {l : List Dat} {v : Value} {lo hi : Option Value} {hh ll : Int} {ks : List CK} (hks : kinds P E = some ks) (hz : szT P E = some ks.length) (hu : P.underlying T = some (.slice E)) (hrow : RepRow P g.G w E l v)
    (e1 : (hi = none ∧ hh = l.length) ∨ ∃ k, hi = some (.int k hh)) (e2 : (lo = none ∧ ll = (0 : Nat)) ∨ ∃ k, lo = some (.int k ll)) (h0 : 0 ≤ hh) (h1 : hh ≤ l.length) (h2 : 0 ≤ ll) (h3 : ll ≤ hh) :
    Runs P w (Instr.sliceAt T v lo hi none) (RepS P g w (.row none E ((l.take hh.toNat).drop ll.toNat))) := by
  obtain ⟨A, cap, hv⟩ := hrow.slice
  have hcap : l.length ≤ cap ∨ l = [] := by
    cases hrow with
    | nil E A cap => exact .inr rfl
    | mk E l β off cap ks vals hk hlen hc hs hr => injection hv with _ _ e; subst e; exact .inl hlen
  have hcap' : l.length ≤ cap := by
    rcases hcap with h | rfl
    · exact h
    · exact Nat.zero_le _
  subst hv
  simp only [Instr.sliceAt, Instr.slice]
  refine (runs_underlying hu).bind fun d hd => ?_
  subst hd
  refine (runs_underlying hu).bind fun d hd => ?_
  subst hd
  refine (runs_bounds (isSlice := true) (len := l.length) (cap := cap) e1 e2 h0 (by omega) h2 h3).bind fun r hr => ?_
  subst hr
  dsimp only
  refine (runs_sizeOf hz).bind fun m hm => ?_
  subst hm
  refine runs_pure ⟨?_, fun n hn => by cases hn⟩
  have hn1 : hh.toNat ≤ l.length := by omega
  have hn2 : ll.toNat ≤ hh.toNat := by omega
  generalize hh.toNat = hn at hn1 hn2 ⊢
  generalize ll.toNat = ln at hn1 hn2 ⊢
  have hL : ((l.take hn).drop ln).length = hn - ln := by simp; omega
  by_cases hcl : cap = ln
  · have : (l.take hn).drop ln = [] := List.eq_nil_of_length_eq_zero (by rw [hL]; omega)
    rw [this, show hn - ln = 0 by omega]
    exact .nil _ _ _
  · rw [if_neg hcl]
    cases hrow with
    | nil E A cap =>
      simp only [List.take_nil, List.drop_nil, List.length_nil] at hn1 ⊢
      rw [show hn - ln = 0 by omega]
      exact .nil _ _ _
    | mk E l β off cap ks' vals hk hlen hc hs hr =>
      rw [hks] at hk
      cases hk
      simp only [Option.map_some, add_lit]
      have := RepRow.mk (P := P) (G := g.G) (w := w) E ((l.take hn).drop ln) β (off + ln * ks.length) (cap - ln) ks (fun i j => vals (ln + i) j) hks (by omega) (fun i j hi hj => ?_) (fun i j d k hd hj => ?_) (fun i j d E' hd hj => ?_)
      · rw [hL] at this; exact this
      · obtain ⟨c1, c2, c3⟩ := hc (ln + i) j (by omega) hj
        have e : off + ln * ks.length + i * ks.length + j = off + (ln + i) * ks.length + j := by rw [Nat.add_mul]; omega
        rw [e]
        exact ⟨c1, c2, c3⟩
      · refine hs (ln + i) j d k ?_ hj
        rw [List.getElem?_drop, List.getElem?_take] at hd
        split at hd
        · exact hd
        · cases hd
      · refine hr (ln + i) j d E' ?_ hj
        rw [List.getElem?_drop, List.getElem?_take] at hd
        split at hd
        · exact hd
        · cases hd
theorem plainL_sound {cs : List AV} {l : List Value} {vs : Array Value} (hl : plainL cs = some l) (e2 : vs.size = cs.length)
    (e3 : ∀ (j : Nat) c, cs[j]? = some c → ∃ u, vs[j]? = some u ∧ RepC P g w c u) : vs = l.toArray := by
  have key : ∀ (cs : List AV) (l us : List Value), plainL cs = some l → us.length = cs.length → (∀ (j : Nat) c, cs[j]? = some c → ∃ u, us[j]? = some u ∧ RepC P g w c u) → us = l := by
    intro cs
    induction cs with
    | nil => intro l us hl e2 e3; cases hl; exact List.eq_nil_of_length_eq_zero e2
    | cons c cs ih =>
      intro l us hl e2 e3
      cases c <;> simp only [plainL] at hl <;> first | cases hl; done | skip
      obtain ⟨l', hl', he⟩ := Option.bind_eq_some_iff.1 hl
      cases he
      cases us with
      | nil => simp at e2
      | cons u us =>
        obtain ⟨u', hu', hr⟩ := e3 0 _ rfl
        simp at hu'
        subst hu'
        rw [ih l' us hl' (by simpa using e2) (fun j c hj => by simpa using e3 (j + 1) c (by simpa using hj))]
        obtain ⟨rfl, _⟩ := hr
        rfl
  have := key cs l vs.toList hl (by simpa using e2) (fun j c hj => by simpa using e3 j c hj)
  rw [← this]
theorem convV_sound {src dst : TypeId} {x r : Value} (h : convV P src dst x = some r) : Runs P w (convert src dst x) (RepS P g w (.v r)) := by
  unfold convV at h
  split at h
  · split at h
    · rename_i d k hd hk
      cases h
      simp only [convert]
      refine (runs_underlying hd).bind fun d' e => ?_
      subst e
      refine (runs_underlying hk).bind fun d' e => ?_
      subst e
      exact ⟨_, by simp [Conv.intToInt], ⟨rfl, rfl⟩⟩
    · cases h
  · split at h
    · rename_i d hd hk
      cases h
      simp only [convert]
      refine (runs_underlying hd).bind fun d' e => ?_
      subst e
      refine (runs_underlying hk).bind fun d' e => ?_
      subst e
      exact runs_pure ⟨rfl, rfl⟩
    · cases h
  · split at h
    · rename_i E hd hk
      split at h
      · rename_i he
        cases h
        simp only [convert]
        refine (runs_underlying hd).bind fun d' e => ?_
        subst e
        refine (runs_underlying hk).bind fun d' e => ?_
        subst e
        dsimp only
        refine (runs_underlying he).bind fun d' e => ?_
        subst e
        exact ⟨_, by simp [Conv.bytesToString]; rfl, ⟨rfl, rfl⟩⟩
      · cases h
    · cases h
  · cases h
theorem kinds_byte {E : TypeId} (h : P.underlying E = some (.int .u8)) : kinds P E = some [.int .u8] := by
  simp only [kinds, kindsF, h]
theorem push_eq (ns : List Int) : ∀ acc : ByteArray, ns.foldl (fun r n => r.push (UInt8.ofNat n.toNat)) acc = ⟨(acc.data.toList ++ ns.map fun n => UInt8.ofNat n.toNat).toArray⟩ := by
  induction ns with
  | nil => intro acc; simp
  | cons n ns ih => intro acc; simp only [List.foldl_cons, ih, List.map_cons]; congr 1; simp [ByteArray.push]
theorem convRow_sound {src dst E : TypeId} {l : List Dat} {v : Value} {x : AV} (hrow : RepRow P g.G w E l v)
    (h : (match P.underlying src, P.underlying dst with
      | some (.slice E'), some .string => (match P.underlying E' with
        | some (.int .u8) => bif E == E' then some (S (bytesOf l)) else none
        | _ => none)
      | _, _ => none) = some x) : Runs P w (convert src dst v) (RepS P g w x) := by
  split at h
  · rename_i E' hd hk
    split at h
    · rename_i he
      cases hE : (E == E') <;> rw [hE] at h <;> cases h
      have : E = E' := by simpa using hE
      subst this
      have hkk := kinds_byte he
      obtain ⟨A, cap, hv⟩ := hrow.slice
      subst hv
      simp only [convert]
      refine (runs_underlying hd).bind fun d' e => ?_
      subst e
      refine (runs_underlying hk).bind fun d' e => ?_
      subst e
      dsimp only
      refine (runs_underlying he).bind fun d' e => ?_
      subst e
      dsimp only
      cases hrow with
      | nil =>
        cases A with
        | none => exact ⟨_, by simp [Conv.bytesToString]; rfl, ⟨rfl, rfl⟩⟩
        | some ad =>
          have := run_bytesToString (P := P) w ad 0 cap [] (by simp [loadCells, loadCellsFrom])
          exact ⟨_, this, ⟨rfl, rfl⟩⟩
      | mk E l β off cap ks vals hk' hlen hc hs hr =>
        rw [hkk] at hk'
        cases hk'
        have := run_bytesToString (P := P) w ⟨β, off, none⟩ l.length cap (l.map fun d => (d.at 0).toI) (by
          rw [run_loadCells w ⟨β, off, none⟩ l.length (fun j => vals j 0) (fun j hj => ?_)]
          · congr 2
            apply List.ext_getElem
            · simp
            · intro i h1 h2
              simp at h1 h2
              simp only [List.getElem_map, List.getElem_range]
              exact hs i 0 l[i] _ (List.getElem?_eq_getElem h1) rfl
          · obtain ⟨c1, c2, c3⟩ := hc j 0 hj (by simp)
            rw [add_lit, ← c2]
            congr 2
            simp)
        refine ⟨_, this, ⟨?_, rfl⟩⟩
        rw [push_eq]
        congr 1
        simp [bytesOf, Function.comp_def]
    · cases h
  · cases h
theorem runs_mapM {α β : Type} {f : α → Sem β} {q : α → β → Prop} : ∀ (l : List α), (∀ x ∈ l, Runs P w (f x) (q x)) → Runs P w (l.mapM f) (fun r => r.length = l.length ∧ ∀ (i : Nat) x, l[i]? = some x → ∃ y, r[i]? = some y ∧ q x y)
  | [], _ => by rw [List.mapM_nil]; exact runs_pure ⟨rfl, fun i x h => by simp at h⟩
  | x :: l, h => by
    rw [List.mapM_cons]
    refine (h x (by simp)).bind fun y hy => ?_
    refine (runs_mapM l (fun z hz => h z (by simp [hz]))).bind fun r hr => ?_
    refine runs_pure ⟨by simp [hr.1], fun i z hz => ?_⟩
    cases i with
    | zero => simp at hz; subst hz; exact ⟨y, rfl, hy⟩
    | succ i => simp at hz; obtain ⟨u, h1, h2⟩ := hr.2 i z hz; exact ⟨u, by simpa using h1, h2⟩
theorem cells_rep {x : AV} {v : Value} (hx : RepS P g w x v) (h1 : x.cells.all AV.one = true) : v.cells.size = x.cells.length ∧ ∀ (j : Nat) c, x.cells[j]? = some c → ∃ u, v.cells[j]? = some u ∧ RepC P g w c u := by
  by_cases ha : ∃ cs, x = .agg cs
  · obtain ⟨cs, rfl⟩ := ha
    obtain ⟨vs, rfl, e2, e3⟩ := hx
    exact ⟨e2, e3⟩
  · have hc : x.cells = [x] := by cases x <;> first | rfl | exact absurd ⟨_, rfl⟩ ha
    rw [hc] at h1 ⊢
    have hr := hx.one (by simpa using h1)
    have ho := hr.one
    have hvc : v.cells = #[v] := by cases v <;> first | rfl | (simp [Value.oneCell'] at ho)
    rw [hvc]
    refine ⟨rfl, fun j c hj => ?_⟩
    cases j with
    | zero => simp at hj; subst hj; exact ⟨v, rfl, hr⟩
    | succ j => simp at hj
theorem foldl_set (new : List Value) : ∀ (k : Nat) (off : Nat) (cs : Array Value), off + k + new.length ≤ cs.size →
    ∀ j : Nat, ((new.zipIdx k).foldl (fun cs (c, j) => cs.setIfInBounds (off + j) c) cs)[j]? = if off + k ≤ j ∧ j < off + k + new.length then new[j - (off + k)]? else cs[j]? := by
  induction new with
  | nil => intro k off cs h j; simp; intro h1 h2; omega
  | cons x new ih =>
    intro k off cs h j
    simp only [List.length_cons] at h
    rw [List.zipIdx_cons, List.foldl_cons, ih (k + 1) off _ (by simp; omega) j]
    simp only [Array.getElem?_setIfInBounds, List.length_cons]
    by_cases h1 : off + (k + 1) ≤ j ∧ j < off + (k + 1) + new.length
    · rw [if_pos h1, if_pos (by omega), show j - (off + k) = (j - (off + (k + 1))) + 1 by omega]
      rfl
    · rw [if_neg h1]
      by_cases h2 : off + k = j
      · rw [if_pos h2, if_pos (by omega), if_pos (by omega), show j - (off + k) = 0 by omega]
        rfl
      · rw [if_neg h2, if_neg (by omega)]
theorem size_foldl_set (new : List (Value × Nat)) : ∀ (off : Nat) (cs : Array Value), (new.foldl (fun cs (c, j) => cs.setIfInBounds (off + j) c) cs).size = cs.size := by
  induction new with
  | nil => intro off cs; rfl
  | cons x new ih => intro off cs; simp [ih]
theorem fill_sound {place : Nat → Option (Nat × Nat)} : ∀ (l : List (Nat × Nat × AV)) (vs : List (Nat × Value)) (cs : List AV) (us : Array Value) (cs' : List AV),
    us.size = cs.length → (∀ (j : Nat) c, cs[j]? = some c → ∃ u, us[j]? = some u ∧ RepC P g w c u) → fillAV cs l = some cs' → l.length = vs.length →
    (∀ (i : Nat) off n x, l[i]? = some (off, n, x) → ∃ f v, vs[i]? = some (f, v) ∧ place f = some (off, n) ∧ RepS P g w x v) →
    ∃ us', Instr.fill place us vs = some us' ∧ us'.size = cs'.length ∧ ∀ (j : Nat) c, cs'[j]? = some c → ∃ u, us'[j]? = some u ∧ RepC P g w c u
  | [], vs, cs, us, cs', hs, hr, hf, hl, hp => by
    cases hf
    have : vs = [] := List.eq_nil_of_length_eq_zero (by simpa using hl.symm)
    subst this
    exact ⟨us, rfl, hs, hr⟩
  | (off, n, x) :: l, vs, cs, us, cs', hs, hr, hf, hl, hp => by
    cases vs with
    | nil => simp at hl
    | cons v0 vs =>
    obtain ⟨f, v, hv, hpl, hx⟩ := hp 0 off n x rfl
    simp at hv
    subst hv
    simp only [fillAV] at hf
    cases hc : (Nat.beq x.cells.length n && Nat.ble (off + n) cs.length && x.cells.all AV.one) <;> rw [hc] at hf
    · cases hf
    simp only [Bool.and_eq_true] at hc
    have hn : x.cells.length = n := Nat.eq_of_beq_eq_true hc.1.1
    have hle := Nat.le_of_ble_eq_true hc.1.2
    obtain ⟨c1, c2⟩ := cells_rep hx hc.2
    simp only [Instr.fill, hpl]
    have hsz : v.cells.size = n := by rw [c1, hn]
    rw [if_neg (by simp [hsz]; omega)]
    refine fill_sound l vs (cs.take off ++ (x.cells ++ cs.drop (off + n))) _ cs' ?_ ?_ hf (by simpa using hl) (fun i o m y hi => by simpa using hp (i + 1) o m y (by simpa using hi))
    · rw [← Array.foldl_toList, size_foldl_set, hs]
      simp [hn]; omega
    · intro j c hj
      have hfs := foldl_set v.cells.toList 0 off us (by simp [hsz]; omega) j
      have hz : v.cells.zipIdx.foldl (fun cs (c, j) => cs.setIfInBounds (off + j) c) us = (v.cells.toList.zipIdx 0).foldl (fun cs (c, j) => cs.setIfInBounds (off + j) c) us := by
        rw [← Array.foldl_toList, Array.toList_zipIdx]
      rw [hz, hfs]
      simp only [Nat.add_zero, Array.length_toList, hsz]
      by_cases h1 : off ≤ j ∧ j < off + n
      · rw [if_pos h1, Array.getElem?_toList]
        rw [List.getElem?_append_right (by simp; omega), List.getElem?_append_left (by simp [hn]; omega)] at hj
        simp only [List.length_take, Nat.min_eq_left (show off ≤ cs.length by omega)] at hj
        exact c2 _ c hj
      · rw [if_neg h1]
        by_cases h2 : j < off
        · rw [List.getElem?_append_left (by simp; omega), List.getElem?_take, if_pos h2] at hj
          exact hr j c hj
        · rw [List.getElem?_append_right (by simp; omega), List.getElem?_append_right (by simp [hn]; omega), List.getElem?_drop] at hj
          simp only [List.length_take, Nat.min_eq_left (show off ≤ cs.length by omega), hn] at hj
          rw [show off + n + (j - off - n) = j by omega] at hj
          exact hr j c hj
theorem partsAV_sound {T : TypeId} {fs : Array Field} (hu : P.underlying T = some (.struct fs)) : ∀ (ps : List (Nat × Operand)) (l : List (Nat × Nat × AV)), partsAV P s T ps = some l →
    l.length = ps.length ∧ ∀ (i : Nat) off n x, l[i]? = some (off, n, x) → ∃ f y fd, ps[i]? = some (f, y) ∧ fs[f]? = some fd ∧ fd.offset = off ∧ szT P fd.type = some n ∧ x = s.ev y
  | [], l, h => by cases h; exact ⟨rfl, fun i off n x h => by simp at h⟩
  | (f, y) :: ps, l, h => by
    simp only [partsAV] at h
    obtain ⟨⟨off, U⟩, h1, h⟩ := Option.bind_eq_some_iff.1 h
    obtain ⟨n, h2, h⟩ := Option.bind_eq_some_iff.1 h
    obtain ⟨l', h3, h⟩ := Option.bind_eq_some_iff.1 h
    cases h
    obtain ⟨e1, e2⟩ := partsAV_sound hu ps l' h3
    refine ⟨by simp [e1], fun i o m x hi => ?_⟩
    cases i with
    | zero =>
      simp at hi
      obtain ⟨rfl, rfl, rfl⟩ := hi
      simp only [fieldOf, hu] at h1
      obtain ⟨fd, hfd, he⟩ := Option.map_eq_some_iff.1 h1
      cases he
      exact ⟨f, y, fd, rfl, hfd, rfl, h2, rfl⟩
    | succ i => simpa using e2 i o m x (by simpa using hi)
theorem oneV_eq (v : Value) : oneV v = v.oneCell' := by cases v <;> rfl
theorem plainAV_sound {v : Value} {x : AV} (h : plainAV v = some x) : RepT P g w x v := by
  have flat : ∀ v : Value, (bif oneV v then some (AV.v v) else none) = some x → RepT P g w x v := fun v h => by
    cases hc : oneV v <;> rw [hc] at h <;> cases h
    exact ⟨rfl, by rw [← oneV_eq]; exact hc⟩
  cases v <;> first | exact flat _ h | skip
  rename_i cs
  have h : (bif cs.toList.all oneV then some (AV.agg (cs.toList.map AV.v)) else none) = some x := h
  cases hc : cs.toList.all oneV <;> rw [hc] at h <;> cases h
  refine ⟨cs, rfl, by simp, fun j c hj => ?_⟩
  rw [List.getElem?_map] at hj
  obtain ⟨u, hu, rfl⟩ := Option.map_eq_some_iff.1 hj
  refine ⟨u, by rw [← Array.getElem?_toList]; exact hu, rfl, ?_⟩
  rw [← oneV_eq]
  exact List.all_eq_true.1 hc u (List.mem_of_getElem? hu)
theorem zeroAV_sound {T : TypeId} {x : AV} (h : zeroAV P T = some x) : Runs P w (zeroValue T) (RepT P g w x) := by
  unfold zeroAV at h
  obtain ⟨z, hz, h⟩ := Option.bind_eq_some_iff.1 h
  obtain ⟨i, hi, hz⟩ := Option.bind_eq_some_iff.1 hz
  exact ⟨z, by simp [zeroValue, typeInfo, hi, hz], plainAV_sound h⟩
theorem pair_rep {x : AV} {v : Value} {b : Bool} (h : RepT P g w x v) : RepS P g w (.tup [x, B b]) (.tuple #[v, .bool b]) := by
  refine ⟨#[v, .bool b], rfl, rfl, fun j c hj => ?_⟩
  match j, hj with
  | 0, hj => cases hj; exact ⟨v, rfl, h⟩
  | 1, hj => cases hj; exact ⟨.bool b, rfl, rfl, rfl⟩
theorem assert_sound {x : Value} {U T : TypeId} {ok : Bool} {y : AV} (h : assertAV P T ok x = some y) : Runs P w (Instr.typeAssert x U T ok) (RepS P g w y) := by
  unfold assertAV at h
  have fail : ∀ (z : Option AV), (bif ok then z.map fun y => AV.tup [y, B false] else none) = some y → ∃ x, ok = true ∧ z = some x ∧ y = .tup [x, B false] := fun z h => by
    cases ok
    · cases h
    · obtain ⟨x, hx, rfl⟩ := Option.map_eq_some_iff.1 h
      exact ⟨x, rfl, hx, rfl⟩
  cases hu : P.underlying T with
  | none => rw [hu] at h; cases h
  | some d =>
    rw [hu] at h
    unfold Instr.typeAssert
    refine (runs_underlying hu).bind fun d' hd' => ?_
    subst hd'
    cases d' <;> first | (cases h; done) | skip
    all_goals
      cases x with
      | nilIface =>
        dsimp only at h ⊢
        obtain ⟨z, rfl, hz, rfl⟩ := fail _ h
        exact (zeroAV_sound hz).bind fun v hv => runs_pure (pair_rep hv)
      | iface t v =>
        dsimp only at h ⊢
        cases ht : Nat.beq t T <;> rw [ht] at h
        · have hne : ¬ t = T := fun e => by subst e; rw [Nat.beq_refl] at ht; cases ht
          rw [if_neg hne]
          obtain ⟨z, rfl, hz, rfl⟩ := fail _ h
          exact (zeroAV_sound hz).bind fun v hv => runs_pure (pair_rep hv)
        · have he := Nat.eq_of_beq_eq_true ht
          rw [if_pos he]
          obtain ⟨z, hz, rfl⟩ := Option.map_eq_some_iff.1 h
          refine runs_pure ?_
          cases ok
          · exact (plainAV_sound hz).S
          · exact pair_rep (plainAV_sound hz)
      | _ => cases h
theorem zero_rep {T : TypeId} {z : List AV} (hz : zeroCells P T = some z) : Runs P w (zeroValue T) (fun v => v.cells.size = z.length ∧ ∀ (j : Nat) c, z[j]? = some c → ∃ u, v.cells[j]? = some u ∧ c = .v u ∧ u.oneCell' = true) := by
  unfold zeroCells at hz
  obtain ⟨v, hv, hz⟩ := Option.bind_eq_some_iff.1 hz
  obtain ⟨i, hi, hv⟩ := Option.bind_eq_some_iff.1 hv
  cases hc : v.cells.toList.all oneV <;> rw [hc] at hz <;> cases hz
  refine ⟨v, by simp [zeroValue, typeInfo, hi, hv], by simp, fun j c hj => ?_⟩
  rw [List.getElem?_map] at hj
  obtain ⟨u, hu, rfl⟩ := Option.map_eq_some_iff.1 hj
  have := List.all_eq_true.1 hc u (List.mem_of_getElem? hu)
  rw [Array.getElem?_toList] at hu
  exact ⟨u, hu, rfl, by rw [← oneV_eq]; exact this⟩
theorem build_sound {T : TypeId} {ps : Array (Nat × Operand)} {z cs : List AV} {l : List (Nat × Nat × AV)} (hz : zeroCells P T = some z) (hf : fieldsOk P T = true) (hl : partsAV P s T ps.toList = some l) (hcs : fillAV z l = some cs)
    (hk : ∀ i x, (i, x) ∈ ps.toList → RepS P g w (s.ev x) (a.eval x)) : Runs P w (Instr.build T (ps.map fun (i, x) => (i, a.eval x))) (RepS P g w (.agg cs)) := by
  unfold fieldsOk at hf
  split at hf
  · rename_i fs hu
    obtain ⟨l1, l2⟩ := partsAV_sound hu _ _ hl
    simp only [Instr.build]
    refine (zero_rep hz).bind fun v hv => ?_
    refine (runs_underlying hu).bind fun d hd => ?_
    subst hd
    dsimp only
    rw [Array.mapM_eq_mapM_toList]
    have hm := runs_mapM (P := P) (w := w) (f := fun f : Field => (do pure (f.offset, ← sizeOf f.type) : Sem (Nat × Nat))) (q := fun f y => ∃ n, szT P f.type = some n ∧ y = (f.offset, n)) fs.toList (fun f hf' => by
      have := List.all_eq_true.1 hf f hf'
      obtain ⟨n, hn⟩ := Option.isSome_iff_exists.1 this
      exact (runs_sizeOf hn).bind fun m hm => runs_pure ⟨n, hn, by rw [hm]⟩)
    obtain ⟨r, hr1, hr2, hr3⟩ := hm
    obtain ⟨us', f1, f2, f3⟩ := fill_sound (place := (r.toArray[·]?)) l (ps.map fun (i, x) => (i, a.eval x)).toList z v.cells cs hv.1 (fun j c hj => by
      obtain ⟨u, h1, rfl, h3⟩ := hv.2 j c hj
      exact ⟨u, h1, rfl, h3⟩) hcs (by simp [l1]) (fun i off n x hi => by
      obtain ⟨f, y, fd, h1, h2, h3, h4, h5⟩ := l2 i off n x hi
      refine ⟨f, a.eval y, by simp at h1 ⊢; exact ⟨_, _, h1, rfl, rfl⟩, ?_, ?_⟩
      · obtain ⟨yy, e1, n', e2, e3⟩ := hr3 f fd (by simpa using h2)
        rw [h4] at e2
        cases e2
        show r.toArray[f]? = _
        rw [List.getElem?_toArray, e1, e3, h3]
      · rw [h5]; exact hk f y (List.mem_of_getElem? h1))
    refine ⟨.agg us', ?_, us', rfl, f2, f3⟩
    have hr1' : ((List.mapM (fun f : Field => (do let n ← sizeOf f.type; pure (f.offset, n) : Sem (Nat × Nat))) fs.toList).run P w) = .ok r w := hr1
    simp only [Sem.run_bind, Sem.run_map, hr1', Result.andThen_ok]
    rw [f1]
    rfl
  · cases hf
theorem held_rep {x : AV} {v : Value} (hx : RepS P g w x v) (h : x.held = true) : Rep1 g x v := by
  cases x <;> first | (cases h; done) | exact hx
theorem held_map (xs : Array Operand) (hk : ∀ y ∈ xs.toList, RepS P g w (s.ev y) (a.eval y)) (hc : (xs.toList.map s.ev).all AV.held = true) (j : Nat) (c : AV) (hj : (xs.toList.map s.ev)[j]? = some c) : ∃ u, (xs.map a.eval)[j]? = some u ∧ Rep1 g c u := by
  have hh := List.all_eq_true.1 hc c (List.mem_of_getElem? hj)
  rw [List.getElem?_map] at hj
  obtain ⟨y, hy, rfl⟩ := Option.map_eq_some_iff.1 hj
  refine ⟨a.eval y, ?_, held_rep (hk y (List.mem_of_getElem? hy)) hh⟩
  rw [Array.getElem?_map, ← Array.getElem?_toList, hy]
  rfl
theorem rhs_sound (h : Inv P F g s a w) {o : Oper} (hr : reads P o.op = true) (hok : okOp o = true) {x : AV} (hx : rhs P o s = some x) : Tells P w (execOp a.eval o) (RepS P g w x) := by
  have hk := fun (y : Operand) (hy : y ∈ o.op.operands.toList) => h.ev y (okOp_mem hok hy)
  obtain ⟨dst, op, ty, pos, after, guard⟩ := o
  unfold rhs at hx
  unfold execOp
  cases op <;> dsimp only at hx ⊢ <;> simp only [reads] at hr <;> first | cases hr; done | skip
  case move y =>
    cases hx
    exact ⟨_, rfl, hk y (by simp [Op.operands])⟩
  case makeFunc fn xs cs =>
    cases fn <;> dsimp only at hx <;> first | (cases hx; done) | skip
    rename_i f
    cases hc : ((xs.toList.map s.ev).all AV.held && (cs.toList.map s.ev).all AV.held) <;> rw [hc] at hx
    · cases hx
    · cases hx
      simp only [Bool.and_eq_true] at hc
      refine ⟨.func (.func f) (xs.map a.eval) (cs.map a.eval), by simp [Instr.makeFunc], (xs.map a.eval), (cs.map a.eval), rfl, by simp, by simp, held_map xs (fun y hy => hk y (by simp only [Op.operands, Array.toList_append, List.mem_append]; exact .inl hy)) hc.1, held_map cs (fun y hy => hk y (by simp only [Op.operands, Array.toList_append, List.mem_append]; exact .inr hy)) hc.2⟩
  case load T y =>
    obtain ⟨cs, hcs, hp⟩ := Option.bind_eq_some_iff.1 hx
    obtain ⟨β, off, hv, hc⟩ := cellsOf_sound h (hk y (by simp [Op.operands])) hcs
    refine Runs.tells ?_
    show Runs P w (do loadVar T (← Instr.sureAddr (a.eval y))) _
    rw [hv]
    exact (runs_pure (Q := (· = (⟨β, off, none⟩ : Addr))) rfl).bind fun ad he => he ▸ loadVar_sound hc hp
  case pick c y z =>
    have hc := hk c (by simp [Op.operands])
    have hy := hk y (by simp [Op.operands])
    have hz := hk z (by simp [Op.operands])
    cases hcv : s.ev c <;> rw [hcv] at hx hc <;> first | cases hx; done | skip
    rename_i cv
    cases cv <;> first | cases hx; done | skip
    rename_i b
    obtain ⟨he, _⟩ := hc
    refine ⟨if b then a.eval y else a.eval z, by simp [he, asBool], ?_⟩
    cases b
    · simp only [Bool.false_eq_true, if_false, cond_false] at hx ⊢
      split at hx
      · rename_i e1 e2; cases hx; rw [e2] at hz; exact hz
      · cases hx; exact hz
    · simp only [if_true, cond_true] at hx ⊢
      split at hx
      · rename_i e1 e2; cases hx; rw [e1] at hy; exact hy
      · cases hx; exact hy
  case nilCheck y =>
    have hy := hk y (by simp [Op.operands])
    cases hyv : s.ev y <;> rw [hyv] at hx hy <;> first | cases hx; done | skip
    · rename_i d off
      cases hx
      obtain ⟨β, hb, he⟩ := (show RepC P g w (.box d off) (a.eval y) from hy)
      exact ⟨_, by simp [he], ⟨β, hb, rfl⟩⟩
    · rename_i cs
      cases hx
      obtain ⟨β, o, he, hc⟩ := (show RepC P g w (.ro cs) (a.eval y) from hy)
      exact ⟨_, by simp [he], ⟨β, o, rfl, hc⟩⟩
  case binOp op T y z U =>
    have hy := hk y (by simp [Op.operands])
    have hz := hk z (by simp [Op.operands])
    by_cases her : s.ev y = .err
    · rw [her] at hx hy
      obtain ⟨T0, x0, ey⟩ := (show ∃ T x, a.eval y = .iface T x from hy)
      cases hzv : s.ev z <;> rw [hzv] at hx hz <;> first | cases hx; done | skip
      rename_i bv
      cases bv <;> first | cases hx; done | skip
      obtain ⟨ez, _⟩ := (show a.eval z = .nilIface ∧ _ from hz)
      have hx : errCmp P op T z = some x := hx
      unfold errCmp at hx
      cases hc : (ifaceT P T && constO z) <;> rw [hc] at hx
      · cases hx
      rw [Bool.and_eq_true] at hc
      refine Runs.tells ?_
      rw [ey, ez]
      cases op <;> first | (cases hx; done) | skip
      · cases hx
        exact binOp_sound T (show boolOk P T z (.iface T0 x0) = true from hc.1) rfl
      · cases hx
        exact binOp_sound T (show boolOk P T z (.iface T0 x0) = true from hc.1) rfl
    cases hyv : s.ev y <;> rw [hyv] at hx hy <;> first | cases hx; done | exact absurd hyv her | skip
    cases hzv : s.ev z <;> rw [hzv] at hx hz <;> first | cases hx; done | skip
    rename_i av bv
    try dsimp only at hx
    cases hbo : boolOk P T z av <;> rw [hbo] at hx
    · cases hx
    obtain ⟨r, hp, rfl⟩ := Option.map_eq_some_iff.1 hx
    obtain ⟨ey, _⟩ := (show a.eval y = av ∧ _ from hy)
    obtain ⟨ez, _⟩ := (show a.eval z = bv ∧ _ from hz)
    refine Runs.tells ?_
    rw [ey, ez]
    exact binOp_sound T hbo hp
  case unOp op T y =>
    have hy := hk y (by simp [Op.operands])
    cases hyv : s.ev y <;> rw [hyv] at hx hy <;> first | cases hx; done | skip
    rename_i av
    obtain ⟨r, hp, rfl⟩ := Option.map_eq_some_iff.1 hx
    obtain ⟨ey, _⟩ := (show a.eval y = av ∧ _ from hy)
    refine Runs.tells ?_
    rw [ey]
    cases op <;> cases av <;> simp only [unOpV] at hp <;> first | cases hp; done | skip
    all_goals (cases hp; refine ⟨_, ?_, ⟨rfl, rfl⟩⟩; simp [Op.unary, Op.intArith])
  case extract y i =>
    have hy := hk y (by simp [Op.operands])
    cases hyv : s.ev y <;> rw [hyv] at hx hy <;> first | cases hx; done | skip
    rename_i vs
    obtain ⟨us, e1, e2, e3⟩ := hy
    obtain ⟨c, hcx, hx⟩ := Option.bind_eq_some_iff.1 hx
    cases hf : c.noTup <;> rw [hf] at hx <;> cases hx
    obtain ⟨u, hu, hr⟩ := e3 i _ hcx
    refine Runs.tells ⟨u, ?_, hr.S⟩
    rw [e1]
    simp [Instr.extract, hu]
  case index T y i =>
    have hy := hk y (by simp [Op.operands])
    have hi := hk i (by simp [Op.operands])
    try dsimp only at hx
    cases hyv : s.ev y <;> rw [hyv] at hx hy <;> first | cases hx; done | skip
    rename_i yv
    cases yv <;> first | cases hx; done | skip
    rename_i str
    cases hiv : s.ev i <;> rw [hiv] at hx hi <;> first | cases hx; done | skip
    rename_i iv
    cases iv <;> first | cases hx; done | skip
    rename_i k n
    try dsimp only at hx
    cases hc : (strT P T && decide (0 ≤ n) && decide (n < str.size)) <;> rw [hc] at hx
    · cases hx
    · cases hx
      simp only [Bool.and_eq_true, decide_eq_true_eq] at hc
      obtain ⟨ey, _⟩ := (show a.eval y = .string str ∧ _ from hy)
      obtain ⟨ei, _⟩ := (show a.eval i = .int k n ∧ _ from hi)
      refine Runs.tells ?_
      rw [ey, ei]
      exact index_sound (strT_eq hc.1.1) hc.1.2 hc.2
  case fieldAddr T y f =>
    have hy := hk y (by simp [Op.operands])
    obtain ⟨⟨off, U⟩, hf, hx⟩ := Option.bind_eq_some_iff.1 hx
    obtain ⟨n, hn, hx⟩ := Option.bind_eq_some_iff.1 hx
    try dsimp only at hx
    cases h0 : (n == 0) <;> rw [h0] at hx
    · simp only [cond_false] at hx
      have hn0 : n ≠ 0 := by simpa using h0
      cases hyv : s.ev y <;> rw [hyv] at hx hy <;> first | cases hx; done | skip
      · rename_i d o
        cases hx
        obtain ⟨β, hb, he⟩ := (show RepC P g w (.box d o) (a.eval y) from hy)
        rw [he]
        exact ((fieldAt_sound hf hn hn0).bind fun v hv => runs_pure (Q := RepS P g w (.box d (o + off))) (by rw [hv]; exact ⟨β, hb, rfl⟩)).tells'
      · rename_i cs
        cases hx
        obtain ⟨β, o, he, hc⟩ := (show RepC P g w (.ro cs) (a.eval y) from hy)
        rw [he]
        refine ((fieldAt_sound hf hn hn0).bind fun v hv => runs_pure (Q := RepS P g w (.ro (cs.drop off))) ?_).tells'
        rw [hv]
        refine ⟨β, o + off, rfl, fun j c hj => ?_⟩
        rw [List.getElem?_drop] at hj
        obtain ⟨u, h1, h2, h3⟩ := hc _ c hj
        exact ⟨u, by rw [← h1]; congr 2; omega, by rw [show o + off + j = o + (off + j) by omega]; exact h2, h3⟩
    · cases hx
  case field T y f =>
    have hy := hk y (by simp [Op.operands])
    obtain ⟨⟨off, U⟩, hf, hx⟩ := Option.bind_eq_some_iff.1 hx
    try dsimp only at hx
    cases hyv : s.ev y <;> rw [hyv] at hx hy <;> first | cases hx; done | skip
    rename_i cs
    obtain ⟨vs, e1, e2, e3⟩ := hy
    refine Runs.tells ?_
    rw [e1]
    exact field_sound hf e2 e3 hx
  case indexAddr T y i =>
    have hy := hk y (by simp [Op.operands])
    have hi := hk i (by simp [Op.operands])
    try dsimp only at hx
    cases hyv : s.ev y <;> rw [hyv] at hx hy <;> first | cases hx; done | skip
    cases hiv : s.ev i <;> rw [hiv] at hx hi <;> first | cases hx; done | skip
    rename_i t E l iv
    cases iv <;> first | cases hx; done | skip
    rename_i k n
    try dsimp only at hx
    cases hE : (elemT P T == some E) <;> rw [hE] at hx
    · cases hx
    simp only [cond_true] at hx
    obtain ⟨ks, hks, hx⟩ := Option.bind_eq_some_iff.1 hx
    cases hz : (szT P E == some ks.length) <;> rw [hz] at hx
    · cases hx
    simp only [cond_true] at hx
    obtain ⟨d, hd, hx⟩ := Option.bind_eq_some_iff.1 hx
    cases hx
    obtain ⟨ei, _⟩ := (show a.eval i = .int k n ∧ _ from hi)
    obtain ⟨hrow, _⟩ := (show RepC P g w (.row t E l) (a.eval y) from hy)
    refine Runs.tells ?_
    rw [ei]
    exact indexAt_sound (elemT_eq (by simpa using hE)) hks (by simpa using hz) hrow hd
  case slice T y lo hi mx =>
    cases mx <;> first | cases hx; done | skip
    have hy := hk y (by simp [Op.operands])
    dsimp only at hx
    cases hyv : s.ev y <;> rw [hyv] at hx hy <;> first | cases hx; done | skip
    · rename_i yv
      cases yv <;> first | cases hx; done | skip
      rename_i str
      obtain ⟨hh, ehh, hx⟩ := Option.bind_eq_some_iff.1 hx
      obtain ⟨ll, ell, hx⟩ := Option.bind_eq_some_iff.1 hx
      cases hc : (strT P T && decide (0 ≤ hh) && decide (hh ≤ str.size) && decide (0 ≤ ll) && decide (ll ≤ hh)) <;> rw [hc] at hx
      · cases hx
      · cases hx
        simp only [Bool.and_eq_true, decide_eq_true_eq] at hc
        obtain ⟨ey, _⟩ := (show a.eval y = .string str ∧ _ from hy)
        refine Runs.tells ?_
        rw [ey]
        show Runs P w (Instr.sliceAt T (.string str) (lo.map a.eval) (hi.map a.eval) none) _
        have hu := strT_eq hc.1.1.1.1
        simp only [Instr.sliceAt, Instr.slice]
        refine (runs_underlying hu).bind fun d hd => ?_
        subst hd
        refine (runs_underlying hu).bind fun d hd => ?_
        subst hd
        refine (runs_bounds (isSlice := false) (len := str.size) (cap := str.size) (bound_sound h (fun y hy => hk y (by simp [Op.operands, hy])) ehh) (bound_sound h (fun y hy => hk y (by simp [Op.operands, hy])) ell) hc.1.1.1.2 hc.1.1.2 hc.1.2 hc.2).bind fun r hr => ?_
        subst hr
        exact runs_pure ⟨rfl, rfl⟩
    · rename_i t E l
      obtain ⟨hh, ehh, hx⟩ := Option.bind_eq_some_iff.1 hx
      obtain ⟨ll, ell, hx⟩ := Option.bind_eq_some_iff.1 hx
      obtain ⟨ks, hks, hx⟩ := Option.bind_eq_some_iff.1 hx
      cases hc : (elemT P T == some E && szT P E == some ks.length && decide (0 ≤ hh) && decide (hh ≤ l.length) && decide (0 ≤ ll) && decide (ll ≤ hh)) <;> rw [hc] at hx
      · cases hx
      · cases hx
        simp only [Bool.and_eq_true, decide_eq_true_eq] at hc
        obtain ⟨hrow, _⟩ := (show RepC P g w (.row t E l) (a.eval y) from hy)
        refine Runs.tells ?_
        show Runs P w (Instr.sliceAt T (a.eval y) (lo.map a.eval) (hi.map a.eval) none) _
        have hu := elemT_eq (T := T) (E := E) (P := P) (by simpa using hc.1.1.1.1.1)
        exact sliceRow_sound hks (by simpa using hc.1.1.1.1.2) hu hrow (bound_sound h (fun y hy => hk y (by simp [Op.operands, hy])) ehh) (bound_sound h (fun y hy => hk y (by simp [Op.operands, hy])) ell) hc.1.1.1.2 hc.1.1.2 hc.1.2 hc.2
  case typeAssert y U T ok =>
    have hy := hk y (by simp [Op.operands])
    cases hyv : s.ev y <;> rw [hyv] at hx hy <;> first | cases hx; done | skip
    rename_i av
    obtain ⟨ey, _⟩ := (show a.eval y = av ∧ _ from hy)
    refine Runs.tells ?_
    rw [ey]
    exact assert_sound hx
  case makeInterface T y =>
    have hy := hk y (by simp [Op.operands])
    cases hu : P.underlying T with
    | none => rw [hu] at hx; cases hx
    | some d =>
      rw [hu] at hx
      have hd : ∀ ms, d ≠ .interface ms := fun ms e => by subst e; cases hx
      have hx' : (match s.ev y with
        | .v a => some (AV.v (.iface T a))
        | .agg cs => (plainL cs).bind fun l => some (.v (.iface T (.agg l.toArray)))
        | _ => none) = some x := by
        cases d <;> first | exact hx | exact absurd rfl (hd _)
      have key : ∀ v, Runs P w (Instr.makeInterface T v) (· = .iface T v) := fun v => by
        simp only [Instr.makeInterface]
        refine (runs_underlying hu).bind fun d' hd' => ?_
        subst hd'
        split
        · exact absurd rfl (hd _)
        · exact runs_pure rfl
      cases hyv : s.ev y <;> rw [hyv] at hx' hy <;> first | cases hx'; done | skip
      · cases hx'
        obtain ⟨ey, _⟩ := hy
        refine Runs.tells ?_
        obtain ⟨v, hv, rfl⟩ := key (a.eval y)
        exact ⟨_, hv, by rw [ey]; exact ⟨rfl, rfl⟩⟩
      · rename_i cs
        obtain ⟨l, hl, hx'⟩ := Option.bind_eq_some_iff.1 hx'
        cases hx'
        obtain ⟨vs, e1, e2, e3⟩ := hy
        refine Runs.tells ?_
        obtain ⟨v, hv, rfl⟩ := key (a.eval y)
        refine ⟨_, hv, ?_⟩
        rw [e1, plainL_sound hl e2 e3]
        exact ⟨rfl, rfl⟩
  case convert src dst y =>
    have hy := hk y (by simp [Op.operands])
    try dsimp only at hx
    refine Runs.tells ?_
    cases hyv : s.ev y <;> rw [hyv] at hx hy <;> first | cases hx; done | skip
    · rename_i yv
      obtain ⟨r, hp, rfl⟩ := Option.map_eq_some_iff.1 hx
      obtain ⟨ey, _⟩ := (show a.eval y = yv ∧ _ from hy)
      rw [ey]
      exact convV_sound hp
    · rename_i t E l
      obtain ⟨hrow, _⟩ := (show RepC P g w (.row t E l) (a.eval y) from hy)
      exact convRow_sound hrow hx
  case build T ps =>
    obtain ⟨z, hz, hx⟩ := Option.bind_eq_some_iff.1 hx
    cases hf : fieldsOk P T <;> rw [hf] at hx
    · cases hx
    simp only [cond_true] at hx
    obtain ⟨l, hl, hx⟩ := Option.bind_eq_some_iff.1 hx
    obtain ⟨cs, hcs, hx⟩ := Option.bind_eq_some_iff.1 hx
    cases hx
    refine Runs.tells ?_
    exact build_sound hz hf hl hcs (fun i x hx => hk x (by simp [Op.operands]; exact ⟨_, by simpa using hx⟩))
  case call c =>
    obtain ⟨callee, args, Ts⟩ := c
    cases callee <;> first | cases hr; done | skip
    rename_i b
    cases b <;> first | cases hr; done | skip
    dsimp only at hx
    obtain ⟨args⟩ := args
    cases args with
    | nil => cases hx
    | cons y r =>
      cases r with
      | cons z r => cases hx
      | nil =>
        have hy := hk y (by simp [Op.operands, Call.operands])
        cases hT : Ts[0]? with
        | none => rw [hT] at hx; cases hx
        | some T =>
          rw [hT] at hx
          dsimp only at hx
          have hrun : ∀ v : Value, Runs P w (Builtin.len_ Ts ty #[a.eval y]) (RepS P g w x) → Tells P w (do let d ← resolve a.eval { callee := .builtin .len, args := #[y], argTypes := Ts } ty; invoke d.target d.args) (RepS P g w x) := fun _ hv => by
            obtain ⟨v, h1, h2⟩ := hv
            exact ⟨v, by simp [resolve, invoke, builtin, h1], h2⟩
          refine hrun undef ?_
          split at hx
          · rename_i t E' l hyv
            rw [hyv] at hy
            obtain ⟨hrow, _⟩ := (show RepC P g w (.row t E' l) (a.eval y) from hy)
            obtain ⟨A, cap, hv⟩ := hrow.slice
            cases hE : elemT P T with
            | none => rw [hE] at hx; cases hx
            | some E =>
              rw [hE] at hx
              cases hx
              rw [hv]
              exact ⟨_, by simp [Builtin.len_, hT, run_underlying (elemT_eq hE), goInt], ⟨rfl, rfl⟩⟩
          · rename_i str hyv
            rw [hyv] at hy
            obtain ⟨ey, _⟩ := (show a.eval y = .string str ∧ _ from hy)
            cases hs : strT P T <;> rw [hs] at hx <;> cases hx
            rw [ey]
            exact ⟨_, by simp [Builtin.len_, hT, run_underlying (strT_eq hs), goInt], ⟨rfl, rfl⟩⟩
          · rename_i hyv
            rw [hyv] at hy
            obtain ⟨ey, _⟩ := (show a.eval y = .slice none 0 0 ∧ _ from hy)
            cases hE : elemT P T with
            | none => rw [hE] at hx; cases hx
            | some E =>
              rw [hE] at hx
              cases hx
              rw [ey]
              exact ⟨_, by simp [Builtin.len_, hT, run_underlying (elemT_eq hE), goInt], ⟨rfl, rfl⟩⟩
          · cases hx
end
end Go.Proofs.YtckdgcpomkefpaaGreatDoor.En
end
section
set_option linter.unusedVariables false
set_option linter.unusedSimpArgs false
namespace Go.Proofs.YtckdgcpomkefpaaGreatDoor.En
open Go
section
variable {P : Program} {F : Fx} {g : Gh} {s : St} {a : Act} {w : World}
structure Push (w w1 : World) (o : Obj) : Prop where
  heap : w1.heap = w.heap.push o
  os : w1.os = w.os
  tape : w1.tape = w.tape
  output : w1.output = w.output
theorem Push.alloc (w : World) (o : Obj) : Push w (w.alloc o) o := ⟨rfl, rfl, rfl, rfl⟩
theorem Push.drew (w : World) (o : Obj) : Push w (w.drew.alloc o) o := ⟨rfl, rfl, rfl, rfl⟩
theorem Push.old {w1 : World} {o : Obj} (h : Push w w1 o) {β : Nat} (hβ : β < w.heap.size) : w1.heap[β]? = w.heap[β]? := by
  rw [h.heap, Array.getElem?_push, if_neg (by omega)]
theorem Push.new {w1 : World} {o : Obj} (h : Push w w1 o) : w1.heap[w.heap.size]? = some o := by
  rw [h.heap, Array.getElem?_push, if_pos rfl]
theorem Push.size {w1 : World} {o : Obj} (h : Push w w1 o) : w1.heap.size = w.heap.size + 1 := by rw [h.heap]; simp
theorem Push.fr {w1 : World} {o : Obj} (h : Push w w1 o) (T : Nat → Nat → Prop) : Fr T w w1 :=
  ⟨h.os, h.tape, h.output, by rw [h.size]; omega, fun β o' ho => .inl (by rw [h.old (Array.getElem?_eq_some_iff.1 ho).1]; exact ho)⟩
theorem Push.cell {w1 : World} {o : Obj} (h : Push w w1 o) {β j : Nat} (hβ : β < w.heap.size) : w1.cell? ⟨β, j, none⟩ = w.cell? ⟨β, j, none⟩ :=
  World.cell?_of_block (a := ⟨β, j, none⟩) (h.old hβ)
def Gh.more (g : Gh) (β0 K : Nat) : Gh := { g with G := fun β j => g.G β j ∨ (β = β0 ∧ j < K) }
theorem Own.keep {g' : Gh} {w' : World} {v : Value} {E : TypeId} (h : Own P g w v E) (hb : ∀ β, v.ownBlock = some β → w'.heap[β]? = w.heap[β]? ∧ ∀ j, g'.G β j → g.G β j) : Own P g' w' v E := by
  rcases h with e | ⟨β, k, cap, us, ks, fz, rfl, e2, e3, e4, e5, e6, e7, e8⟩
  · exact .inl e
  · obtain ⟨b1, b2⟩ := hb β rfl
    exact .inr ⟨β, k, cap, us, ks, fz, rfl, b1.trans e2, e3, e4, e5, e6, fun j hj hg => e7 j hj (b2 j hg), e8⟩
theorem Own.lt {v : Value} {E : TypeId} (h : Own P g w v E) {β : Nat} (hv : v.ownBlock = some β) : β < w.heap.size := by
  rcases h with e | ⟨β', k, cap, us, ks, fz, rfl, e2, e3, e4, e5, e6, e7, e8⟩
  · subst e; cases hv
  · cases hv; exact (Array.getElem?_eq_some_iff.1 e2).1
theorem Inv.fresh (h : Inv P F g s a w) {w1 : World} {o : Obj} (hw : Push w w1 o) (K : Nat) : Inv P F (g.more w.heap.size K) s a w1 := by
  have hle : g.Le (g.more w.heap.size K) w w1 := ⟨fun β j hj => ⟨.inl hj, hw.cell (h.mem.gsz β j hj)⟩, fun n v hv => hv, fun d β hd => hd⟩
  refine ⟨⟨fun β j hj => ?_, fun d cs hd => ?_, h.mem.apart, fun n v E hn => ?_, h.mem.tkap, h.mem.tkbx, fun d cs β hd hβ => (h.mem.ty d cs β hd hβ).mono (hw.fr F.T)⟩, h.blen, h.len, fun i x hi => ?_, h.dfr, h.fr.trans (hw.fr F.T) (fun _ _ _ t => t) (fun _ _ _ t => t), fun β j hj => .inl (h.g0 β j hj), fun β j hj hlt => ?_, h.tb, h.bb, h.pbx⟩
  · rcases hj with hj | ⟨rfl, _⟩
    · have := h.mem.gsz β j hj; rw [hw.size]; omega
    · rw [hw.size]; omega
  · obtain ⟨β, us, T, e1, e2, e3, e4, e5⟩ := h.mem.box d cs hd
    have hlt := (Array.getElem?_eq_some_iff.1 e2).1
    refine ⟨β, us, T, e1, (hw.old hlt).trans e2, e3, fun j hj => ?_, fun j c hc => let ⟨u, hu, hr⟩ := e5 j c hc; ⟨u, hu, hr.mono hle⟩⟩
    rcases hj with hj | ⟨rfl, _⟩
    · exact e4 j hj
    · omega
  · exact (h.mem.own n v E hn).keep fun β hβ => by
      have hlt := (h.mem.own n v E hn).lt hβ
      refine ⟨hw.old hlt, fun j hj => ?_⟩
      rcases hj with hj | ⟨rfl, _⟩
      · exact hj
      · omega
  · obtain ⟨v, h1, h2⟩ := h.tm i x hi
    exact ⟨v, h1, h2.mono hle⟩
  · rcases hj with hj | ⟨rfl, _⟩
    · exact h.gfr β j hj hlt
    · have := h.fr.size; omega
theorem Inv.drew (h : Inv P F g s a w) : Inv P F g s a w.drew := by
  have hle : g.Le g w w.drew := ⟨fun β j hj => ⟨hj, rfl⟩, fun n v hv => hv, fun d β hd => hd⟩
  refine ⟨⟨h.mem.gsz, fun d cs hd => ?_, h.mem.apart, fun n v E hn => h.mem.own n v E hn, h.mem.tkap, h.mem.tkbx, fun d cs β hd hβ => (h.mem.ty d cs β hd hβ).mono (Fr.drew w)⟩, h.blen, h.len, fun i x hi => ?_, h.dfr, h.fr.trans (Fr.drew w) (fun _ _ _ t => t) (fun _ _ _ t => t.elim), h.g0, h.gfr, h.tb, h.bb, h.pbx⟩
  · obtain ⟨β, us, T, e1, e2, e3, e4, e5⟩ := h.mem.box d cs hd
    exact ⟨β, us, T, e1, e2, e3, e4, fun j c hc => let ⟨u, hu, hr⟩ := e5 j c hc; ⟨u, hu, hr.mono hle⟩⟩
  · obtain ⟨v, h1, h2⟩ := h.tm i x hi
    exact ⟨v, h1, h2.mono hle⟩
def Gh.tok (g : Gh) (n : Nat) (v : Value) (E : TypeId) : Gh := { g with tk := fun m => if m = n then some (v, E) else g.tk m }
def Gh.box (g : Gh) (d : Nat) (o : Option Nat) : Gh := { g with bx := fun e => if e = d then o else g.bx e }
theorem Inv.addTok (h : Inv P F g s a w) {n : Nat} {v : Value} {E : TypeId} (hn : g.tk n = none) (hO : Own P g w v E)
    (hap : ∀ m v' E' β, g.tk m = some (v', E') → v'.ownBlock = some β → v.ownBlock ≠ some β)
    (hbx : ∀ d cs β, s.b[d]? = some (some cs) → g.bx d = some β → v.ownBlock ≠ some β)
    (htb : ∀ β, v.ownBlock = some β → F.w0.heap.size ≤ β ∨ F.TB β) : Inv P F (g.tok n v E) s a w := by
  have hle : g.Le (g.tok n v E) w w := ⟨fun β j hj => ⟨hj, rfl⟩, fun m v' hm => by
    show (if m = n then some (v, E) else g.tk m) = some v'
    rw [if_neg (by rintro rfl; rw [hn] at hm; cases hm)]; exact hm, fun d β hd => hd⟩
  have key : ∀ m v' E', (g.tok n v E).tk m = some (v', E') → (m = n ∧ v' = v ∧ E' = E) ∨ (m ≠ n ∧ g.tk m = some (v', E')) := fun m v' E' hm => by
    have hm' : (if m = n then some (v, E) else g.tk m) = some (v', E') := hm
    by_cases e : m = n
    · rw [if_pos e] at hm'; cases hm'; exact .inl ⟨e, rfl, rfl⟩
    · rw [if_neg e] at hm'; exact .inr ⟨e, hm'⟩
  refine ⟨⟨h.mem.gsz, fun d cs hd => ?_, h.mem.apart, fun m v' E' hm => ?_, fun m m' v1 v2 E1 E2 β hm hm' hv hv' => ?_, fun m v' E' β d cs hm hv hd hβ => ?_, h.mem.ty⟩, h.blen, h.len, fun i x hi => ?_, h.dfr, h.fr, h.g0, h.gfr, fun m v' E' β hm hv => ?_, h.bb, h.pbx⟩
  · obtain ⟨β, us, T, e1, e2, e3, e4, e5⟩ := h.mem.box d cs hd
    exact ⟨β, us, T, e1, e2, e3, e4, fun j c hc => let ⟨u, hu, hr⟩ := e5 j c hc; ⟨u, hu, hr.mono hle⟩⟩
  · rcases key m v' E' hm with ⟨_, rfl, rfl⟩ | ⟨_, hm⟩
    · exact hO
    · exact h.mem.own m v' E' hm
  · rcases key m v1 E1 hm with ⟨rfl, rfl, rfl⟩ | ⟨n1, hm1⟩ <;> rcases key m' v2 E2 hm' with ⟨rfl, rfl, rfl⟩ | ⟨n2, hm2⟩
    · rfl
    · exact absurd hv (hap m' v2 E2 β hm2 hv')
    · exact absurd hv' (hap m v1 E1 β hm1 hv)
    · exact h.mem.tkap m m' v1 v2 E1 E2 β hm1 hm2 hv hv'
  · rcases key m v' E' hm with ⟨rfl, rfl, rfl⟩ | ⟨n1, hm⟩
    · exact hbx d cs β hd hβ hv
    · exact h.mem.tkbx m v' E' β d cs hm hv hd hβ
  · obtain ⟨u, h1, h2⟩ := h.tm i x hi
    exact ⟨u, h1, h2.mono hle⟩
  · rcases key m v' E' hm with ⟨rfl, rfl, rfl⟩ | ⟨n1, hm⟩
    · exact htb β hv
    · exact h.tb m v' E' β hm hv
theorem tok_tok (f h : Option Nat → Option Nat) : (s.tok f).tok h = s.tok (fun t => h (f t)) := by
  have e1 : ∀ x : AV, (x.tok1 f).tok1 h = x.tok1 (fun t => h (f t)) := fun x => by cases x <;> rfl
  have e2 : ∀ x : AV, (x.tok2 f).tok2 h = x.tok2 (fun t => h (f t)) := fun x => by
    cases x <;> first | rfl | (show AV.agg (List.map _ (List.map _ _)) = AV.agg _; rw [List.map_map]; congr 1; exact List.map_congr_left fun c _ => e1 c)
  have h0 : ∀ x : AV, (x.tok f).tok h = x.tok (fun t => h (f t)) := fun x => by
    cases x <;> first | rfl | exact e2 (.agg _) | (show AV.tup (List.map _ (List.map _ _)) = AV.tup _; rw [List.map_map]; congr 1; exact List.map_congr_left fun c _ => e2 c)
  show (⟨(s.t.map _).map _, (s.b.map _).map _⟩ : St) = ⟨s.t.map _, s.b.map _⟩
  rw [List.map_map, List.map_map]
  congr 1
  · exact List.map_congr_left fun c _ => h0 c
  · refine List.map_congr_left fun o _ => ?_
    cases o with
    | none => rfl
    | some cs =>
      show some (List.map _ (List.map _ cs)) = some _
      rw [List.map_map]
      congr 1
      exact List.map_congr_left fun c _ => e1 c
theorem kill_kill (d : Nat) : (s.kill d).kill d = s.kill d := by
  show (s.tok _).tok _ = s.tok _
  rw [tok_tok]
  congr 1
  funext t
  cases t with
  | none => rfl
  | some m =>
    show killF d (bif m == d then none else some m) = (bif m == d then none else some m)
    cases hm : m == d
    · show (bif m == d then none else some m) = _
      rw [hm]
    · rfl
def St.drop (s : St) (d : Nat) : St := ⟨s.t.map (AV.nobox d), (s.b.map (Option.map (List.map (AV.nobox1 d)))).set d none⟩
theorem nobox_0 {d : Nat} {x : AV} {v : Value} (h : Rep1 g x v) : Rep1 (g.box d none) (x.nobox0 d) v := by
  cases x with
  | box e o =>
    obtain ⟨β, hb, hv⟩ := h
    by_cases hed : e = d
    · subst hed
      simp only [AV.nobox0, beq_self_eq_true, cond_true]
      rw [hv]; rfl
    · have : (e == d) = false := by simpa using hed
      simp only [AV.nobox0, this, cond_false]
      exact ⟨β, by show (if e = d then none else g.bx e) = some β; rw [if_neg hed]; exact hb, hv⟩
  | _ => exact h
theorem nobox_C {d : Nat} {x : AV} {v : Value} (h : RepC P g w x v) : RepC P (g.box d none) w (x.nobox1 d) v := by
  cases x with
  | box e o =>
    obtain ⟨β, hb, hv⟩ := h
    by_cases hed : e = d
    · subst hed
      simp only [AV.nobox1, beq_self_eq_true, cond_true]
      rw [hv]; rfl
    · have : (e == d) = false := by simpa using hed
      simp only [AV.nobox1, this, cond_false]
      exact ⟨β, by show (if e = d then none else g.bx e) = some β; rw [if_neg hed]; exact hb, hv⟩
  | fn f xs cs =>
    obtain ⟨us, ws, e0, e2, e3, e4, e5⟩ := h
    refine ⟨us, ws, e0, by simp [e2], by simp [e3], fun j c hj => ?_, fun j c hj => ?_⟩ <;> rw [List.getElem?_map] at hj <;> obtain ⟨c0, hc0, rfl⟩ := Option.map_eq_some_iff.1 hj
    · obtain ⟨u, a, b⟩ := e4 j c0 hc0; exact ⟨u, a, nobox_0 b⟩
    · obtain ⟨u, a, b⟩ := e5 j c0 hc0; exact ⟨u, a, nobox_0 b⟩
  | _ => exact h
theorem nobox_T {d : Nat} {x : AV} {v : Value} (h : RepT P g w x v) : RepT P (g.box d none) w (x.nobox2 d) v := by
  cases x with
  | agg cs =>
    obtain ⟨vs, h1, h2, h3⟩ := h
    refine ⟨vs, h1, by simp [h2], fun j c hj => ?_⟩
    rw [List.getElem?_map] at hj
    obtain ⟨c0, hc0, rfl⟩ := Option.map_eq_some_iff.1 hj
    obtain ⟨u, hu, hr⟩ := h3 j c0 hc0
    exact ⟨u, hu, nobox_C hr⟩
  | box e o => exact (nobox_C (d := d) (show RepC P g w (.box e o) v from h)).T
  | fn f xs cs => exact (nobox_C (d := d) (show RepC P g w (.fn f xs cs) v from h)).T
  | dead => exact trivial
  | _ => exact h
theorem nobox_S {d : Nat} {x : AV} {v : Value} (h : RepS P g w x v) : RepS P (g.box d none) w (x.nobox d) v := by
  cases x with
  | tup cs =>
    obtain ⟨vs, h1, h2, h3⟩ := h
    refine ⟨vs, h1, by simp [h2], fun j c hj => ?_⟩
    rw [List.getElem?_map] at hj
    obtain ⟨c0, hc0, rfl⟩ := Option.map_eq_some_iff.1 hj
    obtain ⟨u, hu, hr⟩ := h3 j c0 hc0
    exact ⟨u, hu, nobox_T hr⟩
  | agg cs => exact (nobox_T (d := d) (show RepT P g w (.agg cs) v from h)).S
  | box e o => exact (nobox_C (d := d) (show RepC P g w (.box e o) v from h)).S
  | fn f xs cs => exact (nobox_C (d := d) (show RepC P g w (.fn f xs cs) v from h)).S
  | dead => exact trivial
  | _ => exact h
theorem Inv.drop (h : Inv P F g s a w) (d : Nat) (hd : F.np ≤ d) : Inv P F (g.box d none) (s.drop d) a w := by
  refine h.wk rfl (by simp [St.drop]) (by simp [St.drop]) (fun i x' hi => ?_) (fun e cs' he => ?_) id (fun n v hn => hn) (fun _ _ _ _ e => e) (fun i hi _ => by show (if i = d then none else g.bx i) = g.bx i; rw [if_neg (by omega)])
  · simp only [St.drop, List.getElem?_map] at hi
    obtain ⟨x, hx, rfl⟩ := Option.map_eq_some_iff.1 hi
    exact ⟨x, hx, fun v hv => nobox_S hv⟩
  · simp only [St.drop, List.getElem?_set, List.getElem?_map] at he
    split at he
    · split at he <;> cases he
    · rename_i hne
      obtain ⟨o, ho, he⟩ := Option.map_eq_some_iff.1 he
      obtain ⟨cs, rfl, rfl⟩ := Option.map_eq_some_iff.1 he
      refine ⟨cs, ho, by simp, by show (if e = d then none else g.bx e) = g.bx e; rw [if_neg (Ne.symm hne)], fun j c' hj => ?_⟩
      rw [List.getElem?_map] at hj
      obtain ⟨c, hc, rfl⟩ := Option.map_eq_some_iff.1 hj
      refine ⟨c, hc, fun T β u hu => ?_⟩
      by_cases hs : ∃ T', c = .self T'
      · obtain ⟨T', rfl⟩ := hs; exact hu
      · rw [RepB.eq (fun T' e => hs ⟨T', e⟩)] at hu
        exact RepB.of (nobox_C hu)
theorem Inv.addBox (h : Inv P F g s a w) {d : Nat} (hd : F.np ≤ d) (hlt : d < s.t.length) (hb : s.b[d]? = some none) (hg : g.bx d = none) {w1 : World} {us : Array Value} {T : TypeId} (hT8 : T ≠ u8Id) (hw : Push w w1 (.cells us T (0, 0))) {cs : List AV} (hsz : us.size = cs.length)
    (hr : ∀ (j : Nat) c, cs[j]? = some c → ∃ u, us[j]? = some u ∧ RepB P g w T w.heap.size j c u) :
    Inv P F (g.box d (some w.heap.size)) ((s.setBox d cs).put (some d) (.box d 0)) (a.put (some d) (.pointer (some ⟨w.heap.size, 0, none⟩))) w1 := by
  have hle : g.Le (g.box d (some w.heap.size)) w w1 := ⟨fun β j hj => ⟨hj, hw.cell (h.mem.gsz β j hj)⟩, fun n v hv => hv, fun e β he => by
    show (if e = d then some w.heap.size else g.bx e) = some β
    rw [if_neg (by rintro rfl; rw [hg] at he; cases he)]; exact he⟩
  have hbl : d < s.b.length := by rw [h.blen]; exact hlt
  have hbx : ∀ e cs', (s.b.set d (some cs))[e]? = some (some cs') → (e = d ∧ cs' = cs) ∨ (e ≠ d ∧ s.b[e]? = some (some cs')) := fun e cs' he => by
    rw [List.getElem?_set] at he
    split at he
    · rename_i e1
      (try rw [if_pos hbl] at he)
      cases he
      exact .inl ⟨e1.symm, rfl⟩
    · rename_i e1; exact .inr ⟨Ne.symm e1, he⟩
  have hgd : (g.box d (some w.heap.size)).bx d = some w.heap.size := by show (if d = d then some w.heap.size else g.bx d) = _; rw [if_pos rfl]
  have hge : ∀ e, e ≠ d → (g.box d (some w.heap.size)).bx e = g.bx e := fun e he => by show (if e = d then some w.heap.size else g.bx e) = _; rw [if_neg he]
  have hbs : ∀ e cs' β, s.b[e]? = some (some cs') → g.bx e = some β → β < w.heap.size := fun e cs' β he hβ => by
    obtain ⟨β', us', T', e1, e2, _⟩ := h.mem.box e cs' he
    rw [hβ] at e1; cases e1
    exact (Array.getElem?_eq_some_iff.1 e2).1
  have hI : Inv P F (g.box d (some w.heap.size)) (s.setBox d cs) a w1 := by
    refine ⟨⟨fun β j hj => by have := h.mem.gsz β j hj; rw [hw.size]; omega, fun e cs' he => ?_, fun e e' β cs1 cs2 he he' hβ hβ' => ?_, fun n v E hn => ?_, h.mem.tkap, fun n v E β e cs' hn hv he hβ => ?_, fun e cs' β he hβ => (by
      rcases hbx e cs' he with ⟨rfl, rfl⟩ | ⟨hne, he⟩
      · rw [hgd] at hβ; cases hβ; exact ⟨us, T, _, hw.new, hT8⟩
      · exact (h.mem.ty e cs' β he ((hge e hne) ▸ hβ)).mono (hw.fr F.T))⟩, by simpa [St.setBox] using h.blen, h.len, fun i x hi => ?_, h.dfr, h.fr.trans (hw.fr F.T) (fun _ _ _ t => t) (fun _ _ _ t => t), h.g0, h.gfr, h.tb, fun e cs' β he hβ => ?_, fun i hi hn => ?_⟩
    · rcases hbx e cs' he with ⟨rfl, rfl⟩ | ⟨hne, he⟩
      · exact ⟨_, us, T, hgd, hw.new, hsz, fun j hj => by have := h.mem.gsz _ _ hj; omega, fun j c hc => let ⟨u, hu, hh⟩ := hr j c hc; ⟨u, hu, hh.mono hle⟩⟩
      · obtain ⟨β, us', T', e1, e2, e3, e4, e5⟩ := h.mem.box e cs' he
        exact ⟨β, us', T', (hge e hne).trans e1, (hw.old (Array.getElem?_eq_some_iff.1 e2).1).trans e2, e3, e4, fun j c hc => let ⟨u, hu, hh⟩ := e5 j c hc; ⟨u, hu, hh.mono hle⟩⟩
    · rcases hbx e cs1 he with ⟨rfl, rfl⟩ | ⟨hne, he1⟩ <;> rcases hbx e' cs2 he' with ⟨rfl, rfl⟩ | ⟨hne', he2⟩
      · rfl
      · rw [hgd] at hβ; cases hβ
        have := hbs e' cs2 _ he2 ((hge e' hne') ▸ hβ'); omega
      · rw [hgd] at hβ'; cases hβ'
        have := hbs e cs1 _ he1 ((hge e hne) ▸ hβ); omega
      · exact h.mem.apart e e' β cs1 cs2 he1 he2 ((hge e hne) ▸ hβ) ((hge e' hne') ▸ hβ')
    · exact (h.mem.own n v E hn).keep fun β hβ => ⟨hw.old ((h.mem.own n v E hn).lt hβ), fun j hj => hj⟩
    · rcases hbx e cs' he with ⟨rfl, rfl⟩ | ⟨hne, he⟩
      · rw [hgd] at hβ; cases hβ
        have := (h.mem.own n v E hn).lt hv; omega
      · exact h.mem.tkbx n v E β e cs' hn hv he ((hge e hne) ▸ hβ)
    · obtain ⟨v, h1, h2⟩ := h.tm i x hi
      exact ⟨v, h1, h2.mono hle⟩
    · rcases hbx e cs' he with ⟨rfl, rfl⟩ | ⟨hne, he⟩
      · rw [hgd] at hβ; cases hβ; exact .inl h.fr.size
      · exact h.bb e cs' β he ((hge e hne) ▸ hβ)
    · rw [hge i (by omega)]; exact h.pbx i hi hn
  exact hI.put (some d) (x := .box d 0) ⟨_, hgd, rfl⟩
structure Wr (w w1 : World) (β0 : Nat) (us' : Array Value) (T : TypeId) (fz : Nat × Nat) : Prop where
  other : ∀ β, β ≠ β0 → w1.heap[β]? = w.heap[β]?
  new : w1.heap[β0]? = some (.cells us' T fz)
  size : w1.heap.size = w.heap.size
  os : w1.os = w.os
  tape : w1.tape = w.tape
  output : w1.output = w.output
theorem Wr.setRow {w : World} {β0 : Nat} {us us' : Array Value} {T : TypeId} {fz : Nat × Nat} (h : w.heap[β0]? = some (.cells us T fz)) : Wr w (w.setRow β0 us') β0 us' T fz :=
  ⟨fun β hβ => setRow_other w β0 β us' hβ, setRow_heap w β0 us us' T fz h, by simp [World.setRow], rfl, rfl, rfl⟩
theorem Inv.touch (h : Inv P F g s a w) {w1 : World} {β0 K : Nat} {us us' : Array Value} {T : TypeId} {fz : Nat × Nat} (h0 : w.heap[β0]? = some (.cells us T fz)) (hw : Wr w w1 β0 us' T fz)
    (hs : us'.size = us.size) (h1c : ∀ (j : Nat) u, us'[j]? = some u → us[j]? = some u ∨ u.oneCell' = true) (hG : ∀ j, g.G β0 j → us'[j]? = us[j]?) (htk : ∀ n v E, g.tk n = some (v, E) → v.ownBlock ≠ some β0) (hbx : ∀ d cs, s.b[d]? = some (some cs) → g.bx d ≠ some β0) (hT : β0 < F.w0.heap.size → F.TB β0) :
    Inv P F (g.more β0 K) s a w1 := by
  have hlt := (Array.getElem?_eq_some_iff.1 h0).1
  have hsame := hw.other
  have hnew := hw.new
  have hcell : ∀ β j, g.G β j → w1.cell? ⟨β, j, none⟩ = w.cell? ⟨β, j, none⟩ := fun β j hj => by
    by_cases e : β = β0
    · subst e
      simp [World.cell?, hnew, h0, hG j hj]
    · exact World.cell?_of_block (a := ⟨β, j, none⟩) (hsame β e)
  have hle : g.Le (g.more β0 K) w w1 := ⟨fun β j hj => ⟨.inl hj, hcell β j hj⟩, fun n v hv => hv, fun d β hd => hd⟩
  have hsz := hw.size
  refine ⟨⟨fun β j hj => ?_, fun d cs hd => ?_, h.mem.apart, fun n v E hn => ?_, h.mem.tkap, h.mem.tkbx, fun d cs β hd hβ => (h.mem.ty d cs β hd hβ).same (hsame β fun e => hbx d cs hd (e ▸ hβ))⟩, h.blen, h.len, fun i x hi => ?_, h.dfr, h.fr.trans (T' := fun β j => β = β0 ∧ ¬ g.G β j) ⟨hw.os, hw.tape, hw.output, by omega, fun β o hβ => ?_⟩ (fun _ _ _ t => t) (fun β j hβ t => ?_), fun β j hj => .inl (h.g0 β j hj), fun β j hj hlt' => ?_, h.tb, h.bb, h.pbx⟩
  · rcases hj with hj | ⟨rfl, _⟩
    · have := h.mem.gsz β j hj; omega
    · omega
  · obtain ⟨β, us2, T2, e1, e2, e3, e4, e5⟩ := h.mem.box d cs hd
    have hne : β ≠ β0 := fun e => hbx d cs hd (e ▸ e1)
    refine ⟨β, us2, T2, e1, (hsame β hne).trans e2, e3, fun j hj => ?_, fun j c hc => let ⟨u, hu, hr⟩ := e5 j c hc; ⟨u, hu, hr.mono hle⟩⟩
    rcases hj with hj | ⟨rfl, _⟩
    · exact e4 j hj
    · exact hne rfl
  · exact (h.mem.own n v E hn).keep fun β hβ => by
      have hne : β ≠ β0 := fun e => htk n v E hn (e ▸ hβ)
      refine ⟨hsame β hne, fun j hj => ?_⟩
      rcases hj with hj | ⟨rfl, _⟩
      · exact hj
      · exact absurd rfl hne
  · obtain ⟨v, h1, h2⟩ := h.tm i x hi
    exact ⟨v, h1, h2.mono hle⟩
  · by_cases e : β = β0
    · subst e
      rw [h0] at hβ
      cases hβ
      refine .inr ⟨us, T, fz, us', fz, rfl, hnew, hs, fun j hj => ?_, .inl rfl, h1c⟩
      by_cases hg : g.G β j
      · exact hG j hg
      · exact absurd ⟨rfl, hg⟩ hj
    · exact .inl ((hsame β e).trans hβ)
  · obtain ⟨rfl, hg⟩ := t
    exact .inr ⟨hT hβ, fun hF => hg (h.g0 _ _ hF)⟩
  · rcases hj with hj | ⟨rfl, _⟩
    · exact h.gfr β j hj hlt'
    · exact .inr (hT hlt')
theorem Inv.setBox (h : Inv P F g s a w) {d β0 : Nat} {w1 : World} {cs cs' : List AV} {us us' : Array Value} {T : TypeId} (hd : s.b[d]? = some (some cs)) (hβ : g.bx d = some β0) (h0 : w.heap[β0]? = some (.cells us T (0, 0))) (hw : Wr w w1 β0 us' T (0, 0))
    (hs : us'.size = us.size) (hl : cs'.length = cs.length) (hr : ∀ (j : Nat) c, cs'[j]? = some c → ∃ u, us'[j]? = some u ∧ RepB P g w T β0 j c u) :
    Inv P F g (s.setBox d cs') a w1 := by
  have hlt := (Array.getElem?_eq_some_iff.1 h0).1
  obtain ⟨β', us0, T0, b1, b2, b3, b4, b5⟩ := h.mem.box d cs hd
  rw [hβ] at b1
  cases b1
  rw [h0] at b2
  cases b2
  have hsame := hw.other
  have hnew := hw.new
  have hle : g.Le g w w1 := ⟨fun β j hj => ⟨hj, World.cell?_of_block (a := ⟨β, j, none⟩) (hsame β fun e => b4 j (e ▸ hj))⟩, fun n v hv => hv, fun d β hd => hd⟩
  have hsz := hw.size
  have hbl : d < s.b.length := (List.getElem?_eq_some_iff.1 hd).1
  have hbx : ∀ e c1, (s.b.set d (some cs'))[e]? = some (some c1) → (e = d ∧ c1 = cs') ∨ (e ≠ d ∧ s.b[e]? = some (some c1)) := fun e c1 he => by
    rw [List.getElem?_set] at he
    split at he
    · rename_i e1
      (try rw [if_pos hbl] at he)
      cases he
      exact .inl ⟨e1.symm, rfl⟩
    · rename_i e1; exact .inr ⟨Ne.symm e1, he⟩
  have hold : ∀ e c1, (s.b.set d (some cs'))[e]? = some (some c1) → ∃ c2, s.b[e]? = some (some c2) := fun e c1 he => by
    rcases hbx e c1 he with ⟨rfl, _⟩ | ⟨_, he⟩
    · exact ⟨cs, hd⟩
    · exact ⟨c1, he⟩
  refine ⟨⟨fun β j hj => by have := h.mem.gsz β j hj; omega, fun e c1 he => ?_, fun e e' β c1 c2 he he' hβ1 hβ2 => ?_, fun n v E hn => ?_, h.mem.tkap, fun n v E β e c1 hn hv he hβ1 => ?_, fun e c1 β he hβ1 => (by
    obtain ⟨c3, he⟩ := hold e c1 he
    obtain ⟨us1, U, fz, q1, q2⟩ := h.mem.ty e c3 β he hβ1
    by_cases e0 : β = β0
    · rw [e0] at q1 ⊢
      rw [h0] at q1
      cases q1
      exact ⟨us', _, _, hnew, q2⟩
    · exact ⟨us1, U, fz, (hsame β e0).trans q1, q2⟩)⟩, by simpa [St.setBox] using h.blen, h.len, fun i x hi => ?_, h.dfr, h.fr.trans (T' := fun β j => β = β0) ⟨hw.os, hw.tape, hw.output, by omega, fun β o hbo => ?_⟩ (fun _ _ _ t => t) (fun β j hβ1 t => ?_), h.g0, h.gfr, h.tb, fun e c1 β he hβ1 => ?_, h.pbx⟩
  · rcases hbx e c1 he with ⟨rfl, rfl⟩ | ⟨hne, he⟩
    · exact ⟨β0, us', T, hβ, hnew, by rw [hs, b3, hl], b4, fun j c hc => let ⟨u, hu, hh⟩ := hr j c hc; ⟨u, hu, hh.mono hle⟩⟩
    · obtain ⟨β, us2, T2, e1, e2, e3, e4, e5⟩ := h.mem.box e c1 he
      have : β ≠ β0 := fun e0 => hne (h.mem.apart e d β0 c1 cs he hd (e0 ▸ e1) hβ)
      exact ⟨β, us2, T2, e1, (hsame β this).trans e2, e3, e4, fun j c hc => let ⟨u, hu, hh⟩ := e5 j c hc; ⟨u, hu, hh.mono hle⟩⟩
  · obtain ⟨c3, he⟩ := hold e c1 he
    obtain ⟨c4, he'⟩ := hold e' c2 he'
    exact h.mem.apart e e' β c3 c4 he he' hβ1 hβ2
  · exact (h.mem.own n v E hn).keep fun β hβ1 => ⟨hsame β fun e => h.mem.tkbx n v E β0 d cs hn (e ▸ hβ1) hd hβ, fun j hj => hj⟩
  · obtain ⟨c3, he⟩ := hold e c1 he
    exact h.mem.tkbx n v E β e c3 hn hv he hβ1
  · obtain ⟨v, h1, h2⟩ := h.tm i x hi
    exact ⟨v, h1, h2.mono hle⟩
  · by_cases e : β = β0
    · rw [e] at hbo ⊢
      rw [h0] at hbo
      cases hbo
      refine .inr ⟨us, T, (0, 0), us', (0, 0), rfl, hnew, hs, fun j hj => absurd rfl hj, .inl rfl, fun j u hu => .inr ?_⟩
      have hj : j < cs'.length := by have := (Array.getElem?_eq_some_iff.1 hu).1; omega
      obtain ⟨u', hu', hru⟩ := hr j _ (List.getElem?_eq_getElem hj)
      rw [hu] at hu'
      cases hu'
      exact hru.one
    · exact .inl ((hsame β e).trans hbo)
  · subst t
    rcases h.bb d cs β hd hβ with hb | hb
    · omega
    · exact .inl hb
  · obtain ⟨c3, he⟩ := hold e c1 he
    exact h.bb e c3 β he hβ1
end
end Go.Proofs.YtckdgcpomkefpaaGreatDoor.En
end
section
set_option linter.unusedVariables false
set_option linter.unusedSimpArgs false
namespace Go.Proofs.YtckdgcpomkefpaaGreatDoor.En
open Go
section
variable {P : Program} {F : Fx} {g : Gh} {s : St} {a : Act} {w : World}
theorem wp_value {o : Oper} {K : Act → World → Prop} {Q : Exit → Act → World → Prop} {v : Value} {w' : World} (h : (execOp a.eval o).run P w = .ok (.value v) w') (hK : K (a.put o.dst v) w') : o.wp P a w K Q := by
  unfold Oper.wp; rw [h]; exact hK
theorem wp_skip' {o : Oper} {K : Act → World → Prop} {Q : Exit → Act → World → Prop} {w' : World} (h : (execOp a.eval o).run P w = .ok .skip w') (hK : K (a.put o.dst undef) w') : o.wp P a w K Q := by
  unfold Oper.wp; rw [h]; exact hK
theorem Inv.assign (h : Inv P F g s a w) {T : TypeId} {d : Nat} {x : AV} {v : Value} (hx : RepS P g w x v) : ∃ g', Inv P F g' (s.assign P T d x) (a.put (some d) v) w := by
  unfold St.assign
  split
  · rename_i n E l
    cases hn : (n == d)
    · simp only [cond_false]
      have hne : n ≠ d := by simpa using hn
      have h1 := h.kills (killF_kills d)
      have hd0 : (g.kills (killF d)).tk d = none := kills_tk (killF_kills d) (killF_self d)
      have h2 := h1.ren hd0 hne
      obtain ⟨hr, ht⟩ := (show RepC P g w (.row (some n) E l) v from hx)
      refine ⟨_, h2.put (some d) (x := .row (some d) E l) ⟨hr, fun m hm => ?_⟩⟩
      cases hm
      show (if d = d then (g.kills (killF d)).tk n else if d = n then none else (g.kills (killF d)).tk d) = some (v, E)
      rw [if_pos rfl]
      show (match killF d (some n) with | some _ => g.tk n | none => none) = some (v, E)
      have : killF d (some n) = some n := by simp [killF, hn]
      rw [this]
      exact ht n rfl
    · have : n = d := by simpa using hn
      exact ⟨g, h.put (some d) hx⟩
  · split
    · rename_i E hE
      have h1 := h.kills (killF_kills d)
      have hd0 : (g.kills (killF d)).tk d = none := kills_tk (killF_kills d) (killF_self d)
      have h2 := h1.nils (N := one1 d E) (fun m hm => by
        unfold one1 at hm
        by_cases e : m = d
        · rw [e]; exact hd0
        · rw [if_neg e] at hm; exact absurd rfl hm)
      obtain ⟨rfl, _⟩ := (show v = .slice none 0 0 ∧ _ from hx)
      refine ⟨_, h2.put (some d) (x := .row (some d) E []) ⟨.nil _ _ _, fun m hm => ?_⟩⟩
      cases hm
      show (match one1 d E d with | some E => some (Value.slice none 0 0, E) | none => _) = _
      simp [one1]
    · exact ⟨g, h.put (some d) hx⟩
  · exact ⟨g, h.put (some d) hx⟩
theorem cellsAt_get (o : Option TypeId) (d : Nat) : ∀ (j0 : Nat) (ks : List CK) (cs : List AV), ks.length = cs.length → ∀ i : Nat, (cellsAt o d j0 ks cs)[i]? = (cs[i]?).bind fun c => (ks[i]?).map fun k => cellAt o d (j0 + i) k c
  | j0, [], [], _, i => by simp [cellsAt]
  | j0, k :: ks, c :: cs, h, 0 => by simp [cellsAt]
  | j0, k :: ks, c :: cs, h, i + 1 => by
    have := cellsAt_get o d (j0 + 1) ks cs (by simpa using h) i
    simp only [cellsAt, List.getElem?_cons_succ, this, Nat.add_assoc, Nat.add_comm 1 i]
  | _, [], _ :: _, h, _ => by simp at h
  | _, _ :: _, [], h, _ => by simp at h
theorem cellsAt_len (o : Option TypeId) (d : Nat) : ∀ (j0 : Nat) (ks : List CK) (cs : List AV), ks.length = cs.length → (cellsAt o d j0 ks cs).length = cs.length
  | j0, [], [], _ => rfl
  | j0, k :: ks, c :: cs, h => by simp [cellsAt, cellsAt_len o d (j0 + 1) ks cs (by simpa using h)]
  | _, [], _ :: _, h => by simp at h
  | _, _ :: _, [], h => by simp at h
theorem cellAt_rep {g' : Gh} {T : TypeId} {d j β : Nat} {k : CK} {c : AV} {u : Value} (hG : g'.G = g.G) (hb : ∀ e, e ≠ d → g'.bx e = g.bx e) (hN : ∀ E, k = .row E → g'.tk (sub d j) = some (.slice none 0 0, E)) (h : RepC P g w c u) :
    RepB P g' w T β j ((cellAt (some T) d j k c).nobox1 d) u := by
  cases c with
  | v x =>
    obtain ⟨rfl, h1⟩ := h
    by_cases e1 : u = .slice none 0 0
    · subst e1
      cases k with
      | row E => exact ⟨.nil _ _ _, fun n hn => by cases hn; exact hN E rfl⟩
      | _ => exact ⟨rfl, h1⟩
    · by_cases e2 : u = .pointer none
      · subst e2
        cases k with
        | self => exact ⟨rfl, .inl rfl⟩
        | _ => exact ⟨rfl, h1⟩
      · have : cellAt (some T) d j k (.v u) = .v u := by
          unfold cellAt
          split <;> first | rfl | (rename_i e; cases e; first | exact absurd rfl e1 | exact absurd rfl e2 | rfl) | skip
          all_goals (rename_i e; cases e)
        rw [this]
        exact ⟨rfl, h1⟩
  | row t E l => exact ⟨hG ▸ h.1, fun n hn => by cases hn⟩
  | box e o =>
    obtain ⟨β', h1, h2⟩ := h
    by_cases hed : e = d
    · subst hed
      have : (cellAt (some T) e j k (.box e o)).nobox1 e = .dead := by simp [cellAt, AV.nobox1]
      rw [this, h2]; rfl
    · have h0 : (e == d) = false := by simpa using hed
      have : (cellAt (some T) d j k (.box e o)).nobox1 d = .box e o := by simp [cellAt, AV.nobox1, h0]
      rw [this]
      exact ⟨β', (hb e hed).trans h1, h2⟩
  | fn f xs cs =>
    have key : ∀ (x : AV) (v : Value), Rep1 g x v → Rep1 g' (x.nobox0 d) v := fun x v hx => by
      cases x with
      | box e o =>
        obtain ⟨β', h1, h2⟩ := hx
        by_cases hed : e = d
        · subst hed
          have : (AV.box e o).nobox0 e = .dead := by simp [AV.nobox0]
          rw [this, h2]; rfl
        · have h0 : (e == d) = false := by simpa using hed
          have : (AV.box e o).nobox0 d = .box e o := by simp [AV.nobox0, h0]
          rw [this]
          exact ⟨β', (hb e hed).trans h1, h2⟩
      | _ => exact hx
    obtain ⟨us, ws, e0, e2, e3, e4, e5⟩ := h
    refine ⟨us, ws, e0, by simp [e2], by simp [e3], fun j c hj => ?_, fun j c hj => ?_⟩ <;> rw [List.getElem?_map] at hj <;> obtain ⟨c0, hc0, rfl⟩ := Option.map_eq_some_iff.1 hj
    · obtain ⟨u, a, b⟩ := e4 j c0 hc0; exact ⟨u, a, key _ _ b⟩
    · obtain ⟨u, a, b⟩ := e5 j c0 hc0; exact ⟨u, a, key _ _ b⟩
  | ro cs =>
    obtain ⟨β', o, h1, h2⟩ := h
    refine ⟨β', o, h1, fun i c hi => ?_⟩
    obtain ⟨u, e1, e2, e3⟩ := h2 i c hi
    refine ⟨u, e1, by rw [hG]; exact e2, ?_⟩
    cases c <;> simp only [Rep0] at e3 ⊢ <;> first | exact e3 | exact ⟨e3.1, hG ▸ e3.2⟩
  | err => exact h
  | dead => exact h
  | agg cs => exact h.elim
  | tup cs => exact h.elim
  | self => exact h.elim
def subN (d : Nat) (ks : List CK) (n : Nat) : Option TypeId := if n / 1024 = d + 1 then (match ks[n % 1024]? with | some (.row E) => some E | _ => none) else none
theorem Inv.newBox (h : Inv P F g s a w) {d : Nat} (hd : F.np ≤ d) (hlt : d < s.t.length) {w1 : World} {us : Array Value} {T : TypeId} (hT8 : T ≠ u8Id) (hw : Push w w1 (.cells us T (0, 0))) {ks : List CK} {cs : List AV} (hk : ks.length ≤ 1024) (hkc : ks.length = cs.length) (hsz : us.size = cs.length)
    (hr : ∀ (j : Nat) c, cs[j]? = some c → ∃ u, us[j]? = some u ∧ RepC P g w c u) :
    ∃ g', Inv P F g' (s.newBox d (cellsAt (some T) d 0 ks cs)) (a.put (some d) (.pointer (some ⟨w.heap.size, 0, none⟩))) w1 := by
  have hkl := killsF_kills d 0 1024
  have h1 := h.kills hkl
  have h2 := h1.drop d hd
  have hN : ∀ n, subN d ks n ≠ none → ((g.kills (killsF d 0 1024)).box d none).tk n = none := fun n hn => by
    unfold subN at hn
    by_cases e : n / 1024 = d + 1
    · refine kills_tk (g := g) hkl ?_
      have hm : n % 1024 < 1024 := Nat.mod_lt _ (by decide)
      have : n = sub d (n % 1024) := by unfold sub; omega
      rw [this]
      exact killsF_sub d 0 1024 _ hm (Nat.zero_le _) hm
    · rw [if_neg e] at hn; exact absurd rfl hn
  have h3 := h2.nils hN
  have hbl : d < s.b.length := by rw [h.blen]; exact hlt
  have h4 := h3.addBox hd (by simpa [St.drop, St.tok] using hlt) (by simp [St.drop, St.tok, hbl]) (by show (if d = d then none else _) = none; rw [if_pos rfl]) (us := us) (T := T) hT8 hw (cs := (cellsAt (some T) d 0 ks cs).map (AV.nobox1 d)) (by simp [cellsAt_len (some T) d 0 ks cs hkc, hsz]) (fun j c hj => by
    rw [List.getElem?_map, cellsAt_get (some T) d 0 ks cs hkc] at hj
    obtain ⟨c1, hc1, rfl⟩ := Option.map_eq_some_iff.1 hj
    obtain ⟨c0, hc0, hc1⟩ := Option.bind_eq_some_iff.1 hc1
    obtain ⟨k, hkk, rfl⟩ := Option.map_eq_some_iff.1 hc1
    obtain ⟨u, hu, hrc⟩ := hr j c0 hc0
    refine ⟨u, hu, ?_⟩
    rw [Nat.zero_add]
    have hj' : j < 1024 := Nat.lt_of_lt_of_le (List.getElem?_eq_some_iff.1 hkk).1 hk
    refine cellAt_rep (g := g) rfl (fun e he => by show (if e = d then none else g.bx e) = g.bx e; rw [if_neg he]) (fun E hE => ?_) hrc
    show (match subN d ks (sub d j) with | some E => some (Value.slice none 0 0, E) | none => _) = _
    have : subN d ks (sub d j) = some E := by
      unfold subN
      rw [if_pos (sub_div d j hj'), sub_mod d j hj', hkk, hE]
    rw [this])
  have he : s.newBox d (cellsAt (some T) d 0 ks cs) = (((s.tok (killsF d 0 1024)).drop d).setBox d ((cellsAt (some T) d 0 ks cs).map (AV.nobox1 d))).put (some d) (.box d 0) := by
    simp [St.newBox, St.drop, St.setBox, St.put, List.set_set]
  rw [he]
  exact ⟨_, h4⟩
theorem cellAt_rep0 {g' : Gh} {T : TypeId} {d j β : Nat} {k : CK} {c : AV} {u : Value} (hG : g'.G = g.G) (hb : g'.bx = g.bx) (hN : ∀ E, k = .row E → g'.tk (sub d j) = some (.slice none 0 0, E)) (h : RepC P g w c u) :
    RepB P g' w T β j (cellAt none d j k c) u := by
  cases c with
  | v x =>
    obtain ⟨rfl, h1⟩ := h
    by_cases e1 : u = .slice none 0 0
    · subst e1
      cases k with
      | row E => exact ⟨.nil _ _ _, fun n hn => by cases hn; exact hN E rfl⟩
      | _ => exact ⟨rfl, h1⟩
    · by_cases e2 : u = .pointer none
      · subst e2
        cases k with
        | self => exact ⟨rfl, h1⟩
        | _ => exact ⟨rfl, h1⟩
      · have : cellAt none d j k (.v u) = .v u := by
          unfold cellAt
          split <;> first | rfl | (rename_i e; cases e; first | exact absurd rfl e1 | exact absurd rfl e2 | rfl) | skip
          all_goals (rename_i e; cases e)
        rw [this]
        exact ⟨rfl, h1⟩
  | row t E l => exact ⟨hG ▸ h.1, fun n hn => by cases hn⟩
  | box e o =>
    obtain ⟨β', h1, h2⟩ := h
    exact ⟨β', by rw [hb]; exact h1, h2⟩
  | fn f xs cs =>
    have key : ∀ (x : AV) (v : Value), Rep1 g x v → Rep1 g' x v := fun x v hx => by
      cases x with
      | box e o => obtain ⟨β', h1, h2⟩ := hx; exact ⟨β', by rw [hb]; exact h1, h2⟩
      | _ => exact hx
    obtain ⟨us, ws, e0, e2, e3, e4, e5⟩ := h
    exact ⟨us, ws, e0, e2, e3, fun j c hj => let ⟨u, a, b⟩ := e4 j c hj; ⟨u, a, key _ _ b⟩, fun j c hj => let ⟨u, a, b⟩ := e5 j c hj; ⟨u, a, key _ _ b⟩⟩
  | ro cs =>
    obtain ⟨β', o, h1, h2⟩ := h
    refine ⟨β', o, h1, fun i c hi => ?_⟩
    obtain ⟨u, e1, e2, e3⟩ := h2 i c hi
    refine ⟨u, e1, by rw [hG]; exact e2, ?_⟩
    cases c <;> simp only [Rep0] at e3 ⊢ <;> first | exact e3 | exact ⟨e3.1, hG ▸ e3.2⟩
  | err => exact h
  | dead => exact h
  | agg cs => exact h.elim
  | tup cs => exact h.elim
  | self => exact h.elim
theorem boxAt_eq {d : Nat} {cs : List AV} (h : s.boxAt d = some cs) : s.b[d]? = some (some cs) := by
  unfold St.boxAt at h
  rw [List.getD_eq_getElem?_getD] at h
  cases hq : s.b[d]? with
  | none => rw [hq] at h; cases h
  | some o => rw [hq] at h; exact congrArg some h
theorem runs_storeVar {T : TypeId} {β off n : Nat} {us : Array Value} {T0 : TypeId} {v : Value} (hn : szT P T = some n) (hv : v.cells.size = n) (h1 : ∀ u ∈ v.cells.toList, u.oneCell' = true) (hb : w.heap[β]? = some (.cells us T0 (0, 0))) (hle : off + n ≤ us.size) :
    (Instr.storeAt T (.pointer (some ⟨β, off, none⟩)) v).run P w = .ok () (w.setRow β (us.toList.take off ++ v.cells.toList ++ us.toList.drop (off + n)).toArray) := by
  obtain ⟨m, hm, rfl⟩ := runs_sizeOf (P := P) (w := w) hn
  have := run_storeCells_at P β off T0 v.cells.toList 0 us w hb (by simp [hv]; omega) h1
  simp only [Nat.add_zero, Array.length_toList, hv] at this
  simp [Instr.storeAt, Instr.sureAddr, storeVar, hm, hv, this]
theorem splice_get {α : Type} (l new : List α) (off n : Nat) (hn : new.length = n) (hle : off + n ≤ l.length) (j : Nat) : (l.take off ++ (new ++ l.drop (off + n)))[j]? = if off ≤ j ∧ j < off + n then new[j - off]? else l[j]? := by
  by_cases h1 : off ≤ j ∧ j < off + n
  · rw [if_pos h1, List.getElem?_append_right (by simp; omega), List.getElem?_append_left (by simp; omega)]
    simp [Nat.min_eq_left (show off ≤ l.length by omega)]
  · rw [if_neg h1]
    by_cases h2 : j < off
    · rw [List.getElem?_append_left (by simp; omega), List.getElem?_take, if_pos h2]
    · rw [List.getElem?_append_right (by simp; omega), List.getElem?_append_right (by simp; omega), List.getElem?_drop]
      simp only [List.length_take, Nat.min_eq_left (show off ≤ l.length by omega)]
      congr 1
      omega
theorem uniqT_spec : ∀ (cs : List AV) (u : List Nat), (uniqT u cs).length = cs.length ∧ (∀ (j : Nat) c, (uniqT u cs)[j]? = some c → ∃ c0, cs[j]? = some c0 ∧ (c = c0 ∨ ∃ t E l, c0 = .row t E l ∧ c = .row none E l)) ∧
    (∀ (j m : Nat) E l, (uniqT u cs)[j]? = some (.row (some m) E l) → m ∉ u) ∧ ∀ (j j' m : Nat) E l E' l', (uniqT u cs)[j]? = some (.row (some m) E l) → (uniqT u cs)[j']? = some (.row (some m) E' l') → j = j'
  | [], u => ⟨rfl, fun j c h => by simp [uniqT] at h, fun j m E l h => by simp [uniqT] at h, fun j j' m E l E' l' h => by simp [uniqT] at h⟩
  | c :: cs, u => by
    have mk : ∀ (c1 : AV) (u1 : List Nat), uniqT u (c :: cs) = c1 :: uniqT u1 cs → (c1 = c ∨ ∃ t E l, c = .row t E l ∧ c1 = .row none E l) → (∀ m E l, c1 = .row (some m) E l → m ∉ u ∧ m ∈ u1) → (∀ m, m ∈ u → m ∈ u1) → _ := fun c1 u1 he h1 h2 h3 => (by
      obtain ⟨i1, i2, i3, i4⟩ := uniqT_spec cs u1
      rw [he]
      refine ⟨by simp [i1], fun j c' h => ?_, fun j m E l h => ?_, fun j j' m E l E' l' h h' => ?_⟩
      · cases j with
        | zero => simp at h; subst h; exact ⟨c, rfl, h1⟩
        | succ j => exact i2 j c' (by simpa using h)
      · cases j with
        | zero => simp at h; exact (h2 m E l h).1
        | succ j => exact fun hm => i3 j m E l (by simpa using h) (h3 m hm)
      · cases j with
        | zero =>
          simp at h
          cases j' with
          | zero => rfl
          | succ j' => exact absurd (h2 m E l h).2 (i3 j' m E' l' (by simpa using h'))
        | succ j =>
          cases j' with
          | zero => simp at h'; exact absurd (h2 m E' l' h').2 (i3 j m E l (by simpa using h))
          | succ j' => rw [i4 j j' m E l E' l' (by simpa using h) (by simpa using h')] : (uniqT u (c :: cs)).length = (c :: cs).length ∧ (∀ (j : Nat) c', (uniqT u (c :: cs))[j]? = some c' → ∃ c0, (c :: cs)[j]? = some c0 ∧ (c' = c0 ∨ ∃ t E l, c0 = .row t E l ∧ c' = .row none E l)) ∧
        (∀ (j m : Nat) E l, (uniqT u (c :: cs))[j]? = some (.row (some m) E l) → m ∉ u) ∧ ∀ (j j' m : Nat) E l E' l', (uniqT u (c :: cs))[j]? = some (.row (some m) E l) → (uniqT u (c :: cs))[j']? = some (.row (some m) E' l') → j = j')
    cases c with
    | row t E l =>
      cases t with
      | none => exact mk _ _ rfl (.inl rfl) (fun _ _ _ e => by cases e) (fun _ h => h)
      | some n =>
        cases hc : u.contains n
        · exact mk (.row (some n) E l) (n :: u) (by simp only [uniqT, hc, cond_false]) (.inl rfl) (fun m E' l' e => by cases e; exact ⟨by simpa using hc, by simp⟩) (fun m h => by simp [h])
        · exact mk (.row none E l) u (by simp only [uniqT, hc, cond_true]) (.inr ⟨_, _, _, rfl, rfl⟩) (fun _ _ _ e => by cases e) (fun _ h => h)
    | _ => exact mk _ _ rfl (.inl rfl) (fun _ _ _ e => by cases e) (fun _ h => h)
theorem findT_some : ∀ (cs : List AV) (j0 m k : Nat), findT cs j0 m = some k → ∃ j E l, k = j0 + j ∧ cs[j]? = some (.row (some m) E l)
  | [], j0, m, k, h => by cases h
  | c :: cs, j0, m, k, h => by
    have nx : findT cs (j0 + 1) m = some k → ∃ j E l, k = j0 + j ∧ (c :: cs)[j]? = some (.row (some m) E l) := fun h => by
      obtain ⟨j, E, l, h1, h2⟩ := findT_some cs (j0 + 1) m k h
      exact ⟨j + 1, E, l, by omega, by simpa using h2⟩
    unfold findT at h
    split at h
    · rename_i n E l
      cases hn : (n == m) <;> rw [hn] at h
      · exact nx h
      · cases h
        have e : n = m := by simpa using hn
        subst e
        exact ⟨0, E, l, rfl, rfl⟩
    · exact nx h
theorem findT_none : ∀ (cs : List AV) (j0 m : Nat), findT cs j0 m = none → ∀ (j : Nat) E l, cs[j]? ≠ some (.row (some m) E l)
  | [], j0, m, h, j, E, l, e => by simp at e
  | c :: cs, j0, m, h, j, E, l, e => by
    have nx : findT cs (j0 + 1) m = none → (∀ E l, c ≠ .row (some m) E l) → False := fun h hc => by
      cases j with
      | zero => simp at e; exact hc E l e
      | succ j => exact findT_none cs (j0 + 1) m h j E l (by simpa using e)
    unfold findT at h
    split at h
    · rename_i n E' l'
      cases hn : (n == m) <;> rw [hn] at h
      · exact nx h fun E l e => by cases e; simp at hn
      · cases h
    · rename_i hne
      exact nx h fun E l e => hne _ _ _ e
theorem intoL_get (d : Nat) : ∀ (j0 : Nat) (cs zs : List AV), cs.length = zs.length → ∀ j : Nat, (intoL d j0 cs zs)[j]? = (cs[j]?).bind fun c => (zs[j]?).map fun z => c.into d (j0 + j) z
  | j0, [], [], _, j => by simp [intoL]
  | j0, c :: cs, z :: zs, h, 0 => by simp [intoL]
  | j0, c :: cs, z :: zs, h, j + 1 => by
    have := intoL_get d (j0 + 1) cs zs (by simpa using h) j
    simp only [intoL, List.getElem?_cons_succ, this, Nat.add_assoc, Nat.add_comm 1 j]
  | _, [], _ :: _, h, _ => by simp at h
  | _, _ :: _, [], h, _ => by simp at h
theorem intoL_len (d : Nat) : ∀ (j0 : Nat) (cs zs : List AV), cs.length = zs.length → (intoL d j0 cs zs).length = zs.length
  | j0, [], [], _ => rfl
  | j0, c :: cs, z :: zs, h => by simp [intoL, intoL_len d (j0 + 1) cs zs (by simpa using h)]
  | _, [], _ :: _, h => by simp at h
  | _, _ :: _, [], h => by simp at h
def srcT (d off : Nat) (us : List AV) (n : Nat) : Option Nat := if n / 1024 = d + 1 ∧ off ≤ n % 1024 then (match us[n % 1024 - off]? with | some (.row (some m) _ _) => some m | _ => none) else none
theorem srcT_some {d off n m : Nat} {us : List AV} (h : srcT d off us n = some m) : n / 1024 = d + 1 ∧ off ≤ n % 1024 ∧ ∃ E l, us[n % 1024 - off]? = some (.row (some m) E l) := by
  unfold srcT at h
  split at h
  · rename_i hc
    split at h
    · rename_i e; cases h; exact ⟨hc.1, hc.2, _, _, e⟩
    · cases h
  · cases h
theorem srcT_of {d off j m : Nat} {us : List AV} {E : TypeId} {l : List Dat} (hj : off + j < 1024) (h : us[j]? = some (.row (some m) E l)) : srcT d off us (sub d (off + j)) = some m := by
  unfold srcT
  rw [if_pos ⟨sub_div d _ hj, by rw [sub_mod d _ hj]; omega⟩, sub_mod d _ hj, Nat.add_sub_cancel_left, h]
theorem moveF_eq (d off hi m : Nat) (us : List AV) : moveF d off hi us (some m) = (match findT us off m with | some j => some (sub d j) | none => killsF d off hi (some m)) := rfl
def Gh.move (g : Gh) (d off hi : Nat) (us : List AV) : Gh := { g with tk := fun n => match srcT d off us n with
  | some m => g.tk m
  | none => (match moveF d off hi us (some n) with | some n' => if n' = n then g.tk n else none | none => none) }
theorem Inv.move (h : Inv P F g s a w) {d off n : Nat} {us : List AV} (hn : us.length = n) (hlt : off + n ≤ 1024) (hu : ∀ (j j' m : Nat) E l E' l', us[j]? = some (.row (some m) E l) → us[j']? = some (.row (some m) E' l') → j = j') :
    Inv P F (g.move d off (off + n) us) (s.tok (moveF d off (off + n) us)) a w := by
  have hlen : ∀ (j m : Nat) E l, us[j]? = some (.row (some m) E l) → off + j < 1024 := fun j m E l e => by
    have := (List.getElem?_eq_some_iff.1 e).1; omega
  have htk : ∀ k v, (g.move d off (off + n) us).tk k = some v → (∃ m, srcT d off us k = some m ∧ g.tk m = some v) ∨ (srcT d off us k = none ∧ moveF d off (off + n) us (some k) = some k ∧ g.tk k = some v) := fun k v hk => by
    have hk' : (match srcT d off us k with
      | some m => g.tk m
      | none => (match moveF d off (off + n) us (some k) with | some n' => if n' = k then g.tk k else none | none => none)) = some v := hk
    split at hk'
    · rename_i m hm; exact .inl ⟨m, hm, hk'⟩
    · rename_i hm
      split at hk'
      · rename_i n' hn'
        split at hk'
        · rename_i e; exact .inr ⟨hm, by rw [hn', e], hk'⟩
        · cases hk'
      · cases hk'
  refine h.tok (f := moveF d off (off + n) us) (g' := g.move d off (off + n) us) ⟨rfl, rfl, rfl, fun k n' v hk hv => ?_⟩ (fun k => match srcT d off us k with | some m => m | none => k) (fun k v hk => ?_) (fun k k' hk hk' e => ?_)
  · show (match srcT d off us n' with
      | some m => g.tk m
      | none => (match moveF d off (off + n) us (some n') with | some n'' => if n'' = n' then g.tk n' else none | none => none)) = some v
    have hk0 := hk
    rw [moveF_eq] at hk
    split at hk
    · rename_i j hj
      cases hk
      obtain ⟨j1, E, l, rfl, h1⟩ := findT_some _ _ _ _ hj
      rw [srcT_of (hlen _ _ _ _ h1) h1]
      exact hv
    · rename_i hj
      have hsame : n' = k ∧ ¬ (k / 1024 = d + 1 ∧ off ≤ k % 1024 ∧ k % 1024 < off + n) := by
        simp only [killsF] at hk
        cases hc : (k / 1024 == d + 1 && Nat.ble off (k % 1024) && Nat.blt (k % 1024) (off + n)) <;> rw [hc] at hk
        · cases hk
          refine ⟨rfl, fun ⟨q1, q2, q3⟩ => ?_⟩
          have e1 : (k / 1024 == d + 1) = true := by simpa using q1
          have e2 : Nat.ble off (k % 1024) = true := Nat.ble_eq_true_of_le q2
          have e3 : Nat.blt (k % 1024) (off + n) = true := Nat.ble_eq_true_of_le q3
          rw [e1, e2, e3] at hc
          cases hc
        · cases hk
      obtain ⟨rfl, hno⟩ := hsame
      have hs : srcT d off us n' = none := by
        cases hs : srcT d off us n' with
        | none => rfl
        | some m =>
          obtain ⟨q1, q2, E, l, q3⟩ := srcT_some hs
          have := (List.getElem?_eq_some_iff.1 q3).1
          exact absurd ⟨q1, q2, by omega⟩ hno
      rw [hs]
      dsimp only
      rw [hk0]
      dsimp only
      rw [if_pos rfl]
      exact hv
  · rcases htk k v hk with ⟨m, h1, h2⟩ | ⟨h1, _, h2⟩ <;> rw [h1] <;> exact h2
  · obtain ⟨v, hv⟩ := Option.ne_none_iff_exists'.1 hk
    obtain ⟨v', hv'⟩ := Option.ne_none_iff_exists'.1 hk'
    have mix : ∀ k k' m, srcT d off us k = some m → srcT d off us k' = none → moveF d off (off + n) us (some k') = some k' → m = k' → False := fun k k' m h1 h2 h3 e => by
      subst e
      obtain ⟨q1, q2, E, l, q3⟩ := srcT_some h1
      rw [moveF_eq] at h3
      cases hf : findT us off m with
      | none => exact findT_none _ _ _ hf _ _ _ q3
      | some j =>
        rw [hf] at h3
        obtain ⟨j1, E', l', rfl, h5⟩ := findT_some _ _ _ _ hf
        have h6 : sub d (off + j1) = m := by simpa using h3
        rw [← h6, srcT_of (hlen _ _ _ _ h5) h5] at h2
        cases h2
    rcases htk k v hv with ⟨m, h1, h2⟩ | ⟨h1, h1', h2⟩ <;> rcases htk k' v' hv' with ⟨m', h3, h4⟩ | ⟨h3, h3', h4⟩ <;> simp only [h1, h3] at e
    · subst e
      obtain ⟨q1, q2, E, l, q3⟩ := srcT_some h1
      obtain ⟨r1, r2, E', l', r3⟩ := srcT_some h3
      have := hu _ _ _ _ _ _ _ q3 r3
      omega
    · exact (mix k k' m h1 h3 h3' e).elim
    · exact (mix k' k m' h3 h1 h1' e.symm).elim
    · exact e
theorem store_sound (h : Inv P F g s a w) {T : TypeId} {A X : AV} {va vx : Value} {s' : St} (hs : storeAV P s T A X = some s') (hA : RepS P g w A va) (hX : RepS P g w X vx) :
    ∃ g' w', (Instr.storeAt T va vx).run P w = .ok () w' ∧ Inv P F g' s' a w' := by
  unfold storeAV at hs
  split at hs
  · rename_i d off
    obtain ⟨cs, hcs, hs⟩ := Option.bind_eq_some_iff.1 hs
    obtain ⟨ks, hks, hs⟩ := Option.bind_eq_some_iff.1 hs
    obtain ⟨n, hn, hs⟩ := Option.bind_eq_some_iff.1 hs
    obtain ⟨β, hβ, rfl⟩ := (show RepC P g w (.box d off) va from hA)
    cases hc : (n == ks.length && X.cells.all AV.one && Nat.beq X.cells.length n && Nat.ble (off + n) cs.length && Nat.ble cs.length 1024) <;> rw [hc] at hs
    · cases hs
    simp only [cond_true] at hs
    simp only [Bool.and_eq_true] at hc
    obtain ⟨⟨⟨⟨c1, c2⟩, c3⟩, c4⟩, c5⟩ := hc
    have c1 : n = ks.length := by simpa using c1
    have c3 := Nat.eq_of_beq_eq_true c3
    have c4 := Nat.le_of_ble_eq_true c4
    have c5 := Nat.le_of_ble_eq_true c5
    have hb := boxAt_eq hcs
    obtain ⟨β', us, T0, b1, b2, b3, b4, b5⟩ := h.mem.box d cs hb
    rw [hβ] at b1
    cases b1
    obtain ⟨x1, x2⟩ := cells_rep hX c2
    have hone : ∀ u ∈ vx.cells.toList, u.oneCell' = true := fun u hu => by
      obtain ⟨j, hj, rfl⟩ := List.mem_iff_getElem.1 hu
      have hj' : j < vx.cells.size := by simpa using hj
      obtain ⟨u', hu', hr⟩ := x2 j X.cells[j] (List.getElem?_eq_getElem (by omega))
      rw [Array.getElem?_eq_getElem hj'] at hu'
      cases hu'
      simpa using hr.one
    have hrun := runs_storeVar (P := P) (w := w) hn (by rw [x1, c3]) hone b2 (by rw [b3]; exact c4)
    have hw := Wr.setRow (us' := (us.toList.take off ++ vx.cells.toList ++ us.toList.drop (off + n)).toArray) b2
    have hus : ∀ j : Nat, (us.toList.take off ++ vx.cells.toList ++ us.toList.drop (off + n)).toArray[j]? = if off ≤ j ∧ j < off + n then vx.cells[j - off]? else us[j]? := fun j => by
      rw [List.getElem?_toArray, List.append_assoc, splice_get _ _ off n (by simp [x1, c3]) (by simp [b3]; omega)]
      simp
    have hsz : (us.toList.take off ++ vx.cells.toList ++ us.toList.drop (off + n)).toArray.size = us.size := by simp [x1, c3]; omega
    by_cases hXr : ∃ m E l, X = .row (some m) E l
    · obtain ⟨m, E, l, rfl⟩ := hXr
      simp only at hs
      have hn1 : n = 1 := by simpa [AV.cells] using c3.symm
      obtain ⟨hrow, htk⟩ := (show RepC P g w (.row (some m) E l) vx from hX)
      obtain ⟨A', cap', hvx⟩ := hrow.slice
      have hvc : vx.cells = #[vx] := by rw [hvx]; rfl
      have hfin : ∀ (g1 : Gh) (s1 : St) (cs1 : List AV), Inv P F g1 s1 a w → g1.G = g.G → g1.bx = g.bx → s1.b[d]? = some (some cs1) → g1.tk (sub d off) = some (vx, E) → Inv P F g1 (s1.setBox d (cs1.set off (.row (some (sub d off)) E l))) a (w.setRow β (us.toList.take off ++ vx.cells.toList ++ us.toList.drop (off + n)).toArray) := fun g1 s1 cs1 hI hG1 hb1 hd1 ht1 => by
        obtain ⟨β'', us1, T1, d1, d2, d3, d4, d5⟩ := hI.mem.box d cs1 hd1
        rw [hb1, hβ] at d1
        cases d1
        rw [b2] at d2
        cases d2
        refine hI.setBox hd1 (by rw [hb1]; exact hβ) b2 hw hsz (by simp) (fun j c hj => ?_)
        rw [hus j]
        rw [List.getElem?_set] at hj
        split at hj
        · rename_i e
          subst e
          split at hj
          · cases hj
            rw [if_pos (by omega), hvc]
            refine ⟨vx, by simp, ⟨hG1 ▸ hrow, fun q hq => ?_⟩⟩
            cases hq
            exact ht1
          · cases hj
        · rename_i e
          rw [if_neg (by omega)]
          exact d5 j c hj
      cases hm : (m == sub d off) <;> rw [hm] at hs
      · simp only [cond_false] at hs
        have hne : m ≠ sub d off := by simpa using hm
        have h1 := h.kills (killF_kills (sub d off))
        have hd0 : (g.kills (killF (sub d off))).tk (sub d off) = none := kills_tk (killF_kills _) (killF_self _)
        have h2 := h1.ren hd0 hne
        obtain ⟨cs1, hcs1, hs'⟩ := Option.map_eq_some_iff.1 hs
        subst hs'
        refine ⟨_, _, hrun, hfin _ _ cs1 h2 rfl rfl (boxAt_eq hcs1) ?_⟩
        show (if sub d off = sub d off then (g.kills (killF (sub d off))).tk m else _) = some (vx, E)
        rw [if_pos rfl]
        show (match killF (sub d off) (some m) with | some _ => g.tk m | none => none) = some (vx, E)
        have : killF (sub d off) (some m) = some m := by simp [killF, hm]
        rw [this]
        exact htk m rfl
      · simp only [cond_true] at hs
        cases hs
        have : m = sub d off := by simpa using hm
        subst this
        exact ⟨_, _, hrun, hfin g s cs h rfl rfl hb (htk _ rfl)⟩
    · replace hs : ((s.tok (moveF d off (off + n) (uniqT [] X.cells))).boxAt d).map (fun cs => (s.tok (moveF d off (off + n) (uniqT [] X.cells))).setBox d (cs.take off ++ (intoL d off (uniqT [] X.cells) (cellsAt none d off ks X.cells) ++ cs.drop (off + n)))) = some s' := by
        cases X with
        | row t E l =>
          cases t with
          | none => exact hs
          | some m => exact absurd ⟨m, E, l, rfl⟩ hXr
        | _ => exact hs
      obtain ⟨u1, u2, _, u4⟩ := uniqT_spec X.cells []
      generalize hU : uniqT [] X.cells = U at hs u1 u2 u4
      have h1 := h.move (d := d) (off := off) (n := n) (us := U) (by rw [u1, c3]) (by omega) u4
      have hN : ∀ m, (fun m => if m / 1024 = d + 1 ∧ off ≤ m % 1024 ∧ m % 1024 < off + n then (match U[m % 1024 - off]?, ks[m % 1024 - off]? with | some (.row (some _) _ _), _ => none | _, some (.row E) => some E | _, _ => none) else none : Nat → Option TypeId) m ≠ none → (g.move d off (off + n) U).tk m = none := fun m hm => by
        dsimp only at hm
        by_cases e : m / 1024 = d + 1 ∧ off ≤ m % 1024 ∧ m % 1024 < off + n
        · rw [if_pos e] at hm
          have hnr : ∀ t E l, U[m % 1024 - off]? ≠ some (.row (some t) E l) := fun t E l he => by
            rw [he] at hm
            exact hm rfl
          have hs0 : srcT d off U m = none := by
            cases hq : srcT d off U m with
            | none => rfl
            | some t =>
              obtain ⟨_, _, E, l, q3⟩ := srcT_some hq
              exact absurd q3 (hnr t E l)
          show (match srcT d off U m with
            | some t => g.tk t
            | none => (match moveF d off (off + n) U (some m) with | some n' => if n' = m then g.tk m else none | none => none)) = none
          rw [hs0]
          dsimp only
          have hm' : m % 1024 < 1024 := Nat.mod_lt _ (by decide)
          have hms : m = sub d (m % 1024) := by unfold sub; omega
          cases hq : moveF d off (off + n) U (some m) with
          | none => rfl
          | some n' =>
            dsimp only
            by_cases en : n' = m
            · subst en
              rw [moveF_eq] at hq
              cases hf : findT U off n' with
              | none =>
                rw [hf] at hq
                have := killsF_sub d off (off + n) _ hm' e.2.1 e.2.2
                rw [← hms] at this
                dsimp only at hq
                rw [this] at hq
                cases hq
              | some j =>
                rw [hf] at hq
                obtain ⟨j1, E, l, rfl, q5⟩ := findT_some _ _ _ _ hf
                have hlt := (List.getElem?_eq_some_iff.1 q5).1
                have q6 : sub d (off + j1) = n' := by simpa using hq
                have q7 : n' % 1024 = off + j1 := by rw [← q6]; exact sub_mod d _ (by omega)
                exact absurd (by rw [q7, Nat.add_sub_cancel_left]; exact q5) (hnr n' E l)
            · rw [if_neg en]
        · rw [if_neg e] at hm; exact absurd rfl hm
      have h2 := h1.nils hN
      obtain ⟨cs1, hcs1, hs'⟩ := Option.map_eq_some_iff.1 hs
      subst hs'
      have hb1 := boxAt_eq hcs1
      obtain ⟨β'', us1, T1, d1, d2, d3, d4, d5⟩ := h2.mem.box d cs1 hb1
      have hβ' : g.bx d = some β'' := d1
      rw [hβ] at hβ'
      cases hβ'
      rw [b2] at d2
      cases d2
      have hl1 : cs1.length = cs.length := by omega
      have hcl : (cellsAt none d off ks X.cells).length = X.cells.length := cellsAt_len none d off ks X.cells (by omega)
      have hil : (intoL d off U (cellsAt none d off ks X.cells)).length = n := by rw [intoL_len d off U _ (by rw [u1, hcl]), hcl, c3]
      refine ⟨_, _, hrun, h2.setBox hb1 hβ b2 hw hsz (by simp [hil]; omega) (fun j c hj => ?_)⟩
      rw [hus j]
      rw [splice_get _ _ off n hil (by omega)] at hj
      split at hj
      · rename_i e
        rw [if_pos e]
        rw [intoL_get d off U _ (by rw [u1, hcl]), cellsAt_get none d off ks X.cells (by omega)] at hj
        obtain ⟨cu, hcu, hj⟩ := Option.bind_eq_some_iff.1 hj
        obtain ⟨z, hz, rfl⟩ := Option.map_eq_some_iff.1 hj
        obtain ⟨c0, hc0, hc1⟩ := Option.bind_eq_some_iff.1 hz
        obtain ⟨k, hkk, rfl⟩ := Option.map_eq_some_iff.1 hc1
        obtain ⟨u, hu, hr⟩ := x2 _ c0 hc0
        refine ⟨u, hu, ?_⟩
        have hj' : off + (j - off) = j := by omega
        rw [hj']
        have hNj : (fun m => if m / 1024 = d + 1 ∧ off ≤ m % 1024 ∧ m % 1024 < off + n then (match U[m % 1024 - off]?, ks[m % 1024 - off]? with | some (.row (some _) _ _), _ => none | _, some (.row E) => some E | _, _ => none) else none : Nat → Option TypeId) (sub d j) = (match U[j - off]?, ks[j - off]? with | some (.row (some _) _ _), _ => none | _, some (.row E) => some E | _, _ => none) := by
          dsimp only
          rw [sub_div d j (by omega), sub_mod d j (by omega), if_pos ⟨rfl, e⟩]
        by_cases hrow : ∃ m E l, cu = .row (some m) E l
        · obtain ⟨m, E, l, rfl⟩ := hrow
          obtain ⟨c0', q1, q2⟩ := u2 _ _ hcu
          rw [hc0] at q1
          cases q1
          rcases q2 with q2 | ⟨t, E', l', _, q2⟩
          · subst q2
            obtain ⟨r1, r2⟩ := hr
            refine (show RepC P _ w (.row (some (sub d j)) E l) u from ⟨r1, fun q hq => ?_⟩)
            cases hq
            show (match (fun m => if m / 1024 = d + 1 ∧ off ≤ m % 1024 ∧ m % 1024 < off + n then (match U[m % 1024 - off]?, ks[m % 1024 - off]? with | some (.row (some _) _ _), _ => none | _, some (.row E) => some E | _, _ => none) else none : Nat → Option TypeId) (sub d j) with | some E => some (Value.slice none 0 0, E) | none => (g.move d off (off + n) U).tk (sub d j)) = _
            rw [hNj, hcu]
            show (match srcT d off U (sub d j) with
              | some t => g.tk t
              | none => _) = _
            have := srcT_of (d := d) (off := off) (j := j - off) (us := U) (by omega) hcu
            rw [hj'] at this
            rw [this]
            exact r2 m rfl
          · cases q2
        · have hz' : cu.into d j (cellAt none d j k c0) = cellAt none d j k c0 := by
            cases cu with
            | row t E l =>
              cases t with
              | none => rfl
              | some m => exact absurd ⟨m, E, l, rfl⟩ hrow
            | _ => rfl
          rw [hz']
          refine cellAt_rep0 (g := g) rfl rfl (fun E hE => ?_) hr
          show (match (fun m => if m / 1024 = d + 1 ∧ off ≤ m % 1024 ∧ m % 1024 < off + n then (match U[m % 1024 - off]?, ks[m % 1024 - off]? with | some (.row (some _) _ _), _ => none | _, some (.row E) => some E | _, _ => none) else none : Nat → Option TypeId) (sub d j) with | some E => some (Value.slice none 0 0, E) | none => (g.move d off (off + n) U).tk (sub d j)) = _
          rw [hNj, hcu, hkk, hE]
          cases cu with
          | row t E' l =>
            cases t with
            | none => rfl
            | some m => exact absurd ⟨m, E', l, rfl⟩ hrow
          | _ => rfl
      · rename_i e
        rw [if_neg e]
        exact d5 j c hj
  · cases hs
end
end Go.Proofs.YtckdgcpomkefpaaGreatDoor.En
end
section
set_option linter.unusedVariables false
set_option linter.unusedSimpArgs false
namespace Go.Proofs.YtckdgcpomkefpaaGreatDoor.En
open Go
section
variable {P : Program} {F : Fx} {g : Gh} {s : St} {a : Act} {w : World}
theorem fzOk0 (n : Nat) : fzOk (0, 0) n := .inl rfl
theorem run_storeCells_fz (P : Program) (g o : Nat) (t : TypeId) (fz : Nat × Nat) : ∀ (vs : List Value) (i : Nat) (cur : Array Value) (w : World), w.heap[g]? = some (.cells cur t fz) → fzOk fz cur.size → o + i + vs.length ≤ cur.size → (∀ v ∈ vs, v.oneCell' = true) →
    (storeCells ⟨g, o, none⟩ vs i).run P w = .ok () (w.setRow g (cur.toList.take (o + i) ++ vs ++ cur.toList.drop (o + i + vs.length)).toArray)
  | [], i, cur, w, hg, _, _, _ => by
    simp only [storeCells, List.append_nil, List.length_nil, Nat.add_zero, List.take_append_drop, Array.toArray_toList]
    rw [setRow_self w g cur t fz hg]
    rfl
  | v :: rest, i, cur, w, hg, hfz, hl, h1 => by
    have hi : o + i < cur.size := by simp at hl; omega
    have hadd : (⟨g, o, none⟩ : Addr).add i = ⟨g, o + i, none⟩ := by unfold Addr.add; split <;> simp_all
    have hcell : w.cell? ⟨g, o + i, none⟩ = some cur[o + i] := by simp [World.cell?, hg, hi]
    have hfro : w.frozen? ⟨g, o + i, none⟩ = false := by
      obtain ⟨lo, hi'⟩ := fz
      simp only [World.frozen?, hg, Bool.and_eq_false_iff, decide_eq_false_iff_not]
      rcases hfz with e | e <;> simp only at e <;> omega
    have hst : (store ((⟨g, o, none⟩ : Addr).add i) v).run P w = .ok () (w.setRow g (cur.setIfInBounds (o + i) v)) := by
      rw [hadd, run_store P w _ v _ (h1 v (by simp)), hcell]
      simp [hfro, setCell_eq_setRow w g (o + i) cur t fz v hg]
    have ih := run_storeCells_fz P g o t fz rest (i + 1) (cur.setIfInBounds (o + i) v) (w.setRow g (cur.setIfInBounds (o + i) v)) (setRow_heap w g cur _ t _ hg) (by simpa using hfz) (by simp at hl ⊢; omega) (fun x hx => h1 x (by simp [hx]))
    simp only [storeCells, Sem.run_bind, hst, Result.andThen_ok, ih, setRow_setRow]
    congr 3
    have e := list_seg_step cur.toList (o + i) v rest (by simp at hl ⊢; omega)
    simpa [Array.toList_setIfInBounds, Nat.add_assoc] using e
section run
variable {Ts : Array TypeId} {T U E : TypeId} {du : TypeDesc} {i : TypeInfo} {z : Value} {ty : TypeId} {y : Value} {m : Nat} {news : List Value}
theorem run_app_nil (hT : Ts[0]? = some T) (hU : Ts[1]? = some U) (ht : P.underlying T = some (.slice E)) (hu : P.underlying U = some du) (hd : (∃ e', du = .slice e') ∨ du = .string)
    (hi : P.info? E = some i) (hy : (∃ A c, y = .slice A m c) ∨ ∃ str, y = .string str ∧ m = str.size) (hf : ∀ w1 : World, w1.heap = w.heap → (Builtin.firstCells i.size m y).run P w1 = .ok news.toArray w1)
    (hm : m = 0) : (Builtin.append_ Ts ty #[.slice none 0 0, y]).run P w = .ok (.slice none 0 0) w := by
  have hf0 := hf w rfl
  rcases hy with ⟨A, c, rfl⟩ | ⟨str, rfl, e⟩
  · subst hm
    rcases hd with ⟨e', rfl⟩ | rfl <;> simp [Builtin.append_, hT, hU, run_underlying ht, run_underlying hu, sizeOf, typeInfo, hi, hf0, Builtin.lenOf]
  · have e' : str.size = 0 := by omega
    rw [hm] at hf0
    rcases hd with ⟨e'', rfl⟩ | rfl <;> simp [Builtin.append_, hT, hU, run_underlying ht, run_underlying hu, sizeOf, typeInfo, hi, hf0, Builtin.lenOf, e']
theorem run_app_room (hT : Ts[0]? = some T) (hU : Ts[1]? = some U) (ht : P.underlying T = some (.slice E)) (hu : P.underlying U = some du) (hd : (∃ e', du = .slice e') ∨ du = .string)
    (hi : P.info? E = some i) (hy : (∃ A c, y = .slice A m c) ∨ ∃ str, y = .string str ∧ m = str.size) (hf : ∀ w1 : World, w1.heap = w.heap → (Builtin.firstCells i.size m y).run P w1 = .ok news.toArray w1)
    {β n cap : Nat} {cur : Array Value} {T0 : TypeId} {fz : Nat × Nat} (hb : w.heap[β]? = some (.cells cur T0 fz)) (hfz : fzOk fz cur.size) (hl : news.length = m * i.size) (h1 : ∀ u ∈ news, u.oneCell' = true) (hroom : n + m ≤ cap) (hfit : n * i.size + news.length ≤ cur.size) :
    (Builtin.append_ Ts ty #[.slice (some ⟨β, 0, none⟩) n cap, y]).run P w = .ok (.slice (some ⟨β, 0, none⟩) (n + m) cap) (w.setRow β (cur.toList.take (n * i.size) ++ news ++ cur.toList.drop (n * i.size + news.length)).toArray) := by
  have hf0 := hf w rfl
  have hst := run_storeCells_fz P β (n * i.size) T0 fz news 0 cur w hb hfz (by simpa using hfit) h1
  simp only [Nat.add_zero] at hst
  rcases hy with ⟨A, c, rfl⟩ | ⟨str, rfl, e⟩
  · rcases hd with ⟨e', rfl⟩ | rfl <;> simp [Builtin.append_, hT, hU, run_underlying ht, run_underlying hu, sizeOf, typeInfo, hi, hf0, Builtin.lenOf, hroom, add_lit, hst]
  · subst e
    rcases hd with ⟨e', rfl⟩ | rfl <;> simp [Builtin.append_, hT, hU, run_underlying ht, run_underlying hu, sizeOf, typeInfo, hi, hf0, Builtin.lenOf, hroom, add_lit, hst]
theorem run_app_grow (hT : Ts[0]? = some T) (hU : Ts[1]? = some U) (ht : P.underlying T = some (.slice E)) (hu : P.underlying U = some du) (hd : (∃ e', du = .slice e') ∨ du = .string)
    (hi : P.info? E = some i) (hz : i.zero = some z) (hy : (∃ A c, y = .slice A m c) ∨ ∃ str, y = .string str ∧ m = str.size) (hf : ∀ w1 : World, w1.heap = w.heap → (Builtin.firstCells i.size m y).run P w1 = .ok news.toArray w1)
    {A0 : Option Addr} {n cap : Nat} {olds : List Value} (hfo : ∀ w1 : World, w1.heap = w.heap → (Builtin.firstCells i.size n (.slice A0 n cap)).run P w1 = .ok olds.toArray w1) (hg : cap < n + m) (h63 : ((n + m : Nat) : Int) ≤ 9223372036854775807) (hfit : Builtin.nextslicecap (n + m) cap * i.bytes ≤ 281474976710656) :
    (Builtin.append_ Ts ty #[.slice A0 n cap, y]).run P w = .ok (.slice (some ⟨w.heap.size, 0, none⟩) (n + m) (grownCap w (n + m) cap E)) (w.drew.alloc (.cells (olds.toArray ++ news.toArray ++ Builtin.zeroCells z.cells (grownCap w (n + m) cap E - (n + m))) E)) := by
  have hf0 := hf w.drew rfl
  have hfo0 := hfo w.drew rfl
  have hn : ¬ (n + m ≤ cap) := by omega
  have h63' : ¬ (9223372036854775807 < ((n : Int) + (m : Int))) := by omega
  have h48' : ¬ (281474976710656 < Builtin.nextslicecap (n + m) cap * i.bytes) := by omega
  rcases hy with ⟨A, c, rfl⟩ | ⟨str, rfl, e⟩
  · rcases hd with ⟨e', rfl⟩ | rfl
    all_goals
      simp [Builtin.append_, hT, hU, run_underlying ht, run_underlying hu, sizeOf, typeInfo, zeroValue, hi, hz, Builtin.lenOf, hn, h63', h48', Question.forced, hf0, hfo0, newRow, grownCap]
      try (congr 2; apply Array.ext'; simp [List.append_assoc])
  · subst e
    rcases hd with ⟨e', rfl⟩ | rfl
    all_goals
      simp [Builtin.append_, hT, hU, run_underlying ht, run_underlying hu, sizeOf, typeInfo, zeroValue, hi, hz, Builtin.lenOf, hn, h63', h48', Question.forced, hf0, hfo0, newRow, grownCap]
      try (congr 2; apply Array.ext'; simp [List.append_assoc])
end run
structure RepL (P : Program) (G : Nat → Nat → Prop) (w : World) (ks : List CK) (l : List Dat) (xs : List Value) : Prop where
  len : xs.length = l.length * ks.length
  one : ∀ u ∈ xs, u.oneCell' = true
  rep : ∀ (i j : Nat) k d, l[i]? = some d → ks[j]? = some k → ∃ u, xs[i * ks.length + j]? = some u ∧ scal k (d.at j) u ∧ ∀ E', k = .row E' → RepRow P G w E' (d.at j).toL u
theorem RepL.mono {G G' : Nat → Nat → Prop} {w' : World} {ks : List CK} {l : List Dat} {xs : List Value} (h : RepL P G w ks l xs) (hG : ∀ β j, G β j → G' β j ∧ w'.cell? ⟨β, j, none⟩ = w.cell? ⟨β, j, none⟩) : RepL P G' w' ks l xs :=
  ⟨h.len, h.one, fun i j k d hd hk => let ⟨u, h1, h2, h3⟩ := h.rep i j k d hd hk; ⟨u, h1, h2, fun E' hE => (h3 E' hE).mono hG⟩⟩
theorem RepL.nil {G : Nat → Nat → Prop} {ks : List CK} : RepL P G w ks [] [] := ⟨by simp, by simp, by simp⟩
theorem mul_lt_of {i j n m : Nat} (h1 : i < n) (h2 : j < m) : i * m + j < n * m := by
  have : (i + 1) * m ≤ n * m := Nat.mul_le_mul_right _ h1
  rw [Nat.add_mul] at this
  omega
theorem RepL.append {G : Nat → Nat → Prop} {ks : List CK} {l l2 : List Dat} {xs ys : List Value} (h : RepL P G w ks l xs) (h2 : RepL P G w ks l2 ys) : RepL P G w ks (l ++ l2) (xs ++ ys) := by
  refine ⟨by simp [h.len, h2.len, Nat.add_mul], fun u hu => ?_, fun i j k d hd hk => ?_⟩
  · rcases List.mem_append.1 hu with hu | hu
    · exact h.one u hu
    · exact h2.one u hu
  · have hj := (List.getElem?_eq_some_iff.1 hk).1
    by_cases hi : i < l.length
    · rw [List.getElem?_append_left hi] at hd
      obtain ⟨u, e1, e2⟩ := h.rep i j k d hd hk
      exact ⟨u, by rw [List.getElem?_append_left (by rw [h.len]; exact mul_lt_of hi hj)]; exact e1, e2⟩
    · rw [List.getElem?_append_right (by omega)] at hd
      obtain ⟨u, e1, e2⟩ := h2.rep _ j k d hd hk
      have e : i * ks.length + j = xs.length + ((i - l.length) * ks.length + j) := by
        rw [h.len, ← Nat.add_assoc, ← Nat.add_mul]
        congr 2
        omega
      refine ⟨u, ?_, e2⟩
      rw [e, List.getElem?_append_right (by omega)]
      rw [show xs.length + ((i - l.length) * ks.length + j) - xs.length = (i - l.length) * ks.length + j by omega]
      exact e1
theorem RepRow.list {G : Nat → Nat → Prop} {E : TypeId} {l : List Dat} {v : Value} {ks : List CK} (h : RepRow P G w E l v) (hks : kinds P E = some ks) :
    ∃ xs A cap, v = .slice A l.length cap ∧ RepL P G w ks l xs ∧ ∀ (q : Nat) u, xs[q]? = some u → ∃ β off, A = some ⟨β, off, none⟩ ∧ w.cell? ⟨β, off + q, none⟩ = some u ∧ G β (off + q) := by
  cases h with
  | nil E A cap => exact ⟨[], A, cap, rfl, .nil, fun q u hq => by simp at hq⟩
  | mk E l β off cap ks' vals hk hlen hc hs hr =>
    rw [hks] at hk
    cases hk
    have key : ∀ q, q < l.length * ks.length → q / ks.length < l.length ∧ q % ks.length < ks.length ∧ q / ks.length * ks.length + q % ks.length = q := fun q hq => by
      have hp : 0 < ks.length := by
        rcases Nat.eq_zero_or_pos ks.length with e | e
        · rw [e] at hq; simp at hq
        · exact e
      exact ⟨(Nat.div_lt_iff_lt_mul hp).2 hq, Nat.mod_lt _ hp, by rw [Nat.mul_comm]; exact Nat.div_add_mod q ks.length⟩
    have hget : ∀ (q : Nat) u, ((List.range (l.length * ks.length)).map fun q => vals (q / ks.length) (q % ks.length))[q]? = some u → q < l.length * ks.length ∧ u = vals (q / ks.length) (q % ks.length) := fun q u hq => by
      rw [List.getElem?_map] at hq
      obtain ⟨q', h1, h2⟩ := Option.map_eq_some_iff.1 hq
      obtain ⟨h3, h4⟩ := List.getElem?_eq_some_iff.1 h1
      simp at h3 h4
      subst h4
      exact ⟨h3, h2.symm⟩
    refine ⟨(List.range (l.length * ks.length)).map fun q => vals (q / ks.length) (q % ks.length), _, cap, rfl, ⟨by simp, fun u hu => ?_, fun i j k d hd hk => ?_⟩, fun q u hq => ?_⟩
    · obtain ⟨q, hq, rfl⟩ := List.mem_map.1 hu
      obtain ⟨a1, a2, a3⟩ := key q (by simpa using hq)
      exact (hc _ _ a1 a2).2.2
    · have hi := (List.getElem?_eq_some_iff.1 hd).1
      have hj := (List.getElem?_eq_some_iff.1 hk).1
      have hlt := mul_lt_of hi hj
      have e1 : (i * ks.length + j) / ks.length = i := by
        rw [Nat.mul_comm, Nat.mul_add_div (by omega), Nat.div_eq_of_lt hj]; rfl
      have e2 : (i * ks.length + j) % ks.length = j := by
        rw [Nat.mul_comm, Nat.mul_add_mod, Nat.mod_eq_of_lt hj]
      refine ⟨vals i j, ?_, hs i j d k hd hk, fun E' hE => hr i j d E' hd (hE ▸ hk)⟩
      rw [List.getElem?_map, List.getElem?_range hlt]
      simp [e1, e2]
    · obtain ⟨h1, rfl⟩ := hget q u hq
      obtain ⟨a1, a2, a3⟩ := key q h1
      obtain ⟨c1, c2, c3⟩ := hc _ _ a1 a2
      rw [Nat.add_assoc, a3] at c1 c2
      exact ⟨β, off, rfl, c2, c1⟩
theorem RepL.row {G : Nat → Nat → Prop} {E : TypeId} {l : List Dat} {ks : List CK} {xs : List Value} (h : RepL P G w ks l xs) (hks : kinds P E = some ks) {β off cap : Nat} (hcap : l.length ≤ cap)
    (hc : ∀ (q : Nat) u, xs[q]? = some u → G β (off + q) ∧ w.cell? ⟨β, off + q, none⟩ = some u) : RepRow P G w E l (.slice (some ⟨β, off, none⟩) l.length cap) := by
  refine .mk E l β off cap ks (fun i j => xs.getD (i * ks.length + j) undef) hks hcap (fun i j hi hj => ?_) (fun i j d k hd hk => ?_) (fun i j d E' hd hk => ?_)
  · obtain ⟨u, h1, h2, h3⟩ := h.rep i j ks[j] l[i] (List.getElem?_eq_getElem hi) (List.getElem?_eq_getElem hj)
    rw [List.getD_eq_getElem?_getD, h1]
    obtain ⟨c1, c2⟩ := hc _ u h1
    rw [Nat.add_assoc]
    exact ⟨c1, c2, h.one u (List.mem_of_getElem? h1)⟩
  · obtain ⟨u, h1, h2, h3⟩ := h.rep i j k d hd hk
    rw [List.getD_eq_getElem?_getD, h1]
    exact h2
  · obtain ⟨u, h1, h2, h3⟩ := h.rep i j _ d hd hk
    rw [List.getD_eq_getElem?_getD, h1]
    exact h3 E' rfl
structure Src (P : Program) (G : Nat → Nat → Prop) (w : World) (ks : List CK) (l2 : List Dat) (y : Value) (ys : List Value) : Prop where
  rep : RepL P G w ks l2 ys
  form : (∃ A c, y = .slice A l2.length c) ∨ ∃ str, y = .string str ∧ l2.length = str.size
  first : ∀ w1 : World, w1.heap = w.heap → (Builtin.firstCells ks.length l2.length y).run P w1 = .ok ys.toArray w1
theorem cell_heap {w1 : World} (h : w1.heap = w.heap) (ad : Addr) : w1.cell? ad = w.cell? ad := by simp [World.cell?, h]
theorem RepRow.first {G : Nat → Nat → Prop} {E : TypeId} {l : List Dat} {v : Value} {ks : List CK} (h : RepRow P G w E l v) (hks : kinds P E = some ks) (hp : 0 < ks.length) :
    ∃ xs, RepL P G w ks l xs ∧ (∀ w1 : World, w1.heap = w.heap → (Builtin.firstCells ks.length l.length v).run P w1 = .ok xs.toArray w1) ∧ ∃ A cap, v = .slice A l.length cap ∧ ∀ (q : Nat) u, xs[q]? = some u → ∃ β off, A = some ⟨β, off, none⟩ ∧ w.cell? ⟨β, off + q, none⟩ = some u ∧ G β (off + q) := by
  obtain ⟨xs, A, cap, hv, hL, hc⟩ := h.list hks
  refine ⟨xs, hL, fun w1 hw => ?_, A, cap, hv, hc⟩
  rw [hv]
  cases A with
  | none =>
    have : xs = [] := by
      cases xs with
      | nil => rfl
      | cons x xs => obtain ⟨β, off, e, _⟩ := hc 0 x rfl; cases e
    subst this
    exact run_firstCells_none w1 ks.length l.length l.length cap
  | some ad =>
    refine run_firstCells_some w1 ks.length l.length ad l.length cap xs hL.len (fun j u hj => ?_)
    obtain ⟨β, off, e, h1, _⟩ := hc j u hj
    cases e
    rw [add_lit, cell_heap hw]
    exact h1
theorem RepRow.src {G : Nat → Nat → Prop} {E : TypeId} {l : List Dat} {v : Value} {ks : List CK} (h : RepRow P G w E l v) (hks : kinds P E = some ks) (hp : 0 < ks.length) : ∃ ys, Src P G w ks l v ys := by
  obtain ⟨xs, h1, h2, A, cap, h3, _⟩ := h.first hks hp
  exact ⟨xs, h1, .inl ⟨A, cap, h3⟩, h2⟩
theorem string_src {G : Nat → Nat → Prop} (str : ByteArray) : ∃ ys, Src P G w [.int .u8] (bytesTo str) (.string str) ys := by
  refine ⟨str.data.toList.map fun b => .int .u8 b.toNat, ⟨by simp [bytesTo], fun u hu => ?_, fun i j k d hd hk => ?_⟩, .inr ⟨str, rfl, by simp [bytesTo]⟩, fun w1 hw => ?_⟩
  · obtain ⟨b, _, rfl⟩ := List.mem_map.1 hu
    rfl
  · cases j with
    | succ j => simp at hk
    | zero =>
      simp at hk
      subst hk
      simp only [bytesTo, List.getElem?_map] at hd
      obtain ⟨b, hb, rfl⟩ := Option.map_eq_some_iff.1 hd
      refine ⟨.int .u8 b.toNat, by simp [hb], rfl, fun E' hE => by cases hE⟩
  · have e : (bytesTo str).length = str.data.size := by simp [bytesTo]
    simp only [Builtin.firstCells, Sem.run_pure]
    congr 1
    apply Array.ext'
    have e2 : str.extract 0 (bytesTo str).length = str := by rw [e]; exact ByteArray.extract_zero_size
    rw [e2]
    simp
theorem tok_b {f : Option Nat → Option Nat} {d : Nat} {cs : List AV} (h : (s.tok f).b[d]? = some (some cs)) : ∃ cs0, s.b[d]? = some (some cs0) ∧ cs = cs0.map (AV.tok1 f) := by
  simp only [St.tok, List.getElem?_map] at h
  obtain ⟨o, ho, h1⟩ := Option.map_eq_some_iff.1 h
  obtain ⟨cs1, rfl, rfl⟩ := Option.map_eq_some_iff.1 h1
  exact ⟨cs1, ho, rfl⟩
theorem kill2_b {n m d : Nat} {cs : List AV} (h : ((s.kill n).kill m).b[d]? = some (some cs)) : ∃ cs0, s.b[d]? = some (some cs0) := by
  obtain ⟨c1, h1, _⟩ := tok_b h
  obtain ⟨c2, h2, _⟩ := tok_b h1
  exact ⟨c2, h2⟩
theorem append_sound (h : Inv P F g s a w) {Ts : Array TypeId} {ty : TypeId} {n d : Nat} {E : TypeId} {l l2 : List Dat} {vx vy : Value} {ks : List CK} (hok : appOk P Ts E = true) (hks : kinds P E = some ks)
    (hx : RepS P g w (.row (some n) E l) vx) {ys : List Value} (hy : Src P g.G w ks l2 vy ys) (hlen : l.length + l2.length ≤ fitsN) (hd : d < s.t.length) :
    ∃ g' v' w', (Builtin.append_ Ts ty #[vx, vy]).run P w = .ok v' w' ∧ Inv P F g' (((s.kill n).kill d).put (some d) (.row (some d) E (l ++ l2))) (a.put (some d) v') w' := by
  unfold appOk at hok
  split at hok
  case h_2 => cases hok
  rename_i T U hT hU
  simp only [Bool.and_eq_true] at hok
  obtain ⟨⟨o1, o2⟩, o3⟩ := hok
  have ht := elemT_eq (T := T) (E := E) (P := P) (by simpa using o1)
  obtain ⟨du, hu, hdu⟩ : ∃ du, P.underlying U = some du ∧ ((∃ e', du = .slice e') ∨ du = .string) := by
    split at o2
    · rename_i e' e; exact ⟨_, e, .inl ⟨e', rfl⟩⟩
    · rename_i e; exact ⟨_, e, .inr rfl⟩
    · cases o2
  rw [hks] at o3
  split at o3
  case h_2 => cases o3
  rename_i ks' i hkk hi
  cases hkk
  simp only [Bool.and_eq_true] at o3
  obtain ⟨⟨⟨p1, p2⟩, p3⟩, p4⟩ := o3
  have p1 : i.size = ks.length := by simpa using p1
  have p2 : 0 < ks.length := Nat.le_of_ble_eq_true p2
  have p3 := Nat.le_of_ble_eq_true p3
  obtain ⟨z, hz, hzs⟩ : ∃ z, i.zero = some z ∧ z.cells.size = ks.length := by
    cases hzz : i.zero with
    | none => rw [hzz] at p4; cases p4
    | some z => rw [hzz] at p4; exact ⟨z, rfl, Nat.eq_of_beq_eq_true p4⟩
  obtain ⟨hrow, htk⟩ := (show RepC P g w (.row (some n) E l) vx from hx)
  have htn := htk n rfl
  obtain ⟨xs, hL, hfx, A, cap, hvx, hcx⟩ := hrow.first hks p2
  have hF : fitsN = 1099511627776 := rfl
  -- tokens n and d go
  have hk1 := h.kills (killF_kills n)
  have hk2 := hk1.kills (killF_kills d)
  generalize hg2 : (g.kills (killF n)).kills (killF d) = g2 at hk2
  have hG2 : g2.G = g.G := by subst hg2; rfl
  have hb2 : g2.bx = g.bx := by subst hg2; rfl
  have hd2 : g2.tk d = none := by subst hg2; exact kills_tk (killF_kills d) (killF_self d)
  have hn2 : g2.tk n = none := by subst hg2; exact kills_none (kills_tk (killF_kills n) (killF_self n))
  have hsub : ∀ m v', g2.tk m = some v' → g.tk m = some v' ∧ m ≠ n := fun m v' hm => by
    refine ⟨?_, fun e => by subst e; rw [hn2] at hm; cases hm⟩
    subst hg2
    have hm' : (match killF d (some m) with | some _ => (match killF n (some m) with | some _ => g.tk m | none => none) | none => none) = some v' := hm
    split at hm'
    · split at hm'
      · exact hm'
      · cases hm'
    · cases hm'
  have hap : ∀ β, vx.ownBlock = some β → ∀ m v' E', g2.tk m = some (v', E') → v'.ownBlock ≠ some β := fun β hβ m v' E' hm hv' => by
    obtain ⟨h1, h2⟩ := hsub m _ hm
    exact h2 (h.mem.tkap m n v' vx E' E β h1 htn hv' hβ)
  have hform : ∀ {m : Nat}, m = l2.length → (∃ A c, vy = .slice A m c) ∨ ∃ str, vy = .string str ∧ m = str.size := fun e => by subst e; exact hy.form
  have hfirst : ∀ w1 : World, w1.heap = w.heap → (Builtin.firstCells i.size l2.length vy).run P w1 = .ok ys.toArray w1 := by rw [p1]; exact hy.first
  by_cases hroom : l.length + l2.length ≤ cap
  · rcases h.mem.own n vx E htn with e | ⟨β, n0, cap0, us, ks0, fz, e1, e2, e3, e4, e5, e6, e7, e8⟩
    · -- nil, nothing appended
      rw [hvx] at e
      injection e with ea el ec
      subst ea ec
      have hl0 : l = [] := List.eq_nil_of_length_eq_zero el
      have hm0 : l2.length = 0 := by omega
      have hl2 : l2 = [] := List.eq_nil_of_length_eq_zero hm0
      subst hl0 hl2
      rw [hvx]
      exact ⟨_, _, w, run_app_nil hT hU ht hu hdu hi (hform rfl) hfirst rfl, (hk2.nils (N := one1 d E) (fun m hm => by
        unfold one1 at hm
        by_cases e : m = d
        · rw [e]; exact hd2
        · rw [if_neg e] at hm; exact absurd rfl hm)).put (some d) (x := .row (some d) E []) ⟨.nil _ _ _, fun m hm => by
          cases hm
          show (match one1 d E d with | some E => some (Value.slice none 0 0, E) | none => _) = _
          simp [one1]⟩⟩
    · -- room
      rw [hks] at e3
      cases e3
      rw [hvx] at e1
      injection e1 with ea el ec
      subst ea el ec
      have hvb : vx.ownBlock = some β := by rw [hvx]; rfl
      have hyl : ys.length = l2.length * ks.length := hy.rep.len
      have hfit : l.length * ks.length + ys.length ≤ us.size := by
        rw [e6, hyl, ← Nat.add_mul]; exact Nat.mul_le_mul_right _ hroom
      have hrun := run_app_room (P := P) (w := w) (ty := ty) hT hU ht hu hdu hi (hform rfl) hfirst (n := l.length) (cap := cap) e2 e8 (by rw [p1]; exact hyl) hy.rep.one hroom (by rw [p1]; exact hfit)
      rw [p1] at hrun
      generalize hus' : (us.toList.take (l.length * ks.length) ++ ys ++ us.toList.drop (l.length * ks.length + ys.length)).toArray = us' at hrun
      have hget : ∀ j : Nat, us'[j]? = if l.length * ks.length ≤ j ∧ j < l.length * ks.length + ys.length then ys[j - l.length * ks.length]? else us[j]? := fun j => by
        rw [← hus', List.getElem?_toArray, List.append_assoc, splice_get _ _ (l.length * ks.length) ys.length rfl (by simpa using hfit)]
        simp
      have hsz : us'.size = us.size := by rw [← hus']; simp; omega
      have hw := Wr.setRow (us' := us') e2
      have hGlt : ∀ j, g.G β j → j < l.length * ks.length := fun j hj => Nat.lt_of_not_le fun hle => e7 j hle hj
      have hTB : β < F.w0.heap.size → F.TB β := fun hlt => (h.tb n vx E β htn hvb).resolve_left (by omega)
      have ht2 := hk2.touch (K := (l.length + l2.length) * ks.length) e2 hw hsz (fun j u hu => by
        rw [hget] at hu
        split at hu
        · exact .inr (hy.rep.one u (List.mem_of_getElem? hu))
        · exact .inl hu) (fun j hj => by rw [hget, if_neg (by have := hGlt j (hG2 ▸ hj); omega)]) (fun m v' E' hm => hap β hvb m v' E' hm) (fun e cs he hβ => by
        obtain ⟨cs0, h0⟩ := kill2_b he
        exact h.mem.tkbx n vx E β e cs0 htn hvb h0 (hb2 ▸ hβ)) hTB
      have hcell : ∀ (q : Nat) u, (xs ++ ys)[q]? = some u → q < (l.length + l2.length) * ks.length ∧ us'[q]? = some u := fun q u hq => by
        have hq' := (List.getElem?_eq_some_iff.1 hq).1
        rw [List.length_append, hL.len, hyl] at hq'
        refine ⟨by rw [Nat.add_mul]; exact hq', ?_⟩
        rw [hget]
        by_cases hlt : q < l.length * ks.length
        · rw [if_neg (by omega)]
          rw [List.getElem?_append_left (by rw [hL.len]; exact hlt)] at hq
          obtain ⟨β', off', ea, ec, _⟩ := hcx q u hq
          cases ea
          simpa [World.cell?, e2] using ec
        · rw [if_pos (by omega)]
          rw [List.getElem?_append_right (by rw [hL.len]; omega), hL.len] at hq
          exact hq
      have hGm : ∀ b j, g.G b j → (g2.more β ((l.length + l2.length) * ks.length)).G b j ∧ (w.setRow β us').cell? ⟨b, j, none⟩ = w.cell? ⟨b, j, none⟩ := fun b j hj => by
        refine ⟨.inl (hG2 ▸ hj), ?_⟩
        by_cases e : b = β
        · subst e
          have := hGlt j hj
          have hg1 := hget j
          rw [if_neg (by omega)] at hg1
          simp [World.cell?, e2, hw.new, hg1]
        · exact World.cell?_of_block (a := ⟨b, j, none⟩) (hw.other b e)
      have hOwn : Own P (g2.more β ((l.length + l2.length) * ks.length)) (w.setRow β us') (.slice (some ⟨β, 0, none⟩) (l.length + l2.length) cap) E := by
        refine .inr ⟨β, _, cap, us', ks, fz, rfl, hw.new, hks, hroom, e5, by rw [hsz, e6], fun j hj hg => ?_, by rw [hsz]; exact e8⟩
        rcases hg with hg | ⟨_, hg⟩
        · have := hGlt j (hG2 ▸ hg)
          rw [Nat.add_mul] at hj
          omega
        · omega
      have hI := ht2.addTok (n := d) (v := .slice (some ⟨β, 0, none⟩) (l.length + l2.length) cap) (E := E) hd2 hOwn (fun m v' E' b hm hv' hb => by
        cases hb
        exact hap β hvb m v' E' hm hv') (fun e cs b he hb hvb' => by
        cases hvb'
        obtain ⟨cs0, h0⟩ := kill2_b he
        exact h.mem.tkbx n vx E β e cs0 htn hvb h0 (hb2 ▸ hb)) (fun b hb => by
        cases hb
        exact h.tb n vx E β htn hvb)
      rw [hvx]
      refine ⟨_, _, _, hrun, hI.put (some d) (x := .row (some d) E (l ++ l2)) ⟨?_, fun m hm => ?_⟩⟩
      · have := RepL.row (G := ((g2.more β ((l.length + l2.length) * ks.length)).tok d (.slice (some ⟨β, 0, none⟩) (l.length + l2.length) cap) E).G) (w := w.setRow β us') (β := β) (off := 0) (cap := cap) ((hL.append hy.rep).mono hGm) hks (by simpa using hroom) (fun q u hq => by
          obtain ⟨c1, c2⟩ := hcell q u hq
          exact ⟨.inr ⟨rfl, by omega⟩, by simp [World.cell?, hw.new, c2]⟩)
        rw [List.length_append] at this
        exact this
      · cases hm
        show (if d = d then _ else _) = _
        rw [if_pos rfl]
  · -- a new block
    have hyl : ys.length = l2.length * ks.length := hy.rep.len
    have hfo : ∀ w1 : World, w1.heap = w.heap → (Builtin.firstCells i.size l.length (.slice A l.length cap)).run P w1 = .ok xs.toArray w1 := by rw [p1, ← hvx]; exact hfx
    have h63 : ((l.length + l2.length : Nat) : Int) ≤ 9223372036854775807 := by omega
    have hfit : Builtin.nextslicecap (l.length + l2.length) cap * i.bytes ≤ 281474976710656 := by
      refine growslice_fits (by omega) ?_
      have : (l.length + l2.length) * i.bytes ≤ 1099511627776 * 128 := Nat.mul_le_mul (by omega) p3
      omega
    have hrun := run_app_grow (P := P) (w := w) (ty := ty) hT hU ht hu hdu hi hz (hform rfl) hfirst (A0 := A) (n := l.length) (cap := cap) hfo (by omega) h63 hfit
    generalize hC : grownCap w (l.length + l2.length) cap E = C at hrun
    have hC1 : l.length + l2.length ≤ C := hC ▸ grownCap_ge _ _ _ _
    have hC2 : C ≤ maxLen := hC ▸ grownCap_le_maxLen _ _ _ _ (by unfold maxLen; omega)
    generalize hus' : xs.toArray ++ ys.toArray ++ Builtin.zeroCells z.cells (C - (l.length + l2.length)) = us' at hrun
    have hsz : us'.size = C * ks.length := by
      rw [← hus']
      simp only [Array.size_append, List.size_toArray, hL.len, hyl, size_zeroCells, hzs, ← Nat.add_mul]
      congr 1
      omega
    have hget : ∀ (q : Nat) u, (xs ++ ys)[q]? = some u → q < (l.length + l2.length) * ks.length ∧ us'[q]? = some u := fun q u hq => by
      have hq' := (List.getElem?_eq_some_iff.1 hq).1
      refine ⟨by rw [List.length_append, hL.len, hyl] at hq'; rw [Nat.add_mul]; exact hq', ?_⟩
      rw [← hus', Array.getElem?_append_left (by simpa using hq')]
      simpa using hq
    have hw := Push.drew w (.cells us' E (0, 0))
    have hf := hk2.fresh hw ((l.length + l2.length) * ks.length)
    have hnew := hw.new
    have hOwn : Own P (g2.more w.heap.size ((l.length + l2.length) * ks.length)) (w.drew.alloc (.cells us' E (0, 0))) (.slice (some ⟨w.heap.size, 0, none⟩) (l.length + l2.length) C) E := by
      refine .inr ⟨w.heap.size, _, C, us', ks, (0, 0), rfl, hnew, hks, hC1, hC2, hsz, fun j hj hg => ?_, fzOk0 _⟩
      rcases hg with hg | ⟨_, hg⟩
      · have := h.mem.gsz _ _ (hG2 ▸ hg : g.G w.heap.size j); omega
      · omega
    have hI := hf.addTok (n := d) (v := .slice (some ⟨w.heap.size, 0, none⟩) (l.length + l2.length) C) (E := E) hd2 hOwn (fun m v' E' b hm hv' hb => by
      cases hb
      exact Nat.lt_irrefl _ ((h.mem.own m v' E' (hsub m _ hm).1).lt hv')) (fun e cs b he hb hvb' => by
      cases hvb'
      obtain ⟨cs0, h0⟩ := kill2_b he
      obtain ⟨β', us0, T0, b1, b2, _⟩ := h.mem.box e cs0 h0
      have hb' : g.bx e = some w.heap.size := hb2 ▸ hb
      rw [hb'] at b1
      cases b1
      have := (Array.getElem?_eq_some_iff.1 b2).1
      omega) (fun b hb => by
      cases hb
      exact .inl h.fr.size)
    rw [hvx]
    refine ⟨_, _, _, hrun, hI.put (some d) (x := .row (some d) E (l ++ l2)) ⟨?_, fun m hm => ?_⟩⟩
    · have hGm : ∀ b j, g.G b j → (g2.more w.heap.size ((l.length + l2.length) * ks.length)).G b j ∧ (w.drew.alloc (.cells us' E (0, 0))).cell? ⟨b, j, none⟩ = w.cell? ⟨b, j, none⟩ := fun b j hj =>
        ⟨.inl (hG2 ▸ hj), hw.cell (h.mem.gsz b j hj)⟩
      have := RepL.row (G := ((g2.more w.heap.size ((l.length + l2.length) * ks.length)).tok d (.slice (some ⟨w.heap.size, 0, none⟩) (l.length + l2.length) C) E).G) (w := w.drew.alloc (.cells us' E (0, 0))) (β := w.heap.size) (off := 0) (cap := C) ((hL.append hy.rep).mono hGm) hks (by simpa using hC1) (fun q u hq => by
        obtain ⟨c1, c2⟩ := hget q u hq
        exact ⟨.inr ⟨rfl, by omega⟩, by unfold World.cell?; dsimp only; rw [hnew]; simpa using c2⟩)
      rw [List.length_append] at this
      exact this
    · cases hm
      show (if d = d then _ else _) = _
      rw [if_pos rfl]
end
end Go.Proofs.YtckdgcpomkefpaaGreatDoor.En
end
