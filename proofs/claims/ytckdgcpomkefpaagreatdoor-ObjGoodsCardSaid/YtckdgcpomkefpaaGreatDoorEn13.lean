/- Groups that are joined: what is forgotten makes no difference. -/
import Derived.Test.YtckdgcpomkefpaaGreatDoorEn12
set_option linter.unusedVariables false
set_option linter.unusedSimpArgs false
namespace Go.Proofs.YtckdgcpomkefpaaGreatDoor.En
open Go
section
variable {P : Program} {s : St} {np : Nat} {dr : Bool} {takes : FuncId → Option Nat} {call : CallF} {D : List Nat}

/-! ### forgetting -/
theorem forgetL_get (D : List Nat) : ∀ (l : List AV) (i j : Nat), (forgetL D i l)[j]? = (l[j]?).map fun x => bif D.contains (i + j) then .dead else x
  | [], i, j => by simp [forgetL]
  | x :: l, i, 0 => by simp [forgetL]
  | x :: l, i, j + 1 => by
    simp only [forgetL, List.getElem?_cons_succ]
    rw [forgetL_get D l (i + 1) j, show i + 1 + j = i + (j + 1) by omega]
theorem forgetL_len (D : List Nat) : ∀ (l : List AV) (i : Nat), (forgetL D i l).length = l.length
  | [], i => rfl
  | x :: l, i => by simp [forgetL, forgetL_len D l (i + 1)]
theorem forgetL_map (D : List Nat) (φ : AV → AV) (h : φ .dead = .dead) : ∀ (l : List AV) (i : Nat), (forgetL D i l).map φ = forgetL D i (l.map φ)
  | [], i => rfl
  | x :: l, i => by
    simp only [forgetL, List.map_cons, forgetL_map D φ h l (i + 1)]
    cases D.contains i <;> simp [h]
theorem forgetL_set (D : List Nat) (x : AV) : ∀ (l : List AV) (i d : Nat), D.contains (i + d) = false → (forgetL D i l).set d x = forgetL D i (l.set d x)
  | [], i, d, h => rfl
  | y :: l, i, 0, h => by
    simp only [forgetL, List.set_cons_zero]
    rw [Nat.add_zero] at h
    rw [h]; rfl
  | y :: l, i, d + 1, h => by
    simp only [forgetL, List.set_cons_succ]
    rw [forgetL_set D x l (i + 1) d (by rw [show i + 1 + d = i + (d + 1) by omega]; exact h)]
theorem ncontains {D : List Nat} {d : Nat} (h : d ∉ D) : D.contains d = false := by
  rw [Bool.eq_false_iff]; intro e; exact h (by simpa using e)
theorem forget_tok (f : Option Nat → Option Nat) : (forget D s).tok f = forget D (s.tok f) := by
  show (⟨(forgetL D 0 s.t).map _, _⟩ : St) = ⟨forgetL D 0 (s.t.map _), _⟩
  rw [forgetL_map D _ rfl]
  rfl
theorem forget_put {d : Option Nat} (h : ∀ e, d = some e → e ∉ D) (x : AV) : (forget D s).put d x = forget D (s.put d x) := by
  cases d with
  | none => rfl
  | some d =>
    show (⟨(forgetL D 0 s.t).set d x, _⟩ : St) = ⟨forgetL D 0 (s.t.set d x), _⟩
    rw [forgetL_set D x _ _ _ (by rw [Nat.zero_add]; exact ncontains (h d rfl))]
    rfl
theorem forget_newBox {d : Nat} (h : d ∉ D) (cs : List AV) : (forget D s).newBox d cs = forget D (s.newBox d cs) := by
  unfold St.newBox
  rw [forget_tok]
  show (⟨((forgetL D 0 _).map _).set d _, _⟩ : St) = ⟨forgetL D 0 _, _⟩
  rw [forgetL_map D _ rfl, forgetL_set D _ _ _ _ (by rw [Nat.zero_add]; exact ncontains h)]
  rfl
theorem forget_get {t : Nat} (h : t ∉ D) : (forget D s).get t = s.get t := by
  unfold St.get forget
  rw [List.getD_eq_getElem?_getD, List.getD_eq_getElem?_getD, forgetL_get, Nat.zero_add, ncontains h]
  simp
theorem forget_get_in {t : Nat} (h : t ∈ D) : (forget D s).get t = .dead := by
  unfold St.get forget
  rw [List.getD_eq_getElem?_getD, forgetL_get, Nat.zero_add, show D.contains t = true by simpa using h]
  cases s.t[t]? <;> rfl
theorem forget_ev {y : Operand} (h : ∀ t, y = .tmp t → t ∉ D) : (forget D s).ev y = s.ev y := by
  cases y with
  | tmp t => exact forget_get (h t rfl)
  | _ => rfl
theorem forget_len : (forget D s).t.length = s.t.length := forgetL_len D _ _

/-! ### what an operation looks at -/
theorem cellsOf_congr {s' : St} (hb : s'.b = s.b) (x : AV) : s'.cellsOf x = s.cellsOf x := by
  unfold St.cellsOf St.boxAt; rw [hb]
theorem bound_congr {s' : St} {o : Option Operand} {d : Nat} (h : ∀ y, o = some y → s'.ev y = s.ev y) : bound s' o d = bound s o d := by
  cases o with
  | none => rfl
  | some y => simp only [bound, h y rfl]
theorem partsAV_congr {s' : St} {T : TypeId} : ∀ (ps : List (Nat × Operand)), (∀ p ∈ ps, s'.ev p.2 = s.ev p.2) → partsAV P s' T ps = partsAV P s T ps
  | [], _ => rfl
  | (i, x) :: r, h => by
    simp only [partsAV, partsAV_congr r (fun p hp => h p (by simp [hp])), h (i, x) (by simp)]
theorem rhs_congr' {s' : St} {o : Oper} (hb : ∀ T a, o.op = .load T a → s'.cellsOf (s'.ev a) = s.cellsOf (s.ev a)) (he : ∀ y ∈ o.op.operands.toList, s'.ev y = s.ev y) : rhs P o s' = rhs P o s := by
  obtain ⟨dst, op, ty, pos, after, guard⟩ := o
  unfold rhs
  dsimp only at he ⊢
  split
  case h_1 x => rw [he x (by simp [Op.operands])]
  case h_2 c a b => rw [he c (by simp [Op.operands]), he a (by simp [Op.operands]), he b (by simp [Op.operands])]
  case h_3 T ps => rw [partsAV_congr ps.toList (fun p hp => he p.2 (by simp [Op.operands]; exact ⟨p.1, by simpa using hp⟩))]
  case h_4 T a => rw [hb T a rfl]
  case h_5 x => rw [he x (by simp [Op.operands])]
  case h_6 op T x y _ => rw [he x (by simp [Op.operands]), he y (by simp [Op.operands])]
  case h_7 op _ x => rw [he x (by simp [Op.operands])]
  case h_8 src dst x => rw [he x (by simp [Op.operands])]
  case h_9 T x => rw [he x (by simp [Op.operands])]
  case h_10 T x lo hi =>
    have h1 : ∀ d, bound s' lo d = bound s lo d := fun d => bound_congr fun y hy => he y (by simp [Op.operands, hy])
    have h2 : ∀ d, bound s' hi d = bound s hi d := fun d => bound_congr fun y hy => he y (by simp [Op.operands, hy])
    rw [he x (by simp [Op.operands])]
    simp only [h1, h2]
  case h_11 T x f => rw [he x (by simp [Op.operands])]
  case h_12 T x f => rw [he x (by simp [Op.operands])]
  case h_13 T x i => rw [he x (by simp [Op.operands]), he i (by simp [Op.operands])]
  case h_14 T x i => rw [he x (by simp [Op.operands]), he i (by simp [Op.operands])]
  case h_15 x i => rw [he x (by simp [Op.operands])]
  case h_16 xs Ts =>
    split
    · rename_i x T hx hT
      have : x ∈ xs.toList := by rw [hx]; simp
      rw [he x (by simp [Op.operands, Call.operands]; simpa using this)]
    · rfl
  case h_17 => rfl
theorem rhs_congr {s' : St} {o : Oper} (hb : s'.b = s.b) (he : ∀ y ∈ o.op.operands.toList, s'.ev y = s.ev y) : rhs P o s' = rhs P o s :=
  rhs_congr' (fun T a e => by rw [he a (by rw [e]; simp [Op.operands]), cellsOf_congr hb]) he
theorem parts_congr {s' : St} {ps : Array (Nat × Operand)} (h1 : ∀ p ∈ ps.toList, s'.ev p.2 = s.ev p.2) : (ps.toList.map fun (i, x) => (i, s'.ev x)) = (ps.toList.map fun (i, x) => (i, s.ev x)) ∧
    (ps.toList.all fun p => (s'.ev p.2).cells.all AV.one) = ps.toList.all fun p => (s.ev p.2).cells.all AV.one := by
  refine ⟨List.map_congr_left fun p hp => (by obtain ⟨i, x⟩ := p; exact congrArg (fun z => (i, z)) (h1 (i, x) hp)), ?_⟩
  rw [Bool.eq_iff_iff, List.all_eq_true, List.all_eq_true]
  exact ⟨fun h p hp => by rw [← h1 p hp]; exact h p hp, fun h p hp => by rw [h1 p hp]; exact h p hp⟩
theorem rhsB_congr {s' : St} {o : Oper} (hl : s'.t.length = s.t.length) (he : ∀ y ∈ o.op.operands.toList, s'.ev y = s.ev y) : rhsB P o s' = rhsB P o s := by
  obtain ⟨dst, op, ty, pos, after, guard⟩ := o
  unfold rhsB
  dsimp only at he ⊢
  split
  · rename_i T n ps d
    obtain ⟨h2, h3⟩ := parts_congr (s := s) (s' := s') (ps := ps) (fun p hp => he p.2 (by simp [Op.operands]; exact ⟨p.1, by simpa using hp⟩))
    rw [h2, h3, hl]
  · rename_i src dst' x d
    rw [he x (by simp [Op.operands])]
  · rfl
end
end Go.Proofs.YtckdgcpomkefpaaGreatDoor.En
