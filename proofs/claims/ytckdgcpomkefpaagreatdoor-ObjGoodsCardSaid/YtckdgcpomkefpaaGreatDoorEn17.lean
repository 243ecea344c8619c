/- What reading tells, tokens struck before or behind. -/
import Derived.Test.YtckdgcpomkefpaaGreatDoorEn16
set_option linter.unusedVariables false
set_option linter.unusedSimpArgs false
namespace Go.Proofs.YtckdgcpomkefpaaGreatDoor.En
open Go
section
variable {P : Program} {s : St} {f : Option Nat → Option Nat}

theorem tok_ofV (x : Value) : (St.ofV x).tok f = St.ofV x := by
  cases x <;> first | rfl | skip
  case agg cs =>
    show AV.agg ((cs.toList.map AV.v).map (AV.tok1 f)) = _
    rw [List.map_map]; rfl
theorem tok_get (n : Nat) : (s.tok f).get n = (s.get n).tok f := by
  unfold St.get St.tok
  rw [List.getD_eq_getElem?_getD, List.getD_eq_getElem?_getD, List.getElem?_map]
  cases s.t[n]? <;> rfl
theorem tok_ev (y : Operand) : (s.tok f).ev y = (s.ev y).tok f := by
  cases y with
  | tmp t => exact tok_get t
  | const x => exact (tok_ofV x).symm
  | func g => rfl
  | global g => rfl
theorem tok_boxAt (d : Nat) : (s.tok f).boxAt d = (s.boxAt d).map (List.map (AV.tok1 f)) := by
  unfold St.boxAt St.tok
  rw [List.getD_eq_getElem?_getD, List.getD_eq_getElem?_getD, List.getElem?_map]
  cases s.b[d]? <;> rfl
theorem flat_tok {c : AV} (h : c.flat = true) : c.tok f = c.tok1 f := by cases c <;> first | rfl | cases h
theorem tok1_flat (c : AV) : (c.tok1 f).flat = c.flat := by cases c <;> rfl
theorem tok1_one (c : AV) : (c.tok1 f).one = c.one := by cases c <;> rfl
theorem bare_tok (hf : f none = none) (c : AV) : c.bare.tok1 f = c.bare := by cases c <;> first | rfl | (show AV.row (f none) _ _ = _; rw [hf]; rfl)
theorem cellsOf_tok (hf : f none = none) (x : AV) : (s.tok f).cellsOf (x.tok f) = (s.cellsOf x).map (List.map (AV.tok1 f)) := by
  cases x <;> first | rfl | skip
  case box d off =>
    show ((s.tok f).boxAt d).map _ = _
    rw [tok_boxAt]
    show Option.map _ (Option.map _ (s.boxAt d)) = Option.map _ (Option.map _ (s.boxAt d))
    cases s.boxAt d with
    | none => rfl
    | some cs =>
      simp only [Option.map_some, ← List.map_drop, List.map_map]
      congr 1
      refine List.map_congr_left fun c _ => ?_
      cases c <;> rfl
  case ro cs =>
    show some (cs.map AV.bare) = some ((cs.map AV.bare).map (AV.tok1 f))
    rw [List.map_map]
    congr 1
    exact List.map_congr_left fun c _ => (bare_tok hf c).symm
theorem partAV_tok (T : TypeId) (cs : List AV) (off : Nat) : partAV P T (cs.map (AV.tok1 f)) off = (partAV P T cs off).map (AV.tok f) := by
  unfold partAV
  cases aggT P T with
  | none => rfl
  | some ag =>
    simp only [Option.bind_some]
    cases ag
    · simp only [cond_false, List.getElem?_map]
      cases cs[off]? with
      | none => rfl
      | some c =>
        simp only [Option.map_some, Option.bind_some, tok1_flat]
        cases hc : c.flat
        · rfl
        · simp only [cond_true, Option.map_some, flat_tok hc]
    · simp only [cond_true]
      cases szT P T with
      | none => rfl
      | some n =>
        simp only [Option.bind_some, List.length_map]
        cases Nat.ble (off + n) cs.length
        · rfl
        · simp only [cond_true, Option.map_some, ← List.map_drop, ← List.map_take]; rfl
theorem bound_tok (o : Option Operand) (d : Nat) : bound (s.tok f) o d = bound s o d := by
  cases o with
  | none => rfl
  | some y =>
    simp only [bound, tok_ev]
    cases s.ev y <;> rfl
theorem cells_tok {x : AV} (h : x.cells.all AV.one = true) : (x.tok f).cells = x.cells.map (AV.tok1 f) := by
  cases x <;> first | rfl | skip
  case tup vs => simp [AV.cells, AV.one] at h
theorem cells_one (x : AV) : (x.tok f).cells.all AV.one = x.cells.all AV.one := by
  cases x <;> first | rfl | skip
  case agg cs =>
    show (cs.map (AV.tok1 f)).all AV.one = cs.all AV.one
    rw [List.all_map]
    congr 1
    funext c
    exact tok1_one c
theorem cells_len (x : AV) : (x.tok f).cells.length = x.cells.length := by
  cases x <;> first | rfl | skip
  case agg cs => simp [AV.cells, AV.tok, AV.tok2]
def tok3 (f : Option Nat → Option Nat) (p : Nat × Nat × AV) : Nat × Nat × AV := (p.1, p.2.1, p.2.2.tok f)
theorem partsAV_tok (T : TypeId) : ∀ (ps : List (Nat × Operand)), partsAV P (s.tok f) T ps = (partsAV P s T ps).map (List.map (tok3 f))
  | [] => rfl
  | (i, x) :: r => by
    simp only [partsAV, partsAV_tok T r, tok_ev]
    cases fieldOf P T i with
    | none => rfl
    | some ou =>
      obtain ⟨off, U⟩ := ou
      simp only [Option.bind_some]
      cases szT P U with
      | none => rfl
      | some n =>
        simp only [Option.bind_some]
        cases partsAV P s T r <;> rfl
theorem fillAV_tok : ∀ (l : List (Nat × Nat × AV)) (cs : List AV), fillAV (cs.map (AV.tok1 f)) (l.map (tok3 f)) = (fillAV cs l).map (List.map (AV.tok1 f))
  | [], cs => rfl
  | (off, n, x) :: r, cs => by
    simp only [List.map_cons, tok3, fillAV, cells_len, cells_one, List.length_map]
    cases hc : Nat.beq x.cells.length n && Nat.ble (off + n) cs.length && x.cells.all AV.one
    · rfl
    · simp only [Bool.and_eq_true] at hc
      simp only [cond_true]
      rw [cells_tok hc.2, ← List.map_take, ← List.map_drop, ← List.map_append, ← List.map_append]
      exact fillAV_tok r _
theorem plainL_tok : ∀ (cs : List AV), plainL (cs.map (AV.tok1 f)) = plainL cs
  | [] => rfl
  | c :: cs => by
    cases c <;> first | rfl | skip
    case v x =>
      show (plainL (cs.map (AV.tok1 f))).bind _ = (plainL cs).bind _
      rw [plainL_tok cs]
theorem rhs_tok (hf : f none = none) (o : Oper) : rhs P o (s.tok f) = (rhs P o s).map (AV.tok f) := by
  obtain ⟨dst, op, ty, pos, after, guard⟩ := o
  unfold rhs
  dsimp only
  split
  case h_1 x => rw [tok_ev]; rfl
  case h_2 c a b =>
    rw [tok_ev, tok_ev, tok_ev]
    cases s.ev c <;> first | rfl | skip
    rename_i cv
    cases cv <;> first | rfl | skip
    rename_i cb
    have key : ∀ (A B' : AV), (match A.tok f, B'.tok f with
        | .v (.bool x), .v (.bool y) => some (B (bif cb then x else y))
        | x, y => some (bif cb then x else y)) = Option.map (AV.tok f) (match A, B' with
        | .v (.bool x), .v (.bool y) => some (B (bif cb then x else y))
        | x, y => some (bif cb then x else y)) := fun A B' => by
      have hA : (∃ x, A = .v (.bool x)) ∨ ∀ x, A ≠ .v (.bool x) := by
        by_cases h : ∃ x, A = .v (.bool x)
        · exact .inl h
        · exact .inr fun x e => h ⟨x, e⟩
      have hB : (∃ x, B' = .v (.bool x)) ∨ ∀ x, B' ≠ .v (.bool x) := by
        by_cases h : ∃ x, B' = .v (.bool x)
        · exact .inl h
        · exact .inr fun x e => h ⟨x, e⟩
      have inv : ∀ (C : AV) x, C.tok f = .v (.bool x) → C = .v (.bool x) := fun C x e => by cases C <;> first | exact e | cases e
      rcases hA with ⟨x, rfl⟩ | hA
      · rcases hB with ⟨y, rfl⟩ | hB
        · rfl
        · split
          · rename_i h1 h2; exact absurd (inv _ _ h2) (hB _)
          · split
            · rename_i h1 h2; exact absurd rfl (hB _)
            · cases cb <;> rfl
      · split
        · rename_i h1 h2; exact absurd (inv _ _ h1) (hA _)
        · split
          · rename_i h1 h2; exact absurd rfl (hA _)
          · cases cb <;> rfl
    exact key _ _
  case h_3 T ps =>
    rw [partsAV_tok]
    cases hz : zeroCells P T with
    | none => rfl
    | some z =>
      simp only [Option.bind_some]
      cases fieldsOk P T
      · rfl
      simp only [cond_true]
      cases partsAV P s T ps.toList with
      | none => rfl
      | some l =>
        simp only [Option.bind_some, Option.map_some]
        have hz' : z.map (AV.tok1 f) = z := by
          unfold zeroCells at hz
          obtain ⟨zv, _, hz⟩ := Option.bind_eq_some_iff.1 hz
          obtain ⟨_, hz⟩ := bif_some hz
          cases hz
          rw [List.map_map]; rfl
        have := fillAV_tok (f := f) l z
        rw [hz'] at this
        rw [this]
        cases fillAV z l <;> rfl
  case h_4 T a =>
    rw [tok_ev, cellsOf_tok hf]
    cases s.cellsOf (s.ev a) with
    | none => rfl
    | some cs => exact partAV_tok T cs 0
  case h_5 x => rw [tok_ev]; cases s.ev x <;> rfl
  case h_6 op T x y _ =>
    rw [tok_ev, tok_ev]
    cases s.ev x <;> cases s.ev y <;> first | rfl | skip
    rename_i a b
    show (bif boolOk P T y a then (pureOp op a b).map AV.v else none) = Option.map _ (bif boolOk P T y a then (pureOp op a b).map AV.v else none)
    cases boolOk P T y a
    · rfl
    · cases pureOp op a b <;> rfl
  case h_7 op _ x =>
    rw [tok_ev]
    cases s.ev x <;> first | rfl | skip
    rename_i a
    show (unOpV op a).map AV.v = Option.map _ ((unOpV op a).map AV.v)
    cases unOpV op a <;> rfl
  case h_8 src dst x =>
    rw [tok_ev]
    cases s.ev x <;> first | rfl | skip
    · rename_i a
      show (convV P src dst a).map AV.v = Option.map _ ((convV P src dst a).map AV.v)
      cases convV P src dst a <;> rfl
    · rename_i t E l
      show (match P.underlying src, P.underlying dst with
        | some (.slice E'), some .string => _
        | _, _ => _) = Option.map (AV.tok f) (match P.underlying src, P.underlying dst with
        | some (.slice E'), some .string => _
        | _, _ => _)
      split
      · split
        · cases E == _ <;> rfl
        · rfl
      · rfl
  case h_9 T x =>
    rw [tok_ev]
    split
    · rfl
    · rfl
    · cases s.ev x <;> first | rfl | skip
      rename_i cs
      show (plainL (cs.map (AV.tok1 f))).bind _ = Option.map _ ((plainL cs).bind _)
      rw [plainL_tok]
      cases plainL cs <;> rfl
  case h_10 T x lo hi =>
    simp only [tok_ev, bound_tok]
    cases s.ev x <;> first | rfl | skip
    · rename_i v
      cases v <;> first | rfl | skip
      rename_i str
      show (bound s hi str.size).bind _ = Option.map _ ((bound s hi str.size).bind _)
      cases bound s hi str.size with
      | none => rfl
      | some h =>
        simp only [Option.bind_some]
        cases bound s lo 0 with
        | none => rfl
        | some l =>
          simp only [Option.bind_some]
          cases strT P T && decide (0 ≤ h) && decide (h ≤ str.size) && decide (0 ≤ l) && decide (l ≤ h) <;> rfl
    · rename_i t E r
      show (bound s hi r.length).bind _ = Option.map _ ((bound s hi r.length).bind _)
      cases bound s hi r.length with
      | none => rfl
      | some h =>
        simp only [Option.bind_some]
        cases bound s lo 0 with
        | none => rfl
        | some l =>
          simp only [Option.bind_some]
          cases kinds P E with
          | none => rfl
          | some ks =>
            simp only [Option.bind_some]
            cases elemT P T == some E && szT P E == some ks.length && decide (0 ≤ h) && decide (h ≤ r.length) && decide (0 ≤ l) && decide (l ≤ h)
            · rfl
            · show some (AV.row none E _) = some (AV.row (f none) E _)
              rw [hf]
  case h_11 T x g =>
    rw [tok_ev]
    cases fieldOf P T g with
    | none => rfl
    | some ou =>
      obtain ⟨off, U⟩ := ou
      simp only [Option.bind_some]
      cases szT P U with
      | none => rfl
      | some n =>
        simp only [Option.bind_some]
        cases n == 0
        · cases s.ev x <;> rfl
        · rfl
  case h_12 T x g =>
    rw [tok_ev]
    cases fieldOf P T g with
    | none => rfl
    | some ou =>
      obtain ⟨off, U⟩ := ou
      simp only [Option.bind_some]
      cases s.ev x <;> first | rfl | skip
      rename_i cs
      exact partAV_tok U cs off
  case h_13 T x i =>
    rw [tok_ev, tok_ev]
    cases s.ev x <;> cases s.ev i <;> first | rfl | skip
    rename_i t E l v
    cases v <;> first | rfl | skip
    rename_i k n
    show (bif elemT P T == some E then (kinds P E).bind _ else none) = Option.map _ (bif elemT P T == some E then (kinds P E).bind _ else none)
    cases elemT P T == some E
    · rfl
    simp only [cond_true]
    cases kinds P E with
    | none => rfl
    | some ks =>
      simp only [Option.bind_some]
      cases szT P E == some ks.length
      · rfl
      · simp only [cond_true]
        cases idx l n <;> rfl
  case h_14 T x i =>
    rw [tok_ev, tok_ev]
    cases s.ev x <;> first | rfl | skip
    rename_i v
    cases v <;> first | rfl | skip
    rename_i str
    cases s.ev i <;> first | rfl | skip
    rename_i u
    cases u <;> first | rfl | skip
    rename_i k n
    show (bif strT P T && decide (0 ≤ n) && decide (n < str.size) then _ else _) = Option.map _ (bif strT P T && decide (0 ≤ n) && decide (n < str.size) then _ else _)
    cases strT P T && decide (0 ≤ n) && decide (n < str.size) <;> rfl
  case h_15 x i =>
    rw [tok_ev]
    cases s.ev x <;> first | rfl | skip
    rename_i vs
    show ((vs.map (AV.tok2 f))[i]?).bind _ = Option.map _ ((vs[i]?).bind _)
    rw [List.getElem?_map]
    cases vs[i]? with
    | none => rfl
    | some c => cases c <;> rfl
  case h_16 xs Ts =>
    split
    · rename_i x T hx hT
      rw [tok_ev]
      cases s.ev x <;> first | rfl | skip
      · rename_i v
        cases v <;> first | rfl | skip
        · rename_i str
          show (bif strT P T then _ else _) = Option.map _ (bif strT P T then _ else _)
          cases strT P T <;> rfl
        · rename_i A n c
          cases A <;> cases n <;> cases c <;> first | rfl | skip
          show (bif (elemT P T).isSome then _ else _) = Option.map _ (bif (elemT P T).isSome then _ else _)
          cases (elemT P T).isSome <;> rfl
      · show (bif (elemT P T).isSome then _ else _) = Option.map _ (bif (elemT P T).isSome then _ else _)
        cases (elemT P T).isSome <;> rfl
    · rfl
  case h_17 => rfl
theorem packC_tok (k : CK) (c : AV) : packC k (c.tok1 f) = packC k c := by cases c <;> first | rfl | (cases k <;> rfl)
theorem packL_tok : ∀ (ks : List CK) (cs : List AV), packL ks (cs.map (AV.tok1 f)) = packL ks cs
  | [], [] => rfl
  | [], _ :: _ => rfl
  | _ :: _, [] => rfl
  | k :: ks, c :: cs => by simp only [List.map_cons, packL, packC_tok, packL_tok ks cs]
theorem pack_tok (ks : List CK) (x : AV) : pack ks (x.tok f) = pack ks x := by
  cases x <;> first | rfl | skip
  case agg cs =>
    show (packL ks (cs.map (AV.tok1 f))).bind _ = (packL ks cs).bind _
    rw [packL_tok]
  all_goals (cases ks <;> first | rfl | (rename_i k ks; cases ks <;> cases k <;> rfl))
theorem partsF_tok (ks : List CK) : ∀ (l : List (Nat × AV)) (n : Nat), partsF ks (l.map fun p => (p.1, p.2.tok f)) n = partsF ks l n
  | [], n => rfl
  | (i, x) :: r, n => by
    simp only [List.map_cons, partsF, pack_tok, partsF_tok ks r (n + 1)]
theorem rhsB_tok (hf : f none = none) (o : Oper) : rhsB P o (s.tok f) = (rhsB P o s).map (AV.tok f) := by
  obtain ⟨dst, op, ty, pos, after, guard⟩ := o
  unfold rhsB
  dsimp only
  split
  · rename_i T n ps d
    have h1 : (ps.toList.map fun (i, x) => (i, (s.tok f).ev x)) = (ps.toList.map fun (i, x) => (i, s.ev x)).map fun p => (p.1, p.2.tok f) := by
      rw [List.map_map]
      refine List.map_congr_left fun p _ => ?_
      obtain ⟨i, x⟩ := p
      show (i, (s.tok f).ev x) = (i, (s.ev x).tok f)
      rw [tok_ev]
    have h2 : (ps.toList.all fun p => ((s.tok f).ev p.2).cells.all AV.one) = ps.toList.all fun p => (s.ev p.2).cells.all AV.one := by
      congr 1
      funext p
      rw [tok_ev, cells_one]
    have h3 : (s.tok f).t.length = s.t.length := by simp [St.tok]
    rw [h1, h2, h3]
    cases elemT P T with
    | none => rfl
    | some E =>
      simp only [Option.bind_some]
      cases kinds P E with
      | none => rfl
      | some ks =>
        simp only [Option.bind_some, partsF_tok]
        cases partsF ks (ps.toList.map fun (i, x) => (i, s.ev x)) 0 with
        | none => rfl
        | some l =>
          simp only [Option.bind_some]
          cases Nat.beq l.length n && szT P E == some ks.length && (zeroCells P E).isSome && Nat.ble (n * ks.length) 16777216 && Nat.blt 0 ks.length && Nat.blt d s.t.length && ps.toList.all (fun p => (s.ev p.2).cells.all AV.one)
          · rfl
          · show some (AV.row none E l) = some (AV.row (f none) E l)
            rw [hf]
  · rename_i src dst' x d
    rw [tok_ev]
    cases s.ev x <;> first | rfl | skip
    rename_i v
    cases v <;> first | rfl | skip
    rename_i str
    show (match P.underlying src, P.underlying dst' with
        | some .string, some (.slice E) => _
        | _, _ => _) = Option.map (AV.tok f) (match P.underlying src, P.underlying dst' with
        | some .string, some (.slice E) => _
        | _, _ => _)
    split
    · split
      · rename_i E _ _ _ _
        cases Nat.ble str.size fitsN && szT P _ == some 1
        · rfl
        · show some (AV.row none _ _) = some (AV.row (f none) _ _)
          rw [hf]
      · rfl
    · rfl
  · rfl
end
end Go.Proofs.YtckdgcpomkefpaaGreatDoor.En
