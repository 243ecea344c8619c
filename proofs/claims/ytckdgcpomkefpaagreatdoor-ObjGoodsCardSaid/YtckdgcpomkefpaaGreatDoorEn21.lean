/- Functions follow the plain evaluator. -/
import Derived.Test.YtckdgcpomkefpaaGreatDoorEn20
set_option linter.unusedVariables false
set_option linter.unusedSimpArgs false
namespace Go.Proofs.YtckdgcpomkefpaaGreatDoor.En
open Go
def okFn (P : Program) (fn : Func) : Bool := !(fn.name == "runtime.NumGoroutine") && (match fn.body with | some c => okCode P c | none => false)
section
variable {P : Program} {F : Fx} {np : Nat} {takes : FuncId → Option Nat} {call : CallF} {g : Gh} {s : St} {a : Act} {w : World}

/-! ### results -/
structure Shape (x : AV) : Prop where
  box : ∀ d o, x ≠ .box d o
  tup : ∀ vs, x ≠ .tup vs
  agg : ∀ cs, x = .agg cs → ∀ (i : Nat) c, cs[i]? = some c → c.bare = c
theorem bare_bare (c : AV) : c.bare.bare = c.bare := by cases c <;> rfl
theorem bare_C {c : AV} {v : Value} (h : RepC P g w c v) : RepC P g w c.bare v := by
  cases c <;> first | exact h | skip
  case row t E l => exact ⟨h.1, fun n hn => by cases hn⟩
  case box d off => obtain ⟨β, _, rfl⟩ := h; exact rfl
theorem claim_spec (u : List Nat) (x : AV) : (∀ v, RepS P g w x v → RepT P g w (claim u x).2 v) ∧ Shape (claim u x).2 ∧ (∀ m E l, (claim u x).2 = .row (some m) E l → m ∉ u ∧ m < 1024 ∧ (claim u x).1 = m :: u) ∧ (∀ m, m ∈ u → m ∈ (claim u x).1) := by
  cases x with
  | row t E l =>
    cases t with
    | none => exact ⟨fun v h => h, ⟨fun _ _ e => (by cases e), fun _ e => (by cases e), fun _ e => (by cases e)⟩, fun _ _ _ e => (by cases e), fun _ h => h⟩
    | some n =>
      unfold claim
      dsimp only
      cases hc : u.contains n || !Nat.blt n 1024
      · simp only [Bool.or_eq_false_iff] at hc
        refine ⟨fun v h => h, ⟨fun _ _ e => (by cases e), fun _ e => (by cases e), fun _ e => (by cases e)⟩, fun m E' l' e => ?_, fun m h => by simp [h]⟩
        cases e
        have h2 : Nat.blt n 1024 = true := by simpa using hc.2
        exact ⟨by simpa using hc.1, Nat.le_of_ble_eq_true h2, rfl⟩
      · exact ⟨fun v h => ⟨h.1, fun m hm => by cases hm⟩, ⟨fun _ _ e => (by cases e), fun _ e => (by cases e), fun _ e => (by cases e)⟩, fun _ _ _ e => (by cases e), fun _ h => h⟩
  | agg cs =>
    refine ⟨fun v h => ?_, ⟨fun _ _ e => (by cases e), fun _ e => (by cases e), fun cs' e i c hi => ?_⟩, fun _ _ _ e => (by cases e), fun _ h => h⟩
    · obtain ⟨vs, h1, h2, h3⟩ := h
      refine ⟨vs, h1, by simp [h2], fun j c hj => ?_⟩
      rw [List.getElem?_map] at hj
      obtain ⟨c0, hc0, rfl⟩ := Option.map_eq_some_iff.1 hj
      obtain ⟨u, hu, hr⟩ := h3 j c0 hc0
      exact ⟨u, hu, bare_C hr⟩
    · cases e
      rw [List.getElem?_map] at hi
      obtain ⟨c0, hc0, rfl⟩ := Option.map_eq_some_iff.1 hi
      exact bare_bare c0
  | tup vs => exact ⟨fun v h => trivial, ⟨fun _ _ e => (by cases e), fun _ e => (by cases e), fun _ e => (by cases e)⟩, fun _ _ _ e => (by cases e), fun _ h => h⟩
  | box d o => exact ⟨fun v h => trivial, ⟨fun _ _ e => (by cases e), fun _ e => (by cases e), fun _ e => (by cases e)⟩, fun _ _ _ e => (by cases e), fun _ h => h⟩
  | v y => exact ⟨fun v h => h, ⟨fun _ _ e => (by cases e), fun _ e => (by cases e), fun _ e => (by cases e)⟩, fun _ _ _ e => (by cases e), fun _ h => h⟩
  | ro cs => exact ⟨fun v h => h, ⟨fun _ _ e => (by cases e), fun _ e => (by cases e), fun _ e => (by cases e)⟩, fun _ _ _ e => (by cases e), fun _ h => h⟩
  | self => exact ⟨fun v h => h, ⟨fun _ _ e => (by cases e), fun _ e => (by cases e), fun _ e => (by cases e)⟩, fun _ _ _ e => (by cases e), fun _ h => h⟩
  | dead => exact ⟨fun v h => h, ⟨fun _ _ e => (by cases e), fun _ e => (by cases e), fun _ e => (by cases e)⟩, fun _ _ _ e => (by cases e), fun _ h => h⟩
theorem claimL_spec : ∀ (l : List AV) (u : List Nat), (claimL u l).length = l.length ∧
    (∀ (j : Nat) x, (claimL u l)[j]? = some x → ∃ y, l[j]? = some y ∧ (∀ v, RepS P g w y v → RepT P g w x v) ∧ Shape x) ∧
    (∀ (j m : Nat) E d, (claimL u l)[j]? = some (.row (some m) E d) → m ∉ u ∧ m < 1024) ∧
    ∀ (j j' m : Nat) E d E' d', (claimL u l)[j]? = some (.row (some m) E d) → (claimL u l)[j']? = some (.row (some m) E' d') → j = j'
  | [], u => ⟨rfl, fun j x h => by simp [claimL] at h, fun j m E d h => by simp [claimL] at h, fun j j' m E d E' d' h => by simp [claimL] at h⟩
  | x :: l, u => by
    obtain ⟨c1, c2, c3, c4⟩ := claim_spec (P := P) (g := g) (w := w) u x
    obtain ⟨i1, i2, i3, i4⟩ := claimL_spec l (claim u x).1
    unfold claimL
    refine ⟨by simp [i1], fun j y h => ?_, fun j m E d h => ?_, fun j j' m E d E' d' h h' => ?_⟩
    · cases j with
      | zero => simp at h; subst h; exact ⟨x, rfl, c1, c2⟩
      | succ j => exact i2 j y (by simpa using h)
    · cases j with
      | zero => simp at h; exact ⟨(c3 m E d h).1, (c3 m E d h).2.1⟩
      | succ j =>
        have := i3 j m E d (by simpa using h)
        exact ⟨fun hm => this.1 (c4 m hm), this.2⟩
    · cases j with
      | zero =>
        simp at h
        cases j' with
        | zero => rfl
        | succ j' =>
          have := (i3 j' m E' d' (by simpa using h')).1
          rw [(c3 m E d h).2.2] at this
          simp at this
      | succ j =>
        cases j' with
        | zero =>
          simp at h'
          have := (i3 j m E d (by simpa using h)).1
          rw [(c3 m E' d' h').2.2] at this
          simp at this
        | succ j' => rw [i4 j j' m E d E' d' (by simpa using h) (by simpa using h')]
theorem claimB_spec : ∀ (bx b : Bx) (i : Nat), bx.length ≤ b.length → (claimB i bx b).length = bx.length ∧ ∀ (j : Nat) cs, (claimB i bx b)[j]? = some (some cs) → ∃ cs0 cs1, bx[j]? = some (some cs0) ∧ b[j]? = some (some cs1) ∧ cs = giveL (i + j) (i + j) 0 cs1
  | [], b, i, h => ⟨by cases b <;> rfl, fun j cs hj => by cases b <;> simp [claimB] at hj⟩
  | x :: bx, [], i, h => by simp at h
  | x :: bx, y :: b, i, h => by
    obtain ⟨h1, h2⟩ := claimB_spec bx b (i + 1) (by simpa using h)
    have tl : ∀ (j : Nat) cs, (claimB (i + 1) bx b)[j]? = some (some cs) → ∃ cs0 cs1, (x :: bx)[j + 1]? = some (some cs0) ∧ (y :: b)[j + 1]? = some (some cs1) ∧ cs = giveL (i + (j + 1)) (i + (j + 1)) 0 cs1 := fun j cs hj => by
      obtain ⟨a1, a2, e1, e2, e3⟩ := h2 j cs hj
      exact ⟨a1, a2, by simpa using e1, by simpa using e2, by rw [e3, show i + 1 + j = i + (j + 1) by omega]⟩
    have mk : (claimB i (x :: bx) (y :: b) = none :: claimB (i + 1) bx b) → _ := fun e => (show (claimB i (x :: bx) (y :: b)).length = (x :: bx).length ∧ ∀ (j : Nat) cs, (claimB i (x :: bx) (y :: b))[j]? = some (some cs) → ∃ cs0 cs1, (x :: bx)[j]? = some (some cs0) ∧ (y :: b)[j]? = some (some cs1) ∧ cs = giveL (i + j) (i + j) 0 cs1 from by
      rw [e]
      refine ⟨by simp [h1], fun j cs hj => ?_⟩
      cases j with
      | zero => simp at hj
      | succ j => exact tl j cs (by simpa using hj))
    cases x with
    | none => exact mk (by cases y <;> rfl)
    | some cs0 =>
      cases y with
      | none => exact mk rfl
      | some cs1 =>
        show (some (giveL i i 0 cs1) :: claimB (i + 1) bx b).length = _ ∧ _
        refine ⟨by simp [h1], fun j cs hj => ?_⟩
        cases j with
        | zero =>
          have hj' : (some (some (giveL i i 0 cs1)) : Option (Option (List AV))) = some (some cs) := hj
          cases hj'
          exact ⟨cs0, cs1, rfl, rfl, rfl⟩
        | succ j => exact tl j cs (by simpa [claimB] using hj)
def resF (tm : Array Value) : ResultVar → Sem Value
  | .tmp t => pure (tm.getD t undef)
  | .cell c t => do loadVar t (← asAddr (tm.getD c undef))
theorem results_eq (fn : Func) (tm : Array Value) : results fn tm = (do
    let vs ← fn.results.mapM (resF tm)
    pure (if h : vs.size = 1 then vs[0] else .tuple vs)) := by
  unfold results
  congr 1
theorem resVal_sound (h : Inv P F g s a w) {r : ResultVar} {x : AV} (hx : resVal P s r = some x) : Runs P w (resF a.tmps r) (RepS P g w x) := by
  cases r with
  | tmp t => cases hx; exact runs_pure (h.get t)
  | cell c T =>
    obtain ⟨cs, hcs, hx⟩ := Option.bind_eq_some_iff.1 hx
    obtain ⟨β, off, hv, hc⟩ := cellsOf_sound h (h.get c) hcs
    unfold resF
    dsimp only
    rw [hv]
    exact (show Runs P w (asAddr (.pointer (some ⟨β, off, none⟩))) (· = ⟨β, off, none⟩) from ⟨_, by simp [asAddr], rfl⟩).bind fun A hA => by
      subst hA
      exact loadVar_sound hc hx
theorem resVals_sound (h : Inv P F g s a w) : ∀ (rs : List ResultVar) (l : List AV), resVals P s rs = some l → Runs P w (rs.mapM (resF a.tmps)) fun vs => vs.length = l.length ∧ ∀ (j : Nat) x, l[j]? = some x → ∃ v, vs[j]? = some v ∧ RepS P g w x v
  | [], l, hl => by
    cases hl
    rw [List.mapM_nil]
    exact runs_pure ⟨rfl, fun j x hj => by simp at hj⟩
  | r :: rs, l, hl => by
    obtain ⟨x, hx, hl'⟩ := Option.bind_eq_some_iff.1 hl
    obtain ⟨l', hl2, he⟩ := Option.bind_eq_some_iff.1 hl'
    cases he
    rw [List.mapM_cons]
    refine (resVal_sound h hx).bind fun v hv => ?_
    refine (resVals_sound h rs l' hl2).bind fun vs hvs => ?_
    refine runs_pure ⟨by simp [hvs.1], fun j y hj => ?_⟩
    cases j with
    | zero => simp at hj; subst hj; exact ⟨v, rfl, hv⟩
    | succ j => exact hvs.2 j y (by simpa using hj)
end
end Go.Proofs.YtckdgcpomkefpaaGreatDoor.En
