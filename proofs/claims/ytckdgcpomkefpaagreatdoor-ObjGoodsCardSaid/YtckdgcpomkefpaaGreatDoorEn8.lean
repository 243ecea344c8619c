/- Calls: what a callee is given. -/
import Derived.Test.YtckdgcpomkefpaaGreatDoorEn7
set_option linter.unusedVariables false
set_option linter.unusedSimpArgs false
namespace Go.Proofs.YtckdgcpomkefpaaGreatDoor.En
open Go
section
variable {P : Program} {F : Fx} {g : Gh} {s : St} {a : Act} {w : World}

/-- The blocks that a callee may append to; its boxes' blocks. -/
def TBof (g : Gh) (β : Nat) : Prop := ∃ n y E, g.tk n = some (y, E) ∧ y.ownBlock = some β
def BBof (g : Gh) (bs : Bx) (β : Nat) : Prop := ∃ i cs, bs[i]? = some (some cs) ∧ g.bx i = some β
def TTof (g : Gh) (bs : Bx) (β j : Nat) : Prop := BBof g bs β ∨ (TBof g β ∧ ¬ g.G β j)
/-- A result's tokens are its own, each once; no boxes. -/
def OutV : AV → Prop
  | .box _ _ => False
  | .tup vs => (∀ (j : Nat) d o, vs[j]? ≠ some (.box d o)) ∧ (∀ (j : Nat) cs, vs[j]? = some (.agg cs) → ∀ (i : Nat) c, cs[i]? = some c → c.bare = c) ∧
      ∀ (j j' m : Nat) E l E' l', vs[j]? = some (.row (some m) E l) → vs[j']? = some (.row (some m) E' l') → j = j'
  | .agg cs => ∀ (i : Nat) c, cs[i]? = some c → c.bare = c
  | _ => True
def tokLt : AV → Prop
  | .row (some m) _ _ => m < 1024
  | .tup vs => ∀ (j m : Nat) E l, vs[j]? = some (.row (some m) E l) → m < 1024
  | _ => True
structure CallPost (P : Program) (g : Gh) (w : World) (bs : Bx) (v : AV) (bs' : Bx) (x : Value) (g' : Gh) (w' : World) : Prop where
  mem : Mem P g' w' bs'
  len : bs'.length = bs.length
  some_ : ∀ (i : Nat) cs', bs'[i]? = some (some cs') → ∃ cs, bs[i]? = some (some cs)
  rep : RepS P g' w' v x
  fr : Fr (TTof g bs) w w'
  g0 : ∀ β j, g.G β j → g'.G β j
  gfr : ∀ β j, g'.G β j → β < w.heap.size → g.G β j ∨ TBof g β
  tb : ∀ n y E β, g'.tk n = some (y, E) → y.ownBlock = some β → w.heap.size ≤ β ∨ TBof g β
  bx : ∀ (i : Nat) cs, bs[i]? = some (some cs) → g'.bx i = g.bx i
  canon : ∀ (i j m : Nat) cs E l, bs'[i]? = some (some cs) → cs[j]? = some (.row (some m) E l) → m = sub i j
  outv : OutV v
  lt : tokLt v
/-- What is asked of the calls. -/
def SoundCall (P : Program) (call : CallF) : Prop := ∀ f xs bs out, call f xs bs = some (true, out) → (∃ fn, P.funcs[f]? = some fn ∧ fn.body.isSome = true ∧ (fn.name == "runtime.NumGoroutine") = false) ∧ ∀ (g : Gh) (w : World) (vs : Array Value), Mem P g w bs → Laid g w → bs.length = xs.length → vs.size = xs.length →
  (∀ (i : Nat) x, xs[i]? = some x → ∃ v, vs[i]? = some v ∧ RepS P g w x v) →
  Calls P f vs w fun e w' => match out with
    | .ret v bs' => ∃ x g', e = .returned x ∧ CallPost P g w bs v bs' x g' w'
    | .thr x => e = .panicked [{ v := x, recovered := false }] ∧ Fr (TTof g bs) w w'

/-! ### what is handed over -/
inductive ArgR (P : Program) (take : Option Nat) (s : St) (T : TypeId) (x : AV) (i : Nat) : AV → Option (List AV) → Option Nat → Prop
  | box (d : Nat) (cs : List AV) : x = .box d 0 → s.boxAt d = some cs → cs.length ≤ 1024 → ArgR P take s T x i (.box i 0) (some (giveL d i 0 cs)) (some d)
  | row (t : Option Nat) (E : TypeId) (l : List Dat) : x = .row t E l → ArgR P take s T x i (.row none E l) none none
  | take (n : Nat) (E : TypeId) (l : List Dat) : x = .row (some n) E l → take = some i → n < 1024 → ArgR P take s T x i (.row (some i) E l) none none
  | nil (E : TypeId) : x = .v (.slice none 0 0) → elemT P T = some E → ArgR P take s T x i (.row (some i) E []) none none
  | v (y : Value) : x = .v y → ArgR P take s T x i (.v y) none none
  | agg (cs : List AV) : x = .agg cs → ArgR P take s T x i (.agg ((nilL (kinds P T) cs).map AV.bare)) none none
structure ArgsR (P : Program) (take : Option Nat) (s : St) (Ts : List TypeId) (xs : List AV) (i : Nat) (p : Pass) : Prop where
  lx : p.xs.length = xs.length
  lb : p.bs.length = xs.length
  ll : p.ls.length = xs.length
  each : ∀ (k : Nat) x, xs[k]? = some x → ∃ T x' b l, Ts[k]? = some T ∧ p.xs[k]? = some x' ∧ p.bs[k]? = some b ∧ p.ls[k]? = some l ∧ ArgR P take s T x (i + k) x' b l
  inj : ∀ (k k' d : Nat), p.ls[k]? = some (some d) → p.ls[k']? = some (some d) → k = k'
  tk : ∀ (k n : Nat) E l, xs[k]? = some (.row (some n) E l) → take = some (i + k) → n < 1024 → p.tk = some n
theorem argsFor_spec {take : Option Nat} : ∀ (Ts : List TypeId) (xs : List AV) (i : Nat) (p : Pass), argsFor P take s Ts xs i = some p → ArgsR P take s Ts xs i p
  | [], [], i, p, h => by
    cases h
    exact ⟨rfl, rfl, rfl, fun k x h => by simp at h, fun k k' d h => by simp at h, fun k n E l h => by simp at h⟩
  | T :: Ts, x :: xs, i, p, h => by
    simp only [argsFor] at h
    have h' := Option.bind_eq_some_iff.1 h
    clear h
    obtain ⟨q, hq, h⟩ := h'
    have ih := argsFor_spec Ts xs (i + 1) q hq
    have mk : ∀ (x' : AV) (b : Option (List AV)) (l : Option Nat) (tk : Option Nat), ArgR P take s T x i x' b l → (∀ d, l = some d → ¬ q.ls.contains (some d) = true) → ((∀ n E l, x = .row (some n) E l → take = some i → n < 1024 → tk = some n) ∧ (tk = q.tk ∨ take = some i)) →
        ArgsR P take s (T :: Ts) (x :: xs) i ⟨x' :: q.xs, b :: q.bs, l :: q.ls, tk⟩ := fun x' b l tk hr hl ht => by
      refine ⟨by simp [ih.lx], by simp [ih.lb], by simp [ih.ll], fun k y hk => ?_, fun k k' d h1 h2 => ?_, fun k n E l' hk h1 h2 => ?_⟩
      · cases k with
        | zero => simp at hk; subst hk; exact ⟨T, x', b, l, rfl, rfl, rfl, rfl, hr⟩
        | succ k =>
          obtain ⟨T', x2, b2, l2, e1, e2, e3, e4, e5⟩ := ih.each k y (by simpa using hk)
          refine ⟨T', x2, b2, l2, by simpa using e1, by simpa using e2, by simpa using e3, by simpa using e4, ?_⟩
          rw [show i + (k + 1) = i + 1 + k by omega]
          exact e5
      · have mem : ∀ (k : Nat), q.ls[k]? = some (some d) → q.ls.contains (some d) = true := fun k hk => by
          rw [List.contains_iff_mem]; exact List.mem_of_getElem? hk
        cases k with
        | zero =>
          simp at h1
          cases k' with
          | zero => rfl
          | succ k' => exact absurd (mem k' (by simpa using h2)) (hl d h1)
        | succ k =>
          cases k' with
          | zero => simp at h2; exact absurd (mem k (by simpa using h1)) (hl d h2)
          | succ k' => rw [ih.inj k k' d (by simpa using h1) (by simpa using h2)]
      · cases k with
        | zero => simp at hk; exact ht.1 n E l' hk h1 h2
        | succ k =>
          have := ih.tk k n E l' (by simpa using hk) (by rw [h1]; congr 1; omega) h2
          rcases ht.2 with e | e
          · rw [e]; exact this
          · rw [h1] at e; injection e with e; omega
    split at h
    · rename_i d off
      split at h
      · rename_i E hu
        have h' := Option.bind_eq_some_iff.1 h
        clear h
        obtain ⟨cs, hcs, h⟩ := h'
        cases hc : (off == 0 && szT P E == some cs.length && Nat.ble cs.length 1024 && !q.ls.contains (some d)) <;> rw [hc] at h <;> cases h
        simp only [Bool.and_eq_true] at hc
        obtain ⟨⟨⟨c1, c2⟩, c3⟩, c4⟩ := hc
        have : off = 0 := by simpa using c1
        subst this
        exact mk _ _ _ _ (.box d cs rfl hcs (Nat.le_of_ble_eq_true c3)) (fun e he => by cases he; simpa using c4) ⟨fun n E l he => (by cases he), .inl rfl⟩
      · cases h
    · rename_i t E l
      split at h
      · rename_i n
        cases hc : (take == some i && Nat.blt n 1024) <;> rw [hc] at h <;> cases h
        · refine mk _ _ _ _ (.row _ E l rfl) (fun e he => by cases he) ⟨fun n' E' l' he h1 h2 => ?_, .inl rfl⟩
          cases he
          have e1 : (take == some i) = true := by rw [h1]; simp
          have e2 : Nat.blt n 1024 = true := Nat.ble_eq_true_of_le h2
          rw [e1, e2] at hc
          cases hc
        · simp only [Bool.and_eq_true] at hc
          have e1 : take = some i := by simpa using hc.1
          exact mk _ _ _ _ (.take n E l rfl e1 (Nat.le_of_ble_eq_true hc.2)) (fun e he => by cases he) ⟨fun n' E' l' he h1 h2 => (by cases he; rfl), .inr e1⟩
      · cases h
        exact mk _ _ _ _ (.row _ E l rfl) (fun e he => by cases he) ⟨fun n' E' l' he h1 h2 => (by cases he), .inl rfl⟩
    · split at h
      · rename_i E hE
        cases h
        exact mk _ _ _ _ (.nil E rfl hE) (fun e he => by cases he) ⟨fun n E l he => (by cases he), .inl rfl⟩
      · cases h
    · rename_i y _
      cases h
      exact mk _ _ _ _ (.v y rfl) (fun e he => by cases he) ⟨fun n E l he => (by cases he), .inl rfl⟩
    · rename_i cs
      cases h
      exact mk _ _ _ _ (.agg cs rfl) (fun e he => by cases he) ⟨fun n E l he => (by cases he), .inl rfl⟩
    · cases h
  | [], _ :: _, i, p, h => by simp [argsFor] at h
  | _ :: _, [], i, p, h => by simp [argsFor] at h
end
end Go.Proofs.YtckdgcpomkefpaaGreatDoor.En
