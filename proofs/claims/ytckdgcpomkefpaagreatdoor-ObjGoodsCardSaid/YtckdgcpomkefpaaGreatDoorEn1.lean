/- What plain values say of memory, and that it lasts. -/
import Derived.Test.YtckdgcpomkefpaaGreatDoorEn0
import Derived.Test.YtckdgcpomkefpaaGreatDoorLay
import Derived.WalkKit
import Derived.Laws.AppendOwn
import Derived.Deep.Draws
set_option linter.unusedVariables false
set_option linter.unusedSimpArgs false
namespace Go.Proofs.YtckdgcpomkefpaaGreatDoor.En
open Go

/-- What is known besides the state: cells that stay as they are; tokens: the slices that may be appended to, and their elements' type; where the boxes lie. -/
structure Gh where
  G : Nat → Nat → Prop
  tk : Nat → Option (Value × TypeId)
  bx : Nat → Option Nat
def scal (k : CK) (d : Dat) (v : Value) : Prop := match k with
  | .int k => v = .int k d.toI
  | .bool => v = .bool d.toB
  | .str => v = .string d.toS
  | _ => True
inductive RepRow (P : Program) (G : Nat → Nat → Prop) (w : World) : TypeId → List Dat → Value → Prop
  | nil (E : TypeId) (A : Option Addr) (cap : Nat) : RepRow P G w E [] (.slice A 0 cap)
  | mk (E : TypeId) (l : List Dat) (β off cap : Nat) (ks : List CK) (vals : Nat → Nat → Value) (hk : kinds P E = some ks) (hlen : l.length ≤ cap)
      (hc : ∀ i j, i < l.length → j < ks.length → G β (off + i * ks.length + j) ∧ w.cell? ⟨β, off + i * ks.length + j, none⟩ = some (vals i j) ∧ (vals i j).oneCell' = true)
      (hs : ∀ i j d k, l[i]? = some d → ks[j]? = some k → scal k (d.at j) (vals i j))
      (hr : ∀ i j d E', l[i]? = some d → ks[j]? = some (.row E') → RepRow P G w E' (d.at j).toL (vals i j)) : RepRow P G w E l (.slice (some ⟨β, off, none⟩) l.length cap)
theorem RepRow.mono {P : Program} {G G' : Nat → Nat → Prop} {w w' : World} {E : TypeId} {l : List Dat} {v : Value} (h : RepRow P G w E l v)
    (hG : ∀ β j, G β j → G' β j ∧ w'.cell? ⟨β, j, none⟩ = w.cell? ⟨β, j, none⟩) : RepRow P G' w' E l v := by
  induction h with
  | nil E A cap => exact .nil E A cap
  | mk E l β off cap ks vals hk hlen hc hs hr ih =>
    exact .mk E l β off cap ks vals hk hlen (fun i j hi hj => ⟨(hG _ _ (hc i j hi hj).1).1, ((hG _ _ (hc i j hi hj).1).2).trans (hc i j hi hj).2.1, (hc i j hi hj).2.2⟩) hs ih
theorem RepRow.slice {P : Program} {G : Nat → Nat → Prop} {w : World} {E : TypeId} {l : List Dat} {v : Value} (h : RepRow P G w E l v) : ∃ A cap, v = .slice A l.length cap := by
  cases h with
  | nil E A cap => exact ⟨A, cap, rfl⟩
  | mk E l β off cap ks vals hk hlen hc hs hr => exact ⟨_, _, rfl⟩
theorem RepRow.one {P : Program} {G : Nat → Nat → Prop} {w : World} {E : TypeId} {l : List Dat} {v : Value} (h : RepRow P G w E l v) : v.oneCell' = true := by
  obtain ⟨A, cap, rfl⟩ := h.slice; rfl

section
variable (P : Program) (g : Gh) (w : World)
def Rep0 : AV → Value → Prop
  | .v x, v => v = x ∧ x.oneCell' = true
  | .row t E l, v => t = none ∧ RepRow P g.G w E l v
  | .dead, v => v.oneCell' = true
  | _, _ => False
def RepC : AV → Value → Prop
  | .v x, v => v = x ∧ x.oneCell' = true
  | .row t E l, v => RepRow P g.G w E l v ∧ ∀ n, t = some n → g.tk n = some (v, E)
  | .box d off, v => ∃ β, g.bx d = some β ∧ v = .pointer (some ⟨β, off, none⟩)
  | .ro cs, v => ∃ β o, v = .pointer (some ⟨β, o, none⟩) ∧ ∀ j c, cs[j]? = some c → ∃ u, w.cell? ⟨β, o + j, none⟩ = some u ∧ g.G β (o + j) ∧ Rep0 P g w c u
  | .dead, v => v.oneCell' = true
  | _, _ => False
def RepB (T : TypeId) (β j : Nat) : AV → Value → Prop
  | .self T', u => T' = T ∧ (u = .pointer none ∨ u = .pointer (some ⟨β, j, none⟩))
  | c, u => RepC P g w c u
def RepT : AV → Value → Prop
  | .agg cs, v => ∃ vs : Array Value, v = .agg vs ∧ vs.size = cs.length ∧ ∀ (j : Nat) c, cs[j]? = some c → ∃ u, vs[j]? = some u ∧ RepC P g w c u
  | .dead, _ => True
  | x, v => RepC P g w x v
def RepS : AV → Value → Prop
  | .tup xs, v => ∃ vs : Array Value, v = .tuple vs ∧ vs.size = xs.length ∧ ∀ (j : Nat) x, xs[j]? = some x → ∃ u, vs[j]? = some u ∧ RepT P g w x u
  | x, v => RepT P g w x v
/-- A slice that may be appended to. -/
def Own (v : Value) (E : TypeId) : Prop := v = .slice none 0 0 ∨ ∃ (β n cap : Nat) (us : Array Value) (ks : List CK), v = .slice (some ⟨β, 0, none⟩) n cap ∧ w.heap[β]? = some (.cells us E (0, 0)) ∧
  kinds P E = some ks ∧ n ≤ cap ∧ cap ≤ maxLen ∧ us.size = cap * ks.length ∧ ∀ j, n * ks.length ≤ j → ¬ g.G β j
structure Mem (b : Bx) : Prop where
  gsz : ∀ β j, g.G β j → β < w.heap.size
  box : ∀ d cs, b[d]? = some (some cs) → ∃ (β : Nat) (us : Array Value) (T : TypeId), g.bx d = some β ∧ w.heap[β]? = some (.cells us T (0, 0)) ∧ us.size = cs.length ∧
    (∀ j, ¬ g.G β j) ∧ ∀ (j : Nat) c, cs[j]? = some c → ∃ u, us[j]? = some u ∧ RepB P g w T β j c u
  apart : ∀ d d' β cs cs', b[d]? = some (some cs) → b[d']? = some (some cs') → g.bx d = some β → g.bx d' = some β → d = d'
  own : ∀ n v E, g.tk n = some (v, E) → Own P g w v E
  tkap : ∀ n m v v' E E' β, g.tk n = some (v, E) → g.tk m = some (v', E') → v.ownBlock = some β → v'.ownBlock = some β → n = m
  tkbx : ∀ n v E β d cs, g.tk n = some (v, E) → v.ownBlock = some β → b[d]? = some (some cs) → g.bx d = some β → False
end
/-- From w to w' nothing has turned but cells in T. -/
structure Fr (T : Nat → Nat → Prop) (w w' : World) : Prop where
  os : w'.os = w.os
  tape : w'.tape = w.tape
  output : w'.output = w.output
  size : w.heap.size ≤ w'.heap.size
  blk : ∀ β o, w.heap[β]? = some o → w'.heap[β]? = some o ∨ ∃ c E fz c' fz', o = .cells c E fz ∧ w'.heap[β]? = some (.cells c' E fz') ∧ c'.size = c.size ∧ (∀ j, ¬ T β j → c'[j]? = c[j]?) ∧ ((∀ j, ¬ T β j) → fz' = fz)
theorem Fr.refl (T : Nat → Nat → Prop) (w : World) : Fr T w w := ⟨rfl, rfl, rfl, Nat.le_refl _, fun _ _ h => .inl h⟩
theorem Fr.trans {T T' T'' : Nat → Nat → Prop} {a b c : World} (h : Fr T a b) (k : Fr T' b c) (h1 : ∀ β j, β < a.heap.size → T β j → T'' β j) (h2 : ∀ β j, β < a.heap.size → T' β j → T'' β j) : Fr T'' a c := by
  refine ⟨k.os.trans h.os, k.tape.trans h.tape, k.output.trans h.output, Nat.le_trans h.size k.size, fun β o ho => ?_⟩
  have hlt : β < a.heap.size := (Array.getElem?_eq_some_iff.1 ho).1
  rcases h.blk β o ho with e | ⟨c1, E, fz, c1', fz1, rfl, e, hsz, hc, hz⟩
  · rcases k.blk β o e with e' | ⟨c2, E, fz, c2', fz2, rfl, e', hsz', hc', hz'⟩
    · exact .inl e'
    · exact .inr ⟨c2, E, fz, c2', fz2, rfl, e', hsz', fun j hj => hc' j fun t => hj (h2 β j hlt t), fun hn => hz' fun j t => hn j (h2 β j hlt t)⟩
  · rcases k.blk β _ e with e' | ⟨c2, E', fz', c2', fz2, e2, e', hsz', hc', hz'⟩
    · exact .inr ⟨c1, E, fz, c1', fz1, rfl, e', hsz, fun j hj => hc j fun t => hj (h1 β j hlt t), fun hn => hz fun j t => hn j (h1 β j hlt t)⟩
    · injection e2 with e2 e3 e4
      subst e2 e3 e4
      exact .inr ⟨c1, E, fz, c2', fz2, rfl, e', hsz'.trans hsz, fun j hj => (hc' j fun t => hj (h2 β j hlt t)).trans (hc j fun t => hj (h1 β j hlt t)), fun hn => (hz' fun j t => hn j (h2 β j hlt t)).trans (hz fun j t => hn j (h1 β j hlt t))⟩
theorem Fr.mono {T T' : Nat → Nat → Prop} {a b : World} (h : Fr T a b) (h1 : ∀ β j, β < a.heap.size → T β j → T' β j) : Fr T' a b := h.trans (Fr.refl T b) h1 h1
theorem Fr.cell {T : Nat → Nat → Prop} {a b : World} (h : Fr T a b) {β j : Nat} (hlt : β < a.heap.size) (hT : ¬ T β j) : b.cell? ⟨β, j, none⟩ = a.cell? ⟨β, j, none⟩ := by
  obtain ⟨o, ho⟩ : ∃ o, a.heap[β]? = some o := ⟨a.heap[β], Array.getElem?_eq_getElem hlt⟩
  rcases h.blk β o ho with e | ⟨c1, E, fz, c1', fz1, rfl, e, hsz, hc, hz⟩
  · exact World.cell?_of_block (a := ⟨β, j, none⟩) (by rw [e, ho])
  · simp [World.cell?, ho, e, hc j hT]
/-- A block of which no cell is in T is as it was. -/
theorem Fr.same {T : Nat → Nat → Prop} {a b : World} (h : Fr T a b) {β : Nat} (hlt : β < a.heap.size) (hT : ∀ j, ¬ T β j) : b.heap[β]? = a.heap[β]? := by
  obtain ⟨o, ho⟩ : ∃ o, a.heap[β]? = some o := ⟨a.heap[β], Array.getElem?_eq_getElem hlt⟩
  rcases h.blk β o ho with e | ⟨c1, E, fz, c1', fz1, rfl, e, hsz, hc, hz⟩
  · rw [e, ho]
  · have : c1' = c1 := Array.ext_getElem? fun j => hc j (hT j)
    rw [e, ho, this, hz hT]
theorem Fr.below {w w' : World} (h : Fr (fun _ _ => False) w w') : Go.RowKit.Below w.heap.size w w' :=
  ⟨h.os, h.tape, h.output, h.size, fun k hk => h.same hk fun _ t => t⟩
theorem Fr.of_below {w w' : World} {B : Nat} (h : Go.RowKit.Below B w w') (hB : w.heap.size ≤ B) : Fr (fun _ _ => False) w w' :=
  ⟨h.os, h.tape, h.output, h.size, fun β o ho => .inl (by rw [h.block β (Nat.lt_of_lt_of_le (Array.getElem?_eq_some_iff.1 ho).1 hB)]; exact ho)⟩
theorem Fr.alloc (w : World) (o : Obj) : Fr (fun _ _ => False) w (w.alloc o) := Fr.of_below ((Go.RowKit.Below.refl _ _).alloc (Nat.le_refl _) _) (Nat.le_refl _)
theorem Fr.drew (w : World) : Fr (fun _ _ => False) w w.drew := Fr.of_below (Go.RowKit.Below.refl w.heap.size w).drew (Nat.le_refl _)

/-- What a function's run is measured against: the world it began in, the cells that stay, the blocks that it may append to, its boxes' blocks. -/
structure Fx where
  w0 : World
  G : Nat → Nat → Prop
  TB : Nat → Prop
  BB : Nat → Prop
  bx : Nat → Option Nat
  np : Nat
  ds : List Deferred
  lg : ∀ β, β < LGn → (∀ j, G β j) ∧ ¬ BB β
  lp : GW w0
def Fx.T (F : Fx) (β j : Nat) : Prop := F.BB β ∨ (F.TB β ∧ ¬ F.G β j)
structure Inv (P : Program) (F : Fx) (g : Gh) (s : St) (a : Act) (w : World) : Prop where
  mem : Mem P g w s.b
  blen : s.b.length = s.t.length
  len : a.tmps.size = s.t.length
  tm : ∀ (i : Nat) x, s.t[i]? = some x → ∃ v, a.tmps[i]? = some v ∧ RepS P g w x v
  dfr : a.defers = F.ds
  fr : Fr F.T F.w0 w
  g0 : ∀ β j, F.G β j → g.G β j
  gfr : ∀ β j, g.G β j → β < F.w0.heap.size → F.G β j ∨ F.TB β
  tb : ∀ n v E β, g.tk n = some (v, E) → v.ownBlock = some β → F.w0.heap.size ≤ β ∨ F.TB β
  bb : ∀ d cs β, s.b[d]? = some (some cs) → g.bx d = some β → F.w0.heap.size ≤ β ∨ F.BB β
  pbx : ∀ i, i < F.np → F.bx i ≠ none → g.bx i = F.bx i

/-- The program's variables that are known stay as they are. -/
structure Laid (g : Gh) (w : World) : Prop where
  G : ∀ β, β < LGn → ∀ j, g.G β j
  P : GW w
theorem Inv.laid {P : Program} {F : Fx} {g : Gh} {s : St} {a : Act} {w : World} (h : Inv P F g s a w) : Laid g w :=
  ⟨fun β hβ j => h.g0 β j ((F.lg β hβ).1 j), F.lp.keep fun β hβ => h.fr.same (Nat.lt_of_lt_of_le hβ F.lp.size) fun j t => t.elim (F.lg β hβ).2 fun q => q.2 ((F.lg β hβ).1 j)⟩

/-! ### lasting -/
section
variable {P : Program} {g g' : Gh} {w w' : World}
structure Gh.Le (g g' : Gh) (w w' : World) : Prop where
  G : ∀ β j, g.G β j → g'.G β j ∧ w'.cell? ⟨β, j, none⟩ = w.cell? ⟨β, j, none⟩
  tk : ∀ n v, g.tk n = some v → g'.tk n = some v
  bx : ∀ d β, g.bx d = some β → g'.bx d = some β
theorem Rep0.mono (h : g.Le g' w w') {x : AV} {v : Value} (hx : Rep0 P g w x v) : Rep0 P g' w' x v := by
  cases x <;> simp only [Rep0] at hx ⊢ <;> first | exact hx | exact ⟨hx.1, hx.2.mono h.G⟩
theorem RepC.mono (h : g.Le g' w w') {x : AV} {v : Value} (hx : RepC P g w x v) : RepC P g' w' x v := by
  cases x <;> simp only [RepC] at hx ⊢
  case v => exact hx
  case row => exact ⟨hx.1.mono h.G, fun n hn => h.tk _ _ (hx.2 n hn)⟩
  case box => obtain ⟨β, hb, hv⟩ := hx; exact ⟨β, h.bx _ _ hb, hv⟩
  case ro =>
    obtain ⟨β, o, hv, hc⟩ := hx
    refine ⟨β, o, hv, fun j c hj => ?_⟩
    obtain ⟨u, h1, h2, h3⟩ := hc j c hj
    exact ⟨u, ((h.G _ _ h2).2).trans h1, (h.G _ _ h2).1, h3.mono h⟩
  case dead => exact hx
theorem RepB.eq {T : TypeId} {β j : Nat} {x : AV} {v : Value} (h : ∀ T', x ≠ .self T') : RepB P g w T β j x v = RepC P g w x v := by
  cases x <;> first | rfl | exact absurd rfl (h _)
theorem RepT.eq {x : AV} {v : Value} (h : ∀ cs, x ≠ .agg cs) (h2 : x ≠ .dead) : RepT P g w x v = RepC P g w x v := by
  cases x <;> first | rfl | exact absurd rfl (h _) | exact absurd rfl h2
theorem RepS.eq {x : AV} {v : Value} (h : ∀ cs, x ≠ .tup cs) : RepS P g w x v = RepT P g w x v := by
  cases x <;> first | rfl | exact absurd rfl (h _)
theorem RepB.mono (h : g.Le g' w w') {T : TypeId} {β j : Nat} {x : AV} {v : Value} (hx : RepB P g w T β j x v) : RepB P g' w' T β j x v := by
  by_cases hs : ∃ T', x = .self T'
  · obtain ⟨T', rfl⟩ := hs; exact hx
  · rw [RepB.eq (fun T' e => hs ⟨T', e⟩)] at hx ⊢; exact hx.mono h
theorem RepT.mono (h : g.Le g' w w') {x : AV} {v : Value} (hx : RepT P g w x v) : RepT P g' w' x v := by
  by_cases hd : x = .dead
  · subst hd; exact trivial
  by_cases ha : ∃ cs, x = .agg cs
  · obtain ⟨cs, rfl⟩ := ha
    obtain ⟨vs, h1, h2, h3⟩ := hx
    exact ⟨vs, h1, h2, fun j c hj => let ⟨u, a, b⟩ := h3 j c hj; ⟨u, a, b.mono h⟩⟩
  · rw [RepT.eq (fun cs e => ha ⟨cs, e⟩) hd] at hx ⊢; exact hx.mono h
theorem RepS.mono (h : g.Le g' w w') {x : AV} {v : Value} (hx : RepS P g w x v) : RepS P g' w' x v := by
  by_cases ha : ∃ cs, x = .tup cs
  · obtain ⟨cs, rfl⟩ := ha
    obtain ⟨vs, h1, h2, h3⟩ := hx
    exact ⟨vs, h1, h2, fun j c hj => let ⟨u, a, b⟩ := h3 j c hj; ⟨u, a, b.mono h⟩⟩
  · rw [RepS.eq (fun cs e => ha ⟨cs, e⟩)] at hx ⊢; exact hx.mono h
theorem RepC.one {x : AV} {v : Value} (hx : RepC P g w x v) : v.oneCell' = true := by
  cases x <;> simp only [RepC] at hx
  case v => rw [hx.1]; exact hx.2
  case row => exact hx.1.one
  case box => obtain ⟨β, _, rfl⟩ := hx; rfl
  case ro => obtain ⟨β, o, rfl, _⟩ := hx; rfl
  case dead => exact hx
theorem RepC.T {x : AV} {v : Value} (hx : RepC P g w x v) : RepT P g w x v := by
  cases x <;> first | exact trivial | exact hx.elim | skip
  all_goals (rw [RepT.eq (fun cs e => by cases e) (fun e => by cases e)]; exact hx)
theorem RepT.S {x : AV} {v : Value} (hx : RepT P g w x v) : RepS P g w x v := by
  by_cases ha : ∃ cs, x = .tup cs
  · obtain ⟨cs, rfl⟩ := ha
    exact False.elim (show RepC P g w (.tup cs) v from hx)
  · rw [RepS.eq (fun cs e => ha ⟨cs, e⟩)]; exact hx
theorem RepC.S {x : AV} {v : Value} (hx : RepC P g w x v) : RepS P g w x v := hx.T.S
theorem RepB.of {T : TypeId} {β j : Nat} {x : AV} {v : Value} (hx : RepC P g w x v) : RepB P g w T β j x v := by
  by_cases hs : ∃ T', x = .self T'
  · obtain ⟨T', rfl⟩ := hs; exact hx.elim
  · rw [RepB.eq (fun T' e => hs ⟨T', e⟩)]; exact hx
theorem RepS.one {x : AV} {v : Value} (hx : RepS P g w x v) (h : x.one = true) : RepC P g w x v := by
  rw [RepS.eq (fun cs e => by subst e; simp [AV.one] at h), RepT.eq (fun cs e => by subst e; simp [AV.one] at h) (fun e => by subst e; simp [AV.one] at h)] at hx
  exact hx
end
end Go.Proofs.YtckdgcpomkefpaaGreatDoor.En
