/- A law's call: from what the evaluator tells to what the row asks. -/
import Derived.Test.YtckdgcpomkefpaaGreatDoorEn24
set_option linter.unusedVariables false
set_option linter.unusedSimpArgs false
namespace Go.Proofs.YtckdgcpomkefpaaGreatDoor.En
open Go
/-- Whatever is there stays as it is; nothing may be appended to; no variables. -/
def g0 (w : World) : Gh := ⟨fun β _ => β < w.heap.size, fun _ => none, fun _ => none⟩
theorem Mem.of_none {P : Program} {w : World} {b : Bx} (hb : ∀ x ∈ b, x = none) : Mem P (g0 w) w b := by
  have hn : ∀ d cs, b[d]? = some (some cs) → False := fun d cs h => by have := hb _ (List.mem_of_getElem? h); cases this
  exact ⟨fun β j h => h, fun d cs h => (hn d cs h).elim, fun d d' β cs cs' h => (hn d cs h).elim, fun n v E h => (by cases h), fun n m v v' E E' β h => (by cases h), fun n v E β d cs h => (by cases h)⟩
theorem TT_none {w : World} {b : Bx} (hb : ∀ x ∈ b, x = none) {β j : Nat} (h : TTof (g0 w) b β j) : False := by
  rcases h with ⟨i, cs, h, _⟩ | ⟨⟨n, y, E, h, _⟩, _⟩
  · have := hb _ (List.mem_of_getElem? h); cases this
  · cases h
theorem calls_v {P : Program} {call : CallF} (h : SoundCall P call) {f : FuncId} {xs : List AV} {bs bs' : Bx} {x : Value} (hc : call f xs bs = some (true, .ret (.v x) bs')) (hb : ∀ x ∈ bs, x = none) (hl : bs.length = xs.length) {W : World} (hW : GW W) {vs : Array Value} (hv : vs.size = xs.length)
    (hr : ∀ (i : Nat) x, xs[i]? = some x → ∃ v, vs[i]? = some v ∧ RepS P (g0 W) W x v) : Calls P f vs W fun e w' => e = .returned x ∧ Go.RowKit.Below W.heap.size W w' := by
  obtain ⟨_, h2⟩ := h f xs bs _ hc
  refine (h2 (g0 W) W vs (Mem.of_none hb) ⟨fun β hβ _ => Nat.lt_of_lt_of_le hβ hW.size, hW⟩ hl hv hr).mono fun e w' he => ?_
  obtain ⟨y, g', rfl, post⟩ := he
  obtain ⟨rfl, _⟩ := (show y = x ∧ _ from post.rep)
  exact ⟨rfl, (post.fr.mono fun β j _ t => TT_none hb t).below⟩
/-- A row of the law's data. -/
theorem RepRow.of_cells {P : Program} {w : World} {E : TypeId} {ks : List CK} {l : List Dat} {β off cap : Nat} {vals : Nat → Nat → Value} (hk : kinds P E = some ks) (hlen : l.length ≤ cap)
    (hc : ∀ i j, i < l.length → j < ks.length → w.cell? ⟨β, off + i * ks.length + j, none⟩ = some (vals i j) ∧ (vals i j).oneCell' = true)
    (hs : ∀ i j d k, l[i]? = some d → ks[j]? = some k → scal k (d.at j) (vals i j))
    (hr : ∀ i j d E', l[i]? = some d → ks[j]? = some (.row E') → RepRow P (g0 w).G w E' (d.at j).toL (vals i j)) : RepRow P (g0 w).G w E l (.slice (some ⟨β, off, none⟩) l.length cap) :=
  .mk E l β off cap ks vals hk hlen (fun i j hi hj => ⟨World.block_lt_of_cell? w ⟨β, off + i * ks.length + j, none⟩ (hc i j hi hj).1, (hc i j hi hj).1, (hc i j hi hj).2⟩) hs hr
end Go.Proofs.YtckdgcpomkefpaaGreatDoor.En
