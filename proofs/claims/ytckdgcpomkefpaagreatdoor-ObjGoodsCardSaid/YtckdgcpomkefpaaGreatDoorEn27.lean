/- An argument, as a plain value. -/
import Derived.Test.YtckdgcpomkefpaaGreatDoorEn26
set_option linter.unusedVariables false
set_option linter.unusedSimpArgs false
namespace Go.Proofs.YtckdgcpomkefpaaGreatDoor.En
open Go Go.RowKit Go.ChangeShapes Go.WideShapes
def avOf (k : CK) (d : Dat) : AV := match k with
  | .int k => .v (.int k d.toI)
  | .bool => .v (.bool d.toB)
  | .str => .v (.string d.toS)
  | .row E => .row none E d.toL
  | _ => .dead
theorem avOf_rep {P : Program} {w : World} {k : CK} {d : Dat} {u : Value} (h : Opn1 P w k d u) : RepC P (g0 w) w (avOf k d) u := by
  cases k with
  | int k => exact ⟨h.sc, rfl⟩
  | bool => exact ⟨h.sc, rfl⟩
  | str => exact ⟨h.sc, rfl⟩
  | row E => exact ⟨h.row E rfl, fun n hn => by cases hn⟩
  | self => exact h.one
  | other => exact h.one
def avsOf : List CK → List Dat → List AV
  | k :: ks, d :: ds => avOf k d :: avsOf ks ds
  | _, _ => []
theorem avsOf_get : ∀ (ks : List CK) (ds : List Dat) (j : Nat) x, (avsOf ks ds)[j]? = some x → ∃ k d, ks[j]? = some k ∧ ds[j]? = some d ∧ x = avOf k d
  | [], ds, j, x, h => by simp [avsOf] at h
  | k :: ks, [], j, x, h => by simp [avsOf] at h
  | k :: ks, d :: ds, 0, x, h => by simp [avsOf] at h; exact ⟨k, d, rfl, rfl, h.symm⟩
  | k :: ks, d :: ds, j + 1, x, h => avsOf_get ks ds j x (by simpa [avsOf] using h)
theorem avsOf_len : ∀ (ks : List CK) (ds : List Dat), ds.length = ks.length → (avsOf ks ds).length = ks.length
  | [], [], _ => rfl
  | [], _ :: _, h => by simp at h
  | _ :: _, [], h => by simp at h
  | k :: ks, d :: ds, h => by simp [avsOf, avsOf_len ks ds (by simpa using h)]
/-- A struct. -/
theorem agg_rep {P : Program} {w : World} {ks : List CK} {ds : List Dat} {cs : Array Value} (h : Opn P w ks ds cs.toList) : RepS P (g0 w) w (.agg (avsOf ks ds)) (.agg cs) := by
  refine ⟨cs, rfl, ?_, fun j c hj => ?_⟩
  · rw [avsOf_len ks ds h.ld, ← h.lc]; simp
  · obtain ⟨k, d, h1, h2, rfl⟩ := avsOf_get ks ds j c hj
    have hjl := (List.getElem?_eq_some_iff.1 h1).1
    have hu := List.getElem?_eq_getElem (l := cs.toList) (i := j) (by rw [h.lc]; exact hjl)
    refine ⟨_, ?_, avOf_rep (h.each j k d _ h1 h2 hu)⟩
    rw [← Array.getElem?_toList]; exact hu
/-- A list. -/
theorem list_rep {P : Program} {w : World} {E : TypeId} {ds : List Dat} {v : Value} (h : Opn P w [.row E] ds [v]) : ∃ l, ds = [l] ∧ RepS P (g0 w) w (.row none E l.toL) v ∧ Sz P (.row E) l := by
  obtain ⟨d, rfl⟩ : ∃ d, ds = [d] := by
    have := h.ld
    match ds, this with
    | [d], _ => exact ⟨d, rfl⟩
  have h1 := h.each 0 _ d v rfl rfl rfl
  exact ⟨d, rfl, (avOf_rep h1).S, h1.sz⟩
end Go.Proofs.YtckdgcpomkefpaaGreatDoor.En
