/- The law ObjGets: its call. -/
import Derived.Test.YtckdgcpomkefpaaGreatDoorO4
set_option linter.unusedVariables false
set_option linter.unusedSimpArgs false
set_option maxRecDepth 100000
namespace Go.Proofs.YtckdgcpomkefpaaGreatDoor.En
open Go Go.RowKit
def ksO : List CK := [.int .i64, .bool, .int .i64, .str, .row 9, .row 43]
theorem kinds_O : kinds PR 43 = some ksO := by kernel_rfl
theorem kinds_S : kinds PR 9 = some [.str] := by kernel_rfl
theorem bytes_O : PR.bytesOf 43 = 88 := by kernel_rfl
theorem bytes_S : PR.bytesOf 9 = 16 := by kernel_rfl
theorem reach_le : reachBytes ≤ 140737488355328 := of_decide_eq_true (by kernel_rfl)
theorem sz_str {d : Dat} (h : Sz PR .str d) : d.toS.size ≤ 140737488355328 := by
  cases h with
  | str d h => exact Nat.le_trans h reach_le
theorem sz_keys {d : Dat} (h : Sz PR (.row 9) d) : d.toL.length ≤ 140737488355328 ∧ ∀ e ∈ d.toL, (e.at 0).toS.size ≤ 140737488355328 := by
  cases h with
  | row E ks d hk hl hc =>
    rw [bytes_S] at hl
    rw [kinds_S] at hk
    cases hk
    refine ⟨?_, fun e he => sz_str (hc e he 0 .str rfl)⟩
    have := reach_le
    omega
theorem fitZ_of {s : ByteArray} {ks l : List Dat} (hs : s.size ≤ 140737488355328) (hk : ks.length ≤ 140737488355328 ∧ ∀ e ∈ ks, (e.at 0).toS.size ≤ 140737488355328) : ∀ (n : Nat) (d : Dat), l = d.toL → Sz PR (.row 43) d → fitZ n s ks l := by
  intro n
  induction n generalizing s ks l with
  | zero => intro d _ _; trivial
  | succ n ih =>
    intro d e h
    subst e
    cases h with
    | row E ks' d hk' hl hc =>
      rw [bytes_O] at hl
      rw [kinds_O] at hk'
      cases hk'
      have := reach_le
      refine ⟨hs, hk.1, by omega, hk.2, fun e he => ?_⟩
      exact ih (sz_str (hc e he 3 .str rfl)) (sz_keys (hc e he 4 _ rfl)) (e.at 5) rfl (hc e he 5 _ rfl)
/-- An object, opened. -/
theorem obj_opn {W : World} {ds : List Dat} {cs : Array Value} (h : Opn PR W ksO ds cs.toList) : ∃ (k n : Int) (b : Bool) (s : ByteArray) (ks l : List Dat), RepS PR (g0 W) W (.agg (obA k n b s ks l)) (.agg cs) ∧ ∀ j, fitZ j s ks l := by
  obtain ⟨e0, e1, e2, e3, e4, e5, rfl⟩ : ∃ e0 e1 e2 e3 e4 e5, ds = [e0, e1, e2, e3, e4, e5] := by
    have := h.ld
    match ds, this with
    | [e0, e1, e2, e3, e4, e5], _ => exact ⟨_, _, _, _, _, _, rfl⟩
  refine ⟨e0.toI, e2.toI, e1.toB, e3.toS, e4.toL, e5.toL, agg_rep h, fun j => ?_⟩
  have sz : ∀ (j : Nat) k d, ksO[j]? = some k → [e0, e1, e2, e3, e4, e5][j]? = some d → Sz PR k d := fun j k d h1 h2 => by
    have hj := (List.getElem?_eq_some_iff.1 h1).1
    exact (h.each j k d _ h1 h2 (List.getElem?_eq_getElem (l := cs.toList) (i := j) (by rw [h.lc]; exact hj))).sz
  exact fitZ_of (sz_str (sz 3 _ _ rfl rfl)) (sz_keys (sz 4 _ _ rfl rfl)) j e5 rfl (sz 5 _ _ rfl rfl)
noncomputable def getsE : List AV → Bx → Option (Bool × Out)
  | [.agg [.v (.int .i64 k1), .v (.bool b1), .v (.int .i64 n1), .v (.string s1), .row none 9 ks1, .row none 43 l1], .v (.string key)], [none, none] =>
    some (decP (∀ k, fitZ k s1 ks1 l1), .ret (B true) [none, none])
  | _, _ => none
theorem gets_sound : SoundCall PR (addF 11 getsE callG) := by
  refine sound_add (takes := TK) hmixP callG_sound _ (fn := (PR.funcs[11]?).getD default) (by kernel_rfl) (by kernel_rfl) getsE fun xs bs out h => ?_
  unfold getsE at h
  split at h
  · injection h with h
    injection h with h1 h2
    subst h2
    exact ⟨1, gets_run (decP_of h1)⟩
  · cases h
theorem gets_ent (k n : Int) (b : Bool) (s key : ByteArray) (ks l : List Dat) : addF 11 getsE callG 11 [.agg (obA k n b s ks l), S key] [none, none] = some (decP (∀ k, fitZ k s ks l), .ret (B true) [none, none]) := by kernel_rfl
theorem gets_calls {W : World} (hW : GW W) {ds : List Dat} {cs : Array Value} (h : Opn PR W ksO ds cs.toList) (key : ByteArray) :
    Calls PR 11 #[.agg cs, .string key] W fun e w' => e = .returned (.bool true) ∧ Below W.heap.size W w' := by
  obtain ⟨k, n, b, s, ks, l, hr, hz⟩ := obj_opn h
  refine calls_v gets_sound (f := 11) (xs := [.agg (obA k n b s ks l), S key]) (bs := [none, none]) (bs' := [none, none]) ?_ (by simp) rfl hW rfl (fun i x hi => ?_)
  · rw [gets_ent, decP_eq hz]; rfl
  · match i, hi with
    | 0, hi => cases hi; exact ⟨_, rfl, hr⟩
    | 1, hi => cases hi; exact ⟨_, rfl, rfl, rfl⟩
end Go.Proofs.YtckdgcpomkefpaaGreatDoor.En
