/- A worked contract: colophonkeep.Same, of two lists of numbers. (How equations, loops and entries are typed.) -/
import Derived.Test.YtckdgcpomkefpaaGreatDoorEn24
import Derived.KernelRfl
import Derived.IntWalk
set_option linter.unusedVariables false
set_option linter.unusedSimpArgs false
set_option maxRecDepth 100000
namespace Go.Proofs.YtckdgcpomkefpaaGreatDoor.En
open Go
noncomputable abbrev PR := Tryz.prog
def TK : FuncId → Option Nat := fun _ => none
theorem idx_at {l : List Dat} {i : Nat} (h : i < l.length) : idx l (i : Int) = some l[i] := by
  unfold idx
  have e : decide ((0 : Int) ≤ i) = true := decide_eq_true (by omega)
  rw [e]
  simp [h]
/-- the loop, from number i on -/
noncomputable def keepL (call : CallF) (n m : Nat) (l1 l2 : List Dat) (i : Int) : Option Out := loopF PR TK call n 21 [none, none] [true, true, false, true] m (sp 26 [(0, .row none 3 l1), (1, .row none 3 l2), (5, I i)] [])
theorem keep_0 (call : CallF) (n : Nat) (l1 l2 : List Dat) : evFn PR TK call n 21 [.row none 3 l1, .row none 3 l2] [none, none] =
  bif ((l1.length : Int) != (l2.length : Int)) then some (Out.ret (B false) [none, none]) else keepL call n n l1 l2 0 := by kernel_rfl
theorem keep_S (call : CallF) (n m : Nat) (l1 l2 : List Dat) (i : Int) : keepL call n (m + 1) l1 l2 i =
  bif decide (i < l1.length) then (idx l1 i).bind fun d => (idx l2 i).bind fun e => bif ((d.at 0).toI != (e.at 0).toI) then some (Out.ret (B false) [none, none]) else keepL call n m l1 l2 (IntKind.i64.wrap (i + 1))
  else some (Out.ret (B true) [none, none]) := by kernel_rfl
def keepB : List Dat → List Dat → Bool
  | [], [] => true
  | d :: l, e :: m => ((d.at 0).toI == (e.at 0).toI) && keepB l m
  | _, _ => false
theorem keep_loop (call : CallF) (n : Nat) (l1 l2 : List Dat) (hl : l1.length = l2.length) (hf : l1.length < 4611686018427387904) : ∀ (k i m : Nat), i + k = l1.length → k < m → keepL call n m l1 l2 (i : Int) = some (.ret (B (keepB (l1.drop i) (l2.drop i))) [none, none])
  | k, i, 0, _, h => by omega
  | 0, i, m + 1, hi, _ => by
    rw [keep_S, show decide ((i : Int) < l1.length) = false from decide_eq_false (by omega)]
    rw [List.drop_eq_nil_of_le (by omega), List.drop_eq_nil_of_le (by omega)]
    rfl
  | k + 1, i, m + 1, hi, hm => by
    have h1 : i < l1.length := by omega
    have h2 : i < l2.length := by omega
    rw [keep_S, show decide ((i : Int) < l1.length) = true from decide_eq_true (by omega), idx_at h1, idx_at h2, IntWalk.i64_in _ (by omega)]
    simp only [cond_true, Option.bind_some]
    rw [List.drop_eq_getElem_cons h1, List.drop_eq_getElem_cons h2]
    have ih := keep_loop call n l1 l2 hl hf k (i + 1) m (by omega) (by omega)
    rw [show ((i + 1 : Nat) : Int) = (i : Int) + 1 by omega] at ih
    rw [ih]
    show _ = some (Out.ret (B (((l1[i].at 0).toI == (l2[i].at 0).toI) && keepB (l1.drop (i + 1)) (l2.drop (i + 1)))) [none, none])
    unfold bne
    cases ((l1[i].at 0).toI == (l2[i].at 0).toI) <;> rfl
/-- what is told of it -/
def keepE : List AV → Bx → Option (Bool × Out)
  | [.row none 3 l1, .row none 3 l2], [none, none] => some (Nat.blt l1.length 4611686018427387904, .ret (B (Nat.beq l1.length l2.length && keepB l1 l2)) [none, none])
  | _, _ => none
theorem keep_sound {ext : CallF} (hmix : PR.follows .mixedOrders = true) (hext : SoundCall PR ext) : SoundCall PR (addF 21 keepE ext) := by
  refine sound_add (takes := TK) hmix hext _ (fn := (PR.funcs[21]?).getD default) (by kernel_rfl) (by kernel_rfl) keepE fun xs bs out h => ?_
  unfold keepE at h
  split at h
  · rename_i l1 l2
    injection h with h
    injection h with hf h
    subst h
    have hf' : l1.length < 4611686018427387904 := Nat.le_of_ble_eq_true hf
    refine ⟨l1.length + 1, ?_⟩
    rw [keep_0]
    cases hb : Nat.beq l1.length l2.length
    · have : ¬ l1.length = l2.length := fun e => by rw [e, Nat.beq_refl] at hb; cases hb
      have e : ((l1.length : Int) != (l2.length : Int)) = true := by simp; omega
      rw [e]; rfl
    · have hl : l1.length = l2.length := Nat.eq_of_beq_eq_true hb
      have e : ((l1.length : Int) != (l2.length : Int)) = false := by simp; omega
      rw [e]
      exact keep_loop ext (l1.length + 1) l1 l2 hl hf' l1.length 0 (l1.length + 1) (by omega) (by omega)
  · cases h
end Go.Proofs.YtckdgcpomkefpaaGreatDoor.En
