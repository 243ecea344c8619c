/- colophonlaw05.wakes: it is true. -/
import Derived.Test.YtckdgcpomkefpaaGreatDoorC1
set_option linter.unusedVariables false
set_option maxRecDepth 100000
namespace Go.Proofs.YtckdgcpomkefpaaGreatDoor.En
open Go
noncomputable def libX (ext : CallF) : CallF := addF 95 ixE (addF 58 itoaE (addF 96 ccE (addF 47 strE ext)))
theorem lib_sound {ext : CallF} (h : SoundCall PR ext) : SoundCall PR (libX ext) := ix_sound (itoa_sound (cc_sound (str_sound h)))
def fsW : List Nat := (List.range 130).filter fun f => !([0, 1, 2, 19, 31, 47, 96, 119, 95, 58, 125] : List Nat).contains f
theorem hmixP : PR.follows .mixedOrders = true := by kernel_rfl
theorem okW : okFs PR fsW = true := by kernel_rfl
noncomputable def callW : CallF := evF PR TK (libX fun _ _ _ => none) fsW 60
theorem callW_sound : SoundCall PR callW := sound_fs hmixP (lib_sound sound_none) okW 60
noncomputable def pE : List AV → Bx → Option (Bool × Out) := fun xs bs => (evFnD PR TK callW 60 31 xs bs).map fun o => (true, o)
theorem pE_sound : SoundCall PR (addF 31 pE callW) :=
  sound_addD hmixP callW_sound _ (fn := (PR.funcs[31]?).getD default) (by kernel_rfl) (by kernel_rfl) pE fun xs bs out h => by
    unfold pE at h
    obtain ⟨o, h1, h2⟩ := Option.map_eq_some_iff.1 h
    cases h2
    exact ⟨60, h1⟩
def wakesE : List AV → Bx → Option (Bool × Out)
  | [], [] => some (true, .ret (B true) [])
  | _, _ => none
theorem wakes_run : evFn PR TK (addF 31 pE callW) 60 23 [] [] = some (.ret (B true) []) := by kernel_rfl
theorem wakes_sound : SoundCall PR (addF 23 wakesE fun _ _ _ => none) := by
  have h := sound_add (takes := TK) hmixP pE_sound 23 (fn := (PR.funcs[23]?).getD default) (by kernel_rfl) (by kernel_rfl) wakesE fun xs bs out h => by
    unfold wakesE at h
    split at h
    · cases h; exact ⟨60, wakes_run⟩
    · cases h
  refine h.le fun f xs bs out ho => ?_
  unfold addF at ho ⊢
  cases hf : Nat.beq f 23 <;> rw [hf] at ho <;> simp only [cond_true, cond_false] at ho ⊢
  · cases ho
  · exact ho
end Go.Proofs.YtckdgcpomkefpaaGreatDoor.En
