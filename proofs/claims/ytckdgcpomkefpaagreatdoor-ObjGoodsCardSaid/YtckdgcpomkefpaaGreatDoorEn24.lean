/- Contracts out of equations. -/
import Derived.Test.YtckdgcpomkefpaaGreatDoorEn23
set_option linter.unusedVariables false
set_option linter.unusedSimpArgs false
namespace Go.Proofs.YtckdgcpomkefpaaGreatDoor.En
open Go
/-- What is told of one function, beside what is told of the others. -/
def addF (f : FuncId) (ent : List AV → Bx → Option (Bool × Out)) (ext : CallF) : CallF := fun g xs bs => bif Nat.beq g f then ent xs bs else ext g xs bs
section
variable {P : Program} {takes : FuncId → Option Nat} {ext call : CallF}
theorem SoundCall.le (h : SoundCall P call) (hle : ∀ f xs bs out, ext f xs bs = some (true, out) → call f xs bs = some (true, out)) : SoundCall P ext := fun f xs bs out ho => h f xs bs out (hle f xs bs out ho)
theorem sound_fn (hmix : P.follows .mixedOrders = true) (hext : SoundCall P ext) {f : FuncId} {fn : Func} (hf : P.funcs[f]? = some fn) (hok : okFn P fn = true) {n : Nat} {xs : List AV} {bs : Bx} {out : Out} (h : evFn P takes ext n f xs bs = some out) :
    (∃ fn, P.funcs[f]? = some fn ∧ fn.body.isSome = true ∧ (fn.name == "runtime.NumGoroutine") = false) ∧ ∀ (g : Gh) (w : World) (vs : Array Value), Mem P g w bs → Laid g w → bs.length = xs.length → vs.size = xs.length →
  (∀ (i : Nat) x, xs[i]? = some x → ∃ v, vs[i]? = some v ∧ RepS P g w x v) → Calls P f vs w (PostOf P g w bs out) := by
  unfold evFn at h
  rw [hf] at h
  refine ⟨⟨fn, hf, ?_, ?_⟩, fun g w vs hm hL hl hv hr => evBody_sound hmix hext hf hok h hm hL hl hv hr⟩
  · unfold okFn at hok
    cases hb : fn.body with
    | none => rw [hb] at hok; simp at hok
    | some c => rfl
  · unfold okFn at hok
    simp only [Bool.and_eq_true, Bool.not_eq_true'] at hok
    exact hok.1
theorem sound_add (hmix : P.follows .mixedOrders = true) (hext : SoundCall P ext) (f : FuncId) {fn : Func} (hf : P.funcs[f]? = some fn) (hok : okFn P fn = true) (ent : List AV → Bx → Option (Bool × Out))
    (h : ∀ xs bs out, ent xs bs = some (true, out) → ∃ n, evFn P takes ext n f xs bs = some out) : SoundCall P (addF f ent ext) := fun g xs bs out ho => by
  unfold addF at ho
  cases hg : Nat.beq g f <;> rw [hg] at ho <;> simp only [cond_true, cond_false] at ho
  · exact hext g xs bs out ho
  · have e : g = f := Nat.eq_of_beq_eq_true hg
    subst e
    obtain ⟨n, hn⟩ := h xs bs out ho
    obtain ⟨h1, h2⟩ := sound_fn hmix hext hf hok hn
    refine ⟨h1, fun gh w vs a1 aL a2 a3 a4 => ?_⟩
    have := h2 gh w vs a1 aL a2 a3 a4
    cases out <;> exact this
/-- A function that calls itself: ent k tells of what is at most k deep. -/
theorem sound_rec (hmix : P.follows .mixedOrders = true) (hext : SoundCall P ext) (f : FuncId) {fn : Func} (hf : P.funcs[f]? = some fn) (hok : okFn P fn = true) (ent : Nat → List AV → Bx → Option (Bool × Out)) (h0 : ∀ xs bs out, ent 0 xs bs ≠ some (true, out))
    (h : ∀ k xs bs out, ent (k + 1) xs bs = some (true, out) → ∃ n, evFn P takes (addF f (ent k) ext) n f xs bs = some out) : ∀ k, SoundCall P (addF f (ent k) ext)
  | 0 => fun g xs bs out ho => by
    unfold addF at ho
    cases hg : Nat.beq g f <;> rw [hg] at ho <;> simp only [cond_true, cond_false] at ho
    · exact hext g xs bs out ho
    · exact absurd ho (h0 _ _ _)
  | k + 1 => fun g xs bs out ho => by
    unfold addF at ho
    cases hg : Nat.beq g f <;> rw [hg] at ho <;> simp only [cond_true, cond_false] at ho
    · exact hext g xs bs out ho
    · have e : g = f := Nat.eq_of_beq_eq_true hg
      subst e
      obtain ⟨n, hn⟩ := h k xs bs out ho
      obtain ⟨h1, h2⟩ := sound_fn hmix (sound_rec hmix hext g hf hok ent h0 h k) hf hok hn
      refine ⟨h1, fun gh w vs a1 aL a2 a3 a4 => ?_⟩
      have := h2 gh w vs a1 aL a2 a3 a4
      cases out <;> exact this
theorem sound_any {ent : Nat → List AV → Bx → Option (Bool × Out)} {f : FuncId} (h : ∀ k, SoundCall P (addF f (ent k) ext)) (k : List AV → Bx → Nat) : SoundCall P (addF f (fun xs bs => ent (k xs bs) xs bs) ext) := fun g xs bs out ho => h (k xs bs) g xs bs out ho
theorem sound_none : SoundCall P (fun _ _ _ => none) := fun f xs bs out h => by cases h
/-- Functions that are evaluated as they stand. -/
def okFs (P : Program) (fs : List FuncId) : Bool := fs.all fun f => match P.funcs[f]? with | some fn => okFn P fn | none => true
theorem sound_fs (hmix : P.follows .mixedOrders = true) (hext : SoundCall P ext) {fs : List FuncId} (h : okFs P fs = true) (n : Nat) : SoundCall P (evF P takes ext fs n) :=
  evF_sound hmix hext (fun f hf fn hfn => by
    have := List.all_eq_true.1 h f hf
    rw [hfn] at this
    exact this) n
end
end Go.Proofs.YtckdgcpomkefpaaGreatDoor.En
