/- Functions of Go's library that this program calls, each as a plain Lean function, with the proof that its call comes to that. -/
import Derived.Test.YtekifiblehmafaaDoorX0
import Derived.Test.YtekifiblehmafaaDoorXG
namespace Go.Proofs.YtekifiblehmafaaDoor.X
open Go.RowKit Go.Proofs.YtekifiblehmafaaDoorW.PrintWords Go.Proofs.YtekifiblehmafaaDoorW.PrintLast Go.Proofs.YtekifiblehmafaaDoorW.PrintMore

theorem below_grow_ (w : World) (k : Nat) (os : Array Obj) : Below w.heap.size w (Sort.grow (w.drewN k) os) :=
  ⟨rfl, rfl, rfl, by simp [Sort.grow], fun i hi => by
    show (w.heap ++ os)[i]? = w.heap[i]?
    rw [Array.getElem?_append_left hi]⟩

def strconv_Itoa.f (a0 : Int) : Option ByteArray := if -9223372036854775808 ≤ a0 ∧ a0 ≤ 9223372036854775807 then some ⟨(Lib.itoa a0).toArray⟩ else none
theorem strconv_Itoa.calls (a0 : Int) (r : ByteArray) (w : World) (hG : Aside0 (GW w)) (h : strconv_Itoa.f a0 = some r) :
    Calls Tryd.prog 44 #[.int .i64 a0] w fun e w' => e = .returned (.string r) ∧ Below w.heap.size w w' := by
  unfold strconv_Itoa.f at h
  split at h
  · rename_i hb
    obtain rfl := Option.some.inj h
    refine (Tryd.strconv_Itoa a0 hb.1 hb.2 w hG.out.pow).mono fun e w' hw => ?_
    obtain ⟨he, k, os, hw⟩ := hw
    subst hw
    exact ⟨he, below_grow_ w k os⟩
  · cases h

def strings_TrimRight.f (s cs : ByteArray) : Option ByteArray :=
  match cs.data.toList with
  | [c] => if c.toNat < 128 ∧ s.size ≤ 9223372036854775807 then some ⟨(Lib.trimRightB s.data.toList c).toArray⟩ else none
  | _ => none
theorem one_byte {cs : ByteArray} {c : UInt8} (h : cs.data.toList = [c]) : cs = ⟨#[c]⟩ := by
  obtain ⟨⟨l⟩⟩ := cs
  simp only at h
  subst h; rfl
theorem strings_TrimRight.calls (a0 a1 r : ByteArray) (w : World) (h : strings_TrimRight.f a0 a1 = some r) :
    Calls Tryd.prog 45 #[.string a0, .string a1] w fun e w' => e = .returned (.string r) ∧ Drawn0 w w' := by
  unfold strings_TrimRight.f at h
  split at h
  · rename_i c hc
    split at h
    · rename_i hb
      obtain rfl := Option.some.inj h
      rw [one_byte hc]
      refine (Tryd.strings_TrimRight_one a0 c hb.1 w hb.2).mono fun e w' hw => ?_
      obtain ⟨he, rfl⟩ := hw
      exact ⟨he, Drawn0.refl _⟩
    · cases h
  · cases h

def strings_TrimLeft.f (s cs : ByteArray) : Option ByteArray :=
  match cs.data.toList with
  | [c] => if c.toNat < 128 then some ⟨(Lib.trimLeftB s.data.toList c).toArray⟩ else none
  | _ => none
theorem strings_TrimLeft.calls (a0 a1 r : ByteArray) (w : World) (h : strings_TrimLeft.f a0 a1 = some r) :
    Calls Tryd.prog 51 #[.string a0, .string a1] w fun e w' => e = .returned (.string r) ∧ Drawn0 w w' := by
  unfold strings_TrimLeft.f at h
  split at h
  · rename_i c hc
    split at h
    · rename_i hb
      obtain rfl := Option.some.inj h
      rw [one_byte hc]
      refine (Tryd.strings_TrimLeft_one a0 c hb w).mono fun e w' hw => ?_
      obtain ⟨he, rfl⟩ := hw
      exact ⟨he, Drawn0.refl _⟩
    · cases h
  · cases h

def strings_Repeat.f (s : ByteArray) (n : Int) : Option ByteArray :=
  if 0 ≤ n ∧ n ≤ 9223372036854775807 ∧ s.size * n.toNat ≤ 140737488355328 then some ⟨(Lib.repeatL s.data.toList n.toNat).toArray⟩ else none
theorem strings_Repeat.calls (a0 : ByteArray) (a1 : Int) (r : ByteArray) (w : World) (h : strings_Repeat.f a0 a1 = some r) :
    Calls Tryd.prog 46 #[.string a0, .int .i64 a1] w fun e w' => e = .returned (.string r) ∧ Below w.heap.size w w' := by
  unfold strings_Repeat.f at h
  split at h
  · rename_i hb
    obtain rfl := Option.some.inj h
    have e1 : a1 = ((a1.toNat : Nat) : Int) := by omega
    have hc := Tryd.strings_Repeat a0 a1.toNat w (by omega) hb.2.2
    rw [← e1] at hc
    exact hc
  · cases h

end Go.Proofs.YtekifiblehmafaaDoor.X
