/- Names for the evaluator's resting points: loops, by their paths. -/
import Derived.Test.YtckdgcpomkefpaaGreatDoorEn22
set_option linter.unusedVariables false
set_option linter.unusedSimpArgs false
namespace Go.Proofs.YtckdgcpomkefpaaGreatDoor.En
open Go
/-- A state: its known temporaries, its variables in memory. -/
def lkD {α : Type} (d : α) : List (Nat × α) → Nat → α
  | [], _ => d
  | (j, x) :: r, i => bif Nat.beq i j then x else lkD d r i
def upto : Nat → List Nat → List Nat
  | 0, l => l
  | n + 1, l => upto n (n :: l)
def sp (n : Nat) (t : List (Nat × AV)) (b : List (Nat × List AV)) : St := ⟨(upto n []).map (lkD .dead t), (upto n []).map (lkD none (b.map fun p => (p.1, some p.2)))⟩
section
variable (P : Program) (np : Nat) (takes : FuncId → Option Nat) (call : CallF) (ret n : Nat)
/-- The loop at a path, its surroundings, and what comes behind it. -/
def atL {β : Type} (thr : Value → Option β) : List Bool → Code → Nat → List (Nat × Nat) → KC β → (Code × Nat × List (Nat × Nat) × KC β)
  | p, .seq a b, out, ex, k => (match p with
    | false :: p => atL thr p a (liveC ret b out ex) ex (fun x s => match x with
      | .normal => evC P np takes call ret n thr b out ex (bif joins a then s.prune np (liveC ret b out ex) else s) k
      | .exit id => k (.exit id) s
      | .ret => k .ret s)
    | _ :: p => atL thr p b out ex k
    | [] => (.skip, out, ex, k))
  | p, .cond c a b, out, ex, k => (match p with
    | false :: p => atL thr p a out ex k
    | _ :: p => atL thr p b out ex k
    | [] => (.skip, out, ex, k))
  | p, .block id c, out, ex, k => atL thr p c out ((id, out) :: ex) (fun x s => match x with
    | .exit j => k (bif j == id then .normal else .exit j) s
    | .normal => k .normal s
    | .ret => k .ret s)
  | p, .loop c, out, ex, k => (match p with
    | [] => (c, out, ex, k)
    | _ :: p => (c, out, ex, k))
  | _, c, out, ex, k => (.skip, out, ex, k)
/-- From the loop at a path on, m rounds at most. -/
def loopGo {β : Type} (thr : Value → Option β) (q : Code × Nat × List (Nat × Nat) × KC β) (m : Nat) (s : St) : Option β :=
  iter (fun s k => evC P np takes call ret n thr q.1 (liveC ret (.loop q.1) q.2.1 q.2.2.1) q.2.2.1 s (fun x s => match x with
    | .normal => k .normal (s.prune np (liveC ret (.loop q.1) q.2.1 q.2.2.1))
    | .exit id => k (.exit id) s
    | .ret => k .ret s)) m s q.2.2.2
end
/-- A function's loop at a path. -/
def loopF (P : Program) (takes : FuncId → Option Nat) (call : CallF) (n : Nat) (f : FuncId) (bx : Bx) (p : List Bool) (m : Nat) (s : St) : Option Out := match P.funcs[f]? with
  | some fn => (match fn.body with
    | some c => loopGo P fn.params.size takes call (retMask fn.results.toList) n (fun v => some (.thr v)) (atL P fn.params.size takes call (retMask fn.results.toList) n (fun v => some (.thr v)) p c (retMask fn.results.toList) [] (fun x s => match x with
        | .normal => outOf P fn bx s
        | .ret => outOf P fn bx s
        | .exit _ => none)) m s
    | none => none)
  | none => none
/-- A loop inside a loop: the outer one at a path, with the rounds that are left to it; the inner one, inside its body. -/
def loopF2 (P : Program) (takes : FuncId → Option Nat) (call : CallF) (n : Nat) (f : FuncId) (bx : Bx) (p1 : List Bool) (m1 : Nat) (p2 : List Bool) (m : Nat) (s : St) : Option Out := match P.funcs[f]? with
  | some fn => (match fn.body with
    | some c =>
      let thr : Value → Option Out := fun v => some (.thr v)
      let q1 := atL P fn.params.size takes call (retMask fn.results.toList) n thr p1 c (retMask fn.results.toList) [] (fun x s => match x with
        | .normal => outOf P fn bx s
        | .ret => outOf P fn bx s
        | .exit _ => none)
      loopGo P fn.params.size takes call (retMask fn.results.toList) n thr (atL P fn.params.size takes call (retMask fn.results.toList) n thr p2 q1.1 (liveC (retMask fn.results.toList) (.loop q1.1) q1.2.1 q1.2.2.1) q1.2.2.1 (fun x s => match x with
        | .normal => loopGo P fn.params.size takes call (retMask fn.results.toList) n thr q1 m1 (s.prune fn.params.size (liveC (retMask fn.results.toList) (.loop q1.1) q1.2.1 q1.2.2.1))
        | .exit id => q1.2.2.2 (.exit id) s
        | .ret => q1.2.2.2 .ret s)) m s
    | none => none)
  | none => none
/-- A function's evaluation. -/
def evFn (P : Program) (takes : FuncId → Option Nat) (call : CallF) (n : Nat) (f : FuncId) (xs : List AV) (bx : Bx) : Option Out := match P.funcs[f]? with
  | some fn => evBody P takes call n fn xs bx
  | none => none
end Go.Proofs.YtckdgcpomkefpaaGreatDoor.En
