/- colophonref05.Get: its equations. -/
import Derived.Test.YtckdgcpomkefpaaGreatDoorQ1
import Derived.Test.YtckdgcpomkefpaaGreatDoorEn27
set_option linter.unusedVariables false
set_option maxRecDepth 100000
namespace Go.Proofs.YtckdgcpomkefpaaGreatDoor.En
open Go
def obA (k n : Int) (b : Bool) (s : ByteArray) (ks l : List Dat) : List AV := [I k, B b, I n, S s, .row none 9 ks, .row none 43 l]
def zr : List AV := [I 0, B false, I 0, S ⟨#[]⟩, .row (some (sub 4 4)) 9 [], .row (some (sub 4 5)) 43 []]
noncomputable def getL (call : CallF) (m r : Nat) (k n : Int) (b : Bool) (s key : ByteArray) (ks l : List Dat) (i : Int) := loopF PR TK call m 36 [none,none] [true, true, false, true] r (sp 37 [(1, S key), (2, .box 2 0), (4, .box 4 0), (6, I i)] [(2, obA k n b s ks l), (4, zr)])
theorem get_0 (call : CallF) (m : Nat) (k n : Int) (b : Bool) (s key : ByteArray) (ks l : List Dat) : evFn PR TK call m 36 [.agg (obA k n b s ks l), S key] [none, none] =
  bif (k != 7) then some (.ret (.tup [.agg (obA 0 0 false ⟨#[]⟩ [] []), B false]) [none, none]) else getL call m m k n b s key ks l 0 := by kernel_rfl
theorem get_S (call : CallF) (m r : Nat) (k n : Int) (b : Bool) (s key : ByteArray) (ks l : List Dat) (i : Int) : getL call m (r + 1) k n b s key ks l i =
  bif decide (i < ks.length) then (idx ks i).bind fun d => bif ((d.at 0).toS.toList == key.toList) then
      (bif decide (i ≥ l.length) then some (.ret (.tup [.agg (obA 0 0 false ⟨#[]⟩ [] []), B false]) [none, none])
       else (idx l i).bind fun e => some (.ret (.tup [.agg (obA (e.at 0).toI (e.at 2).toI (e.at 1).toB (e.at 3).toS (e.at 4).toL (e.at 5).toL), B true]) [none, none]))
    else getL call m r k n b s key ks l (IntKind.i64.wrap (i + 1))
  else some (.ret (.tup [.agg (obA 0 0 false ⟨#[]⟩ [] []), B false]) [none, none]) := by kernel_rfl
end Go.Proofs.YtckdgcpomkefpaaGreatDoor.En
