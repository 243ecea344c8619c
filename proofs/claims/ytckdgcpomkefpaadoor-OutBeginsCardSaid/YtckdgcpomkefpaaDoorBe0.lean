/- Part 0 of a proof: what it needs of the program's functions as plain Lean functions, with the proof that the machine's calls come to them, and of plain laws; put together out of smaller texts. No conditions besides those that each statement names. -/
import Derived.Deep.Draws
import Derived.KernelRfl
import Derived.Laws.AppendOwn
import Derived.Laws.Cells
import Derived.Lib.BytesEntry
import Derived.Lib.ItoaNum
import Derived.Lib.LaidTab
import Derived.Test.YtckdgcpomkefpaaDoorProg
import Derived.WalkKit
import Derived.WalkLawsBesides
import Derived.WalkSmall
import Derived.WalkSpells
section
section
set_option linter.unusedVariables false
namespace Go.Proofs.YtckdgcpomkefpaaDoor.En
open Go
inductive Dat where
  | int (n : Int) | bool (b : Bool) | str (s : ByteArray) | rows (l : List Dat) | agg (l : List Dat)
  deriving Inhabited
def Dat.at (d : Dat) (j : Nat) : Dat := match d with | .agg l => l.getD j (.int 0) | d => d
def Dat.toI : Dat → Int | .int n => n | _ => 0
def Dat.toB : Dat → Bool | .bool b => b | _ => false
def Dat.toS : Dat → ByteArray | .str s => s | _ => ⟨#[]⟩
def Dat.toL : Dat → List Dat | .rows l => l | _ => []
inductive CK where
  | int (k : IntKind) | bool | str | row (E : TypeId) | self | other
  deriving Inhabited
inductive AV where
  | v (x : Value)
  | row (t : Option Nat) (E : TypeId) (l : List Dat)
  | agg (cs : List AV)
  | tup (vs : List AV)
  | box (d off : Nat)
  | ro (cs : List AV)
  | self (T : TypeId)
  /-- A function, what it is bound to and what it has caught: plain values and variables in memory. -/
  | fn (f : FuncId) (xs cs : List AV)
  | dead
  deriving Inhabited
abbrev Bx := List (Option (List AV))
inductive Out where
  | ret (v : AV) (bx : Bx)
  | thr (v : Value)
abbrev CallF := FuncId → List AV → Bx → Option (Bool × Out)
structure St where
  t : List AV
  b : Bx
def I (n : Int) : AV := .v (.int .i64 n)
def B (b : Bool) : AV := .v (.bool b)
def S (s : ByteArray) : AV := .v (.string s)
def sub (d j : Nat) : Nat := (d + 1) * 1024 + j
section
variable (P : Program)
def kindsF : Nat → TypeId → Option (List CK)
  | 0, _ => none
  | n + 1, T => match P.underlying T with
    | some (.int k) => some [.int k]
    | some .bool => some [.bool]
    | some .string => some [.str]
    | some (.slice E) => some [.row E]
    | some (.struct fs) => (fs.toList.map fun f => (match P.underlying f.type with
        | some (.pointer E) => some [bif E == T then CK.self else CK.other]
        | _ => kindsF n f.type)).foldr (fun a b => a.bind fun x => b.bind fun y => some (x ++ y)) (some [])
    | some (.array _ _) => none
    | some _ => some [.other]
    | none => none
def kinds (T : TypeId) : Option (List CK) := kindsF P 9 T
def aggD : TypeDesc → Bool | .struct _ | .array _ _ => true | _ => false
def aggT (T : TypeId) : Option Bool := (P.underlying T).map aggD
def szT (T : TypeId) : Option Nat := (P.info? T).map (·.size)
def elemT (T : TypeId) : Option TypeId := match P.underlying T with | some (.slice E) => some E | _ => none
def expC (d : Dat) (k : CK) (j : Nat) : AV := match k with
  | .int k => .v (.int k (d.at j).toI)
  | .bool => .v (.bool (d.at j).toB)
  | .str => .v (.string (d.at j).toS)
  | .row E => .row none E (d.at j).toL
  | _ => .dead
def expand (d : Dat) : List CK → Nat → List AV
  | [], _ => []
  | k :: ks, j => expC d k j :: expand d ks (j + 1)
def packC : CK → AV → Option Dat
  | .int k, .v (.int k' n) => if k = k' then some (.int n) else none
  | .bool, .v (.bool b) => some (.bool b)
  | .str, .v (.string s) => some (.str s)
  | .row E, .row _ E' l => if E = E' then some (.rows l) else none
  | .row _, .v (.slice none 0 0) => some (.rows [])
  | _, _ => none
def packL : List CK → List AV → Option (List Dat)
  | [], [] => some []
  | k :: ks, a :: r => (packC k a).bind fun d => (packL ks r).bind fun l => some (d :: l)
  | _, _ => none
def pack (ks : List CK) (x : AV) : Option Dat := match x with
  | .agg cs => (packL ks cs).bind fun l => some (.agg l)
  | x => (match ks with | [k] => packC k x | _ => none)
def cellAt (o : Option TypeId) (d j : Nat) (k : CK) (c : AV) : AV := match c with
  | .v (.slice none 0 0) => (match k with | .row E => .row (some (sub d j)) E [] | _ => .v (.slice none 0 0))
  | .v (.pointer none) => (match k with | .self => (match o with | some T => .self T | none => .v (.pointer none)) | _ => .v (.pointer none))
  | .row _ E l => .row none E l
  | .v x => .v x
  | .self _ => .dead
  | .dead => .dead
  | .ro cs => .ro cs
  | .box e f => .box e f
  | .fn f a b => .fn f a b
  | .agg cs => .agg cs
  | .tup cs => .tup cs
def cellsAt (o : Option TypeId) (d : Nat) : Nat → List CK → List AV → List AV
  | j, k :: ks, c :: cs => cellAt o d j k c :: cellsAt o d (j + 1) ks cs
  | _, _, _ => []
end
def AV.tok1 (f : Option Nat → Option Nat) : AV → AV | .row t E l => .row (f t) E l | x => x
def AV.tok2 (f : Option Nat → Option Nat) : AV → AV | .agg cs => .agg (cs.map (AV.tok1 f)) | x => x.tok1 f
def AV.tok (f : Option Nat → Option Nat) : AV → AV | .tup vs => .tup (vs.map (AV.tok2 f)) | x => x.tok2 f
def AV.nobox0 (d : Nat) : AV → AV | .box e o => bif e == d then .dead else .box e o | x => x
def AV.nobox1 (d : Nat) : AV → AV | .box e o => bif e == d then .dead else .box e o | .fn f xs cs => .fn f (xs.map (AV.nobox0 d)) (cs.map (AV.nobox0 d)) | x => x
def AV.nobox2 (d : Nat) : AV → AV | .agg vs => .agg (vs.map (AV.nobox1 d)) | x => x.nobox1 d
def AV.nobox (d : Nat) : AV → AV | .tup vs => .tup (vs.map (AV.nobox2 d)) | x => x.nobox2 d
def killF (n : Nat) : Option Nat → Option Nat | some m => bif m == n then none else some m | none => none
def killsF (d lo hi : Nat) : Option Nat → Option Nat | some m => bif m / 1024 == d + 1 && Nat.ble lo (m % 1024) && Nat.blt (m % 1024) hi then none else some m | none => none
def renF (n m : Nat) : Option Nat → Option Nat | some k => bif k == n then some m else some k | none => none
namespace St
def tok (s : St) (f : Option Nat → Option Nat) : St := ⟨s.t.map (AV.tok f), s.b.map (Option.map (List.map (AV.tok1 f)))⟩
def kill (s : St) (n : Nat) : St := s.tok (killF n)
def get (s : St) (n : Nat) : AV := s.t.getD n .dead
def put (s : St) (d : Option Nat) (x : AV) : St := match d with | some d => ⟨s.t.set d x, s.b⟩ | none => s
def ofV : Value → AV
  | .agg cs => .agg (cs.toList.map .v)
  | .tuple _ => .dead
  | x => .v x
def ev (s : St) : Operand → AV
  | .tmp t => s.get t
  | .const x => ofV x
  | .func f => .v (.func (.func f) #[] #[])
  | .global _ => .dead
def boxAt (s : St) (d : Nat) : Option (List AV) := s.b.getD d none
def setBox (s : St) (d : Nat) (cs : List AV) : St := ⟨s.t, s.b.set d (some cs)⟩
def newBox (s : St) (d : Nat) (cs : List AV) : St :=
  let s := s.tok (killsF d 0 1024)
  ⟨(s.t.map (AV.nobox d)).set d (.box d 0), (s.b.map (Option.map (List.map (AV.nobox1 d)))).set d (some (cs.map (AV.nobox1 d)))⟩
def assign (P : Program) (s : St) (T : TypeId) (d : Nat) (x : AV) : St := match x with
  | .row (some n) E l => bif n == d then s.put (some d) x else ((s.kill d).tok (renF n d)).put (some d) (.row (some d) E l)
  | .v (.slice none 0 0) => (match elemT P T with
    | some E => (s.kill d).put (some d) (.row (some d) E [])
    | none => s.put (some d) x)
  | x => s.put (some d) x
end St
section
variable (P : Program)
def pureOp (op : BinOp) (x y : Value) : Option Value := match x, y with
  | .int k a, .int k' b => (match op with
    | .shl => bif decide (b < 0) then none else some (.int k (k.wrap (a * 2 ^ (min b.toNat k.bits))))
    | .shr => bif decide (b < 0) then none else some (.int k (a.fdiv (2 ^ (min b.toNat k.bits))))
    | op => if k = k' then (match op with
      | .add => some (.int k (k.wrap (a + b)))
      | .sub => some (.int k (k.wrap (a - b)))
      | .mul => some (.int k (k.wrap (a * b)))
      | .quo => bif decide (b = 0) then none else some (.int k (k.wrap (a.tdiv b)))
      | .rem => bif decide (b = 0) then none else some (.int k (a.tmod b))
      | .and => some (.int k (k.wrap (BitVec.ofInt k.bits a &&& BitVec.ofInt k.bits b).toNat))
      | .or => some (.int k (k.wrap (BitVec.ofInt k.bits a ||| BitVec.ofInt k.bits b).toNat))
      | .eql => some (.bool (a == b))
      | .neq => some (.bool (a != b))
      | .lss => some (.bool (decide (a < b)))
      | .leq => some (.bool (decide (a ≤ b)))
      | .gtr => some (.bool (decide (a > b)))
      | .geq => some (.bool (decide (a ≥ b)))
      | _ => none) else none)
  | .string a, .string b => (match op with
    | .add => bif decide (a.size + b.size ≤ 4611686018427387904) then some (.string (a ++ b)) else none
    | .eql => some (.bool (a.toList == b.toList))
    | .neq => some (.bool (!(a.toList == b.toList)))
    | _ => none)
  | .bool a, .bool b => (match op with
    | .eql => some (.bool (a == b))
    | .neq => some (.bool (!(a == b)))
    | _ => none)
  | .nilIface, .nilIface => (match op with
    | .eql => some (.bool true)
    | .neq => some (.bool false)
    | _ => none)
  | .iface _ _, .nilIface => (match op with
    | .eql => some (.bool false)
    | .neq => some (.bool true)
    | _ => none)
  | _, _ => none
def ifaceT (T : TypeId) : Bool := match P.underlying T with | some (.interface _) => true | _ => false
def constO : Operand → Bool | .const _ => true | _ => false
def boolOk (T : TypeId) (y : Operand) (x : Value) : Bool := match x with | .bool _ => (match P.underlying T with | some .bool => true | _ => false) | .nilIface => ifaceT P T && constO y | .iface _ _ => ifaceT P T | _ => true
def unOpV (op : UnOp) (x : Value) : Option Value := match op, x with
  | .neg, .int k n => some (.int k (k.wrap (0 - n)))
  | .not, .bool b => some (.bool !b)
  | _, _ => none
def convV (src dst : TypeId) (x : Value) : Option Value := match x with
  | .int _ n => (match P.underlying src, P.underlying dst with
    | some _, some (.int k) => some (.int k (k.wrap n))
    | _, _ => none)
  | .string s => (match P.underlying src, P.underlying dst with
    | some _, some .string => some (.string s)
    | _, _ => none)
  | .slice none 0 0 => (match P.underlying src, P.underlying dst with
    | some (.slice E), some .string => (match P.underlying E with | some (.int .u8) => some (.string ⟨#[]⟩) | _ => none)
    | _, _ => none)
  | _ => none
def bytesOf (l : List Dat) : ByteArray := ⟨(l.map fun d => UInt8.ofNat (d.at 0).toI.toNat).toArray⟩
def bytesTo (s : ByteArray) : List Dat := s.data.toList.map fun b => .int b.toNat
def idx (l : List Dat) (i : Int) : Option Dat := bif decide (0 ≤ i) then l[i.toNat]? else none
def bt (s : ByteArray) (i : Int) : Int := (s.data.getD i.toNat 0).toNat
def strT (T : TypeId) : Bool := match P.underlying T with | some .string => true | _ => false
def fieldOf (T : TypeId) (f : Nat) : Option (Nat × TypeId) := match P.underlying T with
  | some (.struct fs) => (fs[f]?).map fun f => (f.offset, f.type)
  | _ => none
def AV.flat : AV → Bool | .agg _ => false | .tup _ => false | _ => true
def AV.noTup : AV → Bool | .tup _ => false | _ => true
def partAV (T : TypeId) (cs : List AV) (off : Nat) : Option AV :=
  (aggT P T).bind fun ag => bif ag then (szT P T).bind fun n => bif Nat.ble (off + n) cs.length then some (.agg ((cs.drop off).take n)) else none
  else (cs[off]?).bind fun c => bif c.flat then some c else none
def AV.cells : AV → List AV | .agg cs => cs | x => [x]
def AV.one : AV → Bool | .v _ => true | .row .. => true | .box .. => true | .ro _ => true | .fn .. => true | _ => false
def fillAV : List AV → List (Nat × Nat × AV) → Option (List AV)
  | cs, [] => some cs
  | cs, (off, n, x) :: r => bif Nat.beq x.cells.length n && Nat.ble (off + n) cs.length && x.cells.all AV.one then fillAV (cs.take off ++ (x.cells ++ cs.drop (off + n))) r else none
def oneV : Value → Bool | .agg _ => false | .tuple _ => false | _ => true
def zeroCells (T : TypeId) : Option (List AV) := ((P.info? T).bind (·.zero)).bind fun z => bif z.cells.toList.all oneV then some (z.cells.toList.map AV.v) else none
def fitsN : Nat := 1099511627776
def AV.bare : AV → AV
  | .row _ E l => .row none E l
  | .box _ _ => .dead
  | .fn _ _ _ => .dead
  | x => x
def AV.held : AV → Bool | .v _ => true | .box .. => true | _ => false
def AV.deself : AV → AV | .self _ => .dead | x => x
def St.cellsOf (s : St) : AV → Option (List AV)
  | .box d off => (s.boxAt d).map fun cs => (cs.drop off).map AV.deself
  | .ro cs => some (cs.map AV.bare)
  | _ => none
def bound (s : St) (o : Option Operand) (d : Nat) : Option Int := match o with
  | none => some d
  | some o => (match s.ev o with | .v (.int _ n) => some n | _ => none)
def fieldsOk (T : TypeId) : Bool := match P.underlying T with
  | some (.struct fs) => fs.toList.all fun f => (szT P f.type).isSome
  | _ => false
def partsAV (s : St) (T : TypeId) : List (Nat × Operand) → Option (List (Nat × Nat × AV))
  | [] => some []
  | (i, x) :: r => (fieldOf P T i).bind fun (off, U) => (szT P U).bind fun n => (partsAV s T r).bind fun l => some ((off, n, s.ev x) :: l)
def plainL : List AV → Option (List Value)
  | [] => some []
  | .v x :: r => (plainL r).bind fun l => some (x :: l)
  | _ => none
def rhs (o : Oper) (s : St) : Option AV :=
  match o.op with
  | .move x => some (s.ev x)
  | .pick c a b => (match s.ev c with
    | .v (.bool c) => (match s.ev a, s.ev b with
      | .v (.bool x), .v (.bool y) => some (B (bif c then x else y))
      | x, y => some (bif c then x else y))
    | _ => none)
  | .build T ps => (zeroCells P T).bind fun z =>
      bif fieldsOk P T then (partsAV P s T ps.toList).bind fun l => (fillAV z l).bind fun cs => some (.agg cs) else none
  | .load T a => (s.cellsOf (s.ev a)).bind fun cs => partAV P T cs 0
  | .nilCheck x => (match s.ev x with | .box d off => some (.box d off) | .ro cs => some (.ro cs) | _ => none)
  | .binOp op T x y _ => (match s.ev x, s.ev y with | .v a, .v b => bif boolOk P T y a then (pureOp op a b).map AV.v else none | _, _ => none)
  | .unOp op _ x => (match s.ev x with | .v a => (unOpV op a).map AV.v | _ => none)
  | .convert src dst x => (match s.ev x with
    | .row _ E l => (match P.underlying src, P.underlying dst with
      | some (.slice E'), some .string => (match P.underlying E' with
        | some (.int .u8) => bif E == E' then some (S (bytesOf l)) else none
        | _ => none)
      | _, _ => none)
    | .v a => (convV P src dst a).map AV.v
    | _ => none)
  | .makeInterface T x => (match P.underlying T with
    | some (.interface _) => none
    | none => none
    | _ => (match s.ev x with
      | .v a => some (.v (.iface T a))
      | .agg cs => (plainL cs).bind fun l => some (.v (.iface T (.agg l.toArray)))
      | _ => none))
  | .slice T x lo hi none => (match s.ev x with
    | .v (.string x) => (bound s hi x.size).bind fun h => (bound s lo 0).bind fun l =>
      bif strT P T && decide (0 ≤ h) && decide (h ≤ x.size) && decide (0 ≤ l) && decide (l ≤ h) then some (S (x.extract l.toNat h.toNat)) else none
    | .row _ E x => (bound s hi x.length).bind fun h => (bound s lo 0).bind fun l => (kinds P E).bind fun ks =>
      bif elemT P T == some E && szT P E == some ks.length && decide (0 ≤ h) && decide (h ≤ x.length) && decide (0 ≤ l) && decide (l ≤ h) then some (.row none E ((x.take h.toNat).drop l.toNat)) else none
    | _ => none)
  | .fieldAddr T x f => (fieldOf P T f).bind fun (off, U) => (szT P U).bind fun n => bif n == 0 then none else
    (match s.ev x with | .box d o => some (.box d (o + off)) | .ro cs => some (.ro (cs.drop off)) | _ => none)
  | .field T x f => (fieldOf P T f).bind fun (off, U) => (match s.ev x with | .agg cs => partAV P U cs off | _ => none)
  | .indexAddr T x i => (match s.ev x, s.ev i with
    | .row _ E l, .v (.int _ i) => bif elemT P T == some E then (kinds P E).bind fun ks => bif szT P E == some ks.length then (idx l i).bind fun d => some (.ro (expand d ks 0)) else none else none
    | _, _ => none)
  | .index T x i => (match s.ev x, s.ev i with
    | .v (.string x), .v (.int _ i) => bif strT P T && decide (0 ≤ i) && decide (i < x.size) then some (.v (.int .u8 (bt x i))) else none
    | _, _ => none)
  | .extract x i => (match s.ev x with | .tup vs => (vs[i]?).bind fun c => bif c.noTup then some c else none | _ => none)
  | .makeFunc (.func f) xs cs => bif (xs.toList.map s.ev).all AV.held && (cs.toList.map s.ev).all AV.held then some (.fn f (xs.toList.map s.ev) (cs.toList.map s.ev)) else none
  | .call { callee := .builtin .len, args := xs, argTypes := Ts } => (match xs.toList, Ts[0]? with
    | [x], some T => (match s.ev x with
      | .row _ _ l => bif (elemT P T).isSome then some (I l.length) else none
      | .v (.string x) => bif strT P T then some (I x.size) else none
      | .v (.slice none 0 0) => bif (elemT P T).isSome then some (I 0) else none
      | _ => none)
    | _, _ => none)
  | _ => none
def pureK {β : Type} (op : BinOp) (x y : Value) (k : Value → Option β) : Option β := match x, y with
  | .int i a, .int j b => (match op with
    | .shl => bif decide (b < 0) then none else k (.int i (i.wrap (a * 2 ^ (min b.toNat i.bits))))
    | .shr => bif decide (b < 0) then none else k (.int i (a.fdiv (2 ^ (min b.toNat i.bits))))
    | .quo => if i = j then (bif decide (b = 0) then none else k (.int i (i.wrap (a.tdiv b)))) else none
    | .rem => if i = j then (bif decide (b = 0) then none else k (.int i (a.tmod b))) else none
    | op => (pureOp op (.int i a) (.int j b)).bind k)
  | .string a, .string b => (match op with
    | .add => bif decide (a.size + b.size ≤ 4611686018427387904) then k (.string (a ++ b)) else none
    | op => (pureOp op (.string a) (.string b)).bind k)
  | x, y => (pureOp op x y).bind k
def rhsK {β : Type} (o : Oper) (s : St) (k : AV → Option β) : Option β := match o.op with
  | .binOp op T x y _ => (match s.ev x, s.ev y with | .v a, .v b => bif boolOk P T y a then pureK op a b (fun v => k (.v v)) else none | _, _ => none)
  | .slice T x lo hi none => (match s.ev x with
    | .v (.string x) => (bound s hi x.size).bind fun h => (bound s lo 0).bind fun l =>
      bif strT P T && decide (0 ≤ h) && decide (h ≤ x.size) && decide (0 ≤ l) && decide (l ≤ h) then k (S (x.extract l.toNat h.toNat)) else none
    | .row _ E x => (bound s hi x.length).bind fun h => (bound s lo 0).bind fun l => (kinds P E).bind fun ks =>
      bif elemT P T == some E && szT P E == some ks.length && decide (0 ≤ h) && decide (h ≤ x.length) && decide (0 ≤ l) && decide (l ≤ h) then k (.row none E ((x.take h.toNat).drop l.toNat)) else none
    | _ => none)
  | .indexAddr T x i => (match s.ev x, s.ev i with
    | .row _ E l, .v (.int _ i) => bif elemT P T == some E then (kinds P E).bind fun ks => bif szT P E == some ks.length then (idx l i).bind fun d => k (.ro (expand d ks 0)) else none else none
    | _, _ => none)
  | .index T x i => (match s.ev x, s.ev i with
    | .v (.string x), .v (.int _ i) => bif strT P T && decide (0 ≤ i) && decide (i < x.size) then k (.v (.int .u8 (bt x i))) else none
    | _, _ => none)
  | _ => (rhs P o s).bind k
def reads (o : Op) : Bool := match o with
  | .move _ | .pick .. | .build .. | .load .. | .nilCheck _ | .binOp .. | .unOp .. | .makeInterface .. | .slice .. | .fieldAddr .. | .field .. | .indexAddr .. | .index .. | .extract .. | .makeFunc .. => true
  | .convert _ dst _ => (match P.underlying dst with | some (.slice _) => false | _ => true)
  | .call { callee := .builtin .len, .. } => true
  | _ => false
def uniqT : List Nat → List AV → List AV
  | _, [] => []
  | u, c :: r => (match c with
    | .row (some n) E l => bif u.contains n then .row none E l :: uniqT u r else .row (some n) E l :: uniqT (n :: u) r
    | c => c :: uniqT u r)
def findT : List AV → Nat → Nat → Option Nat
  | [], _, _ => none
  | c :: r, j, m => (match c with
    | .row (some n) _ _ => bif n == m then some j else findT r (j + 1) m
    | _ => findT r (j + 1) m)
def moveF (d off hi : Nat) (cs : List AV) : Option Nat → Option Nat
  | some m => (match findT cs off m with | some j => some (sub d j) | none => killsF d off hi (some m))
  | none => none
def AV.into (d j : Nat) (c : AV) (z : AV) : AV := match c with | .row (some _) E l => .row (some (sub d j)) E l | _ => z
def intoL (d : Nat) : Nat → List AV → List AV → List AV
  | j, c :: cs, z :: zs => c.into d j z :: intoL d (j + 1) cs zs
  | _, _, _ => []
def storeAV (s : St) (T : TypeId) (a x : AV) : Option St := match a with
  | .box d off => (s.boxAt d).bind fun cs => (kinds P T).bind fun ks => (szT P T).bind fun n =>
    bif n == ks.length && x.cells.all AV.one && Nat.beq x.cells.length n && Nat.ble (off + n) cs.length && Nat.ble cs.length 1024 then
      (match x with
      | .row (some m) E l => bif m == sub d off then some (s.setBox d (cs.set off x)) else
        let s1 := (s.kill (sub d off)).tok (renF m (sub d off))
        (s1.boxAt d).map fun cs => s1.setBox d (cs.set off (.row (some (sub d off)) E l))
      | x => let s1 := s.tok (moveF d off (off + n) (uniqT [] x.cells))
        (s1.boxAt d).map fun cs => s1.setBox d (cs.take off ++ (intoL d off (uniqT [] x.cells) (cellsAt none d off ks x.cells) ++ cs.drop (off + n)))) else none
  | _ => none
def AV.give (e d j : Nat) : AV → AV
  | .row (some m) E l => .row (bif m == sub e j then some (sub d j) else none) E l
  | .box _ _ => .dead
  | .fn _ _ _ => .dead
  | x => x
def giveL (e d : Nat) : Nat → List AV → List AV
  | _, [] => []
  | j, c :: cs => c.give e d j :: giveL e d (j + 1) cs
def parL (P : Program) (f : FuncId) (Ts : Array TypeId) : List TypeId := match P.funcs[f]? with | some fn => fn.params.toList | none => Ts.toList
def ptrOf (P : Program) (T : TypeId) : Option TypeId := match P.underlying T with | some (.pointer E) => some E | _ => none
structure Pass where
  xs : List AV
  bs : Bx
  ls : List (Option Nat)
  tk : Option Nat
def nil1 : CK → AV → AV
  | .row E, .v (.slice none 0 0) => .row none E []
  | _, c => c
def nil2 : List CK → List AV → List AV
  | k :: ks, c :: cs => nil1 k c :: nil2 ks cs
  | _, cs => cs
def nilL (ks : Option (List CK)) (cs : List AV) : List AV := match ks with | some ks => nil2 ks cs | none => cs
def argsFor (take : Option Nat) (s : St) : List TypeId → List AV → Nat → Option Pass
  | [], [], _ => some ⟨[], [], [], none⟩
  | T :: Ts, x :: xs, i => (argsFor take s Ts xs (i + 1)).bind fun p => match x with
    | .box d off => (match ptrOf P T with
      | some E => (s.boxAt d).bind fun cs =>
        bif off == 0 && szT P E == some cs.length && Nat.ble cs.length 1024 && !p.ls.contains (some d) then
          some ⟨.box i 0 :: p.xs, some (giveL d i 0 cs) :: p.bs, some d :: p.ls, p.tk⟩ else none
      | none => none)
    | .row t E l => (match t with
      | some n => bif take == some i && Nat.blt n 1024 then some ⟨.row (some i) E l :: p.xs, none :: p.bs, none :: p.ls, some n⟩ else some ⟨.row none E l :: p.xs, none :: p.bs, none :: p.ls, p.tk⟩
      | none => some ⟨.row none E l :: p.xs, none :: p.bs, none :: p.ls, p.tk⟩)
    | .v (.slice none 0 0) => (match elemT P T with
      | some E => some ⟨.row (some i) E [] :: p.xs, none :: p.bs, none :: p.ls, p.tk⟩
      | none => none)
    | .v y => some ⟨.v y :: p.xs, none :: p.bs, none :: p.ls, p.tk⟩
    | .agg cs => some ⟨.agg ((nilL (kinds P T) cs).map AV.bare) :: p.xs, none :: p.bs, none :: p.ls, p.tk⟩
    | _ => none
  | _, _, _ => none
def backS : Nat → List (Option Nat) → Bx → St → Option St
  | _, [], _, s => some s
  | i, none :: ls, _ :: bs, s => backS (i + 1) ls bs s
  | i, some d :: ls, some cs :: bs, s => (s.boxAt d).bind fun old => bif Nat.beq cs.length old.length then backS (i + 1) ls bs (s.setBox d (giveL i d 0 cs)) else none
  | _, _, _, _ => none
def lossOf (m : Nat) : Option Nat → Bool | some d => m / 1024 == d + 1 | none => false
def lostB (p : Pass) (dst : Option Nat) (m : Nat) : Bool := p.tk == some m || p.ls.any (lossOf m) || (match dst with | some d => m == d || m / 1024 == d + 1 | none => false)
def lostF (p : Pass) (dst : Option Nat) : Option Nat → Option Nat
  | some m => bif lostB p dst m then none else some m
  | none => none
def dstOk (p : Pass) : Option Nat → Bool | some d => Nat.blt d 1024 && !p.ls.contains (some d) | none => true
def AV.name (m : Nat) : AV → AV | .row (some _) E l => .row (some m) E l | x => x
def nameL (d : Nat) : Nat → List AV → List AV
  | _, [] => []
  | j, c :: cs => c.name (sub d j) :: nameL d (j + 1) cs
def newTok (dst : Option Nat) (x : AV) : Option AV := match dst with
  | some d => (match x with
    | .tup vs => bif Nat.ble vs.length 1024 then some (.tup (nameL d 0 vs)) else none
    | .agg vs => bif Nat.ble vs.length 1024 then some (.agg (nameL d 0 vs)) else none
    | x => some (x.name d))
  | none => some .dead
def dstN (v : AV) (dst : Option Nat) : Option Nat := match v with | .v _ => none | _ => dst
def appOk (Ts : Array TypeId) (E : TypeId) : Bool := match Ts[0]?, Ts[1]? with
  | some T, some U => elemT P T == some E && (match P.underlying U with | some (.slice _) | some .string => true | _ => false) &&
    (match kinds P E, P.info? E with
    | some ks, some i => i.size == ks.length && Nat.blt 0 ks.length && Nat.ble i.bytes 128 && (match i.zero with | some z => Nat.beq z.cells.size ks.length | none => false)
    | _, _ => false)
  | _, _ => false
def appendAV (Ts : Array TypeId) (xs : List AV) (s : St) (d : Nat) : Option St := match xs with
  | [.row (some n) E l, y] => bif appOk P Ts E then (match y with
    | .row _ E' m => bif E == E' && Nat.ble (l.length + m.length) fitsN then some (((s.kill n).kill d).put (some d) (.row (some d) E (l ++ m))) else none
    | .v (.slice none 0 0) => bif Nat.ble l.length fitsN then some (((s.kill n).kill d).put (some d) (.row (some d) E l)) else none
    | .v (.string x) => (match P.underlying E with
      | some (.int .u8) => bif Nat.ble (l.length + x.size) fitsN then some (((s.kill n).kill d).put (some d) (.row (some d) E (l ++ bytesTo x))) else none
      | _ => none)
    | _ => none) else none
  | [.v (.slice none 0 0), .row _ E' m] => (match (Ts[0]?).bind (elemT P) with
    | some E => bif appOk P Ts E then (bif E == E' && Nat.ble m.length fitsN then some ((s.kill d).put (some d) (.row (some d) E m)) else none) else none
    | none => none)
  | _ => none
def appendK {β : Type} (Ts : Array TypeId) (xs : List AV) (s : St) (d : Nat) (k : St → Option β) : Option β := match xs with
  | [.row (some n) E l, y] => bif appOk P Ts E then (match y with
    | .row _ E' m => bif E == E' && Nat.ble (l.length + m.length) fitsN then k (((s.kill n).kill d).put (some d) (.row (some d) E (l ++ m))) else none
    | .v (.slice none 0 0) => bif Nat.ble l.length fitsN then k (((s.kill n).kill d).put (some d) (.row (some d) E l)) else none
    | .v (.string x) => (match P.underlying E with
      | some (.int .u8) => bif Nat.ble (l.length + x.size) fitsN then k (((s.kill n).kill d).put (some d) (.row (some d) E (l ++ bytesTo x))) else none
      | _ => none)
    | _ => none) else none
  | [.v (.slice none 0 0), .row _ E' m] => (match (Ts[0]?).bind (elemT P) with
    | some E => bif appOk P Ts E then (bif E == E' && Nat.ble m.length fitsN then k ((s.kill d).put (some d) (.row (some d) E m)) else none) else none
    | none => none)
  | _ => none
theorem appendK_eq {β : Type} (Ts : Array TypeId) (xs : List AV) (s : St) (d : Nat) (k : St → Option β) : appendK P Ts xs s d k = (appendAV P Ts xs s d).bind k := by
  have hb : ∀ (c : Bool) (x : St), (bif c then k x else none) = (bif c then some x else none : Option St).bind k := fun c x => by cases c <;> rfl
  have hb2 : ∀ (c : Bool) (x : Option St), (bif c then x.bind k else none) = (bif c then x else none).bind k := fun c x => by cases c <;> rfl
  unfold appendK appendAV
  split
  · rw [← hb2]
    congr 1
    split
    · exact hb _ _
    · exact hb _ _
    · split
      · exact hb _ _
      · rfl
    · rfl
  · split
    · rw [← hb2, ← hb]
    · rfl
  · rfl
def u8T (T E : TypeId) : Bool := match P.underlying T with
  | some (.slice E') => E' == E && (match P.underlying E with | some (.int .u8) => true | _ => false)
  | _ => false
def partsF (ks : List CK) : List (Nat × AV) → Nat → Option (List Dat)
  | [], _ => some []
  | (i, x) :: r, n => bif i == n then (pack ks x).bind fun d => (partsF ks r (n + 1)).bind fun l => some (d :: l) else none
def callK {β : Type} (takes : FuncId → Option Nat) (call : CallF) (thr : Value → Option β) (f : FuncId) (Ts : Array TypeId) (xs : List AV) (dst : Option Tmp) (s : St) (k : St → Option β) : Option β :=
  bif Nat.ble xs.length 1024 then (argsFor P (takes f) s (parL P f Ts) xs 0).bind fun p => bif dstOk p dst then
      (call f p.xs p.bs).bind fun q => bif q.1 then (match q.2 with
        | .thr v => thr v
        | .ret v bs => (backS 0 p.ls bs (s.tok (lostF p (dstN v dst)))).bind fun s => (newTok dst v).bind fun x => k (s.put dst x)) else none else none else none
def evX {β : Type} (np : Nat) (takes : FuncId → Option Nat) (call : CallF) (thr : Value → Option β) (o : Oper) (s : St) (k : St → Option β) : Option β :=
  match o.op, o.dst with
  | .assign x, some d => k (s.assign P o.type d (s.ev x))
  | .alloc T, some d => (zeroCells P T).bind fun z => (kinds P T).bind fun ks => bif Nat.ble np d && Nat.ble ks.length 1024 && Nat.beq z.length ks.length && Nat.blt d s.t.length then k (s.newBox d (cellsAt (some T) d 0 ks z)) else none
  | .box T x, some d => (kinds P T).bind fun ks => bif Nat.ble np d && Nat.ble ks.length 1024 && Nat.beq (s.ev x).cells.length ks.length && (s.ev x).cells.all AV.one && Nat.blt d s.t.length then k (s.newBox d (cellsAt (some T) d 0 ks (s.ev x).cells)) else none
  | .buildSlice T n ps, some d => (elemT P T).bind fun E => (kinds P E).bind fun ks => (partsF ks (ps.toList.map fun (i, x) => (i, s.ev x)) 0).bind fun l =>
      bif Nat.beq l.length n && szT P E == some ks.length && (zeroCells P E).isSome && Nat.ble (n * ks.length) 16777216 && Nat.blt 0 ks.length && Nat.blt d s.t.length && ps.toList.all (fun p => (s.ev p.2).cells.all AV.one) then k ((s.kill d).put (some d) (.row (some d) E l)) else none
  | .convert src dst x, some d => (match s.ev x with
    | .v (.string x) => (match P.underlying src, P.underlying dst with
      | some .string, some (.slice E) => (match P.underlying E with
        | some (.int .u8) => bif Nat.ble x.size fitsN && szT P E == some 1 then k ((s.kill d).put (some d) (.row (some d) E (bytesTo x))) else none
        | _ => none)
      | _, _ => none)
    | .row (some n) E l => bif u8T P dst E && src == dst && Nat.blt 0 l.length then k (s.assign P dst d (.row (some n) E l)) else none
    | _ => none)
  | .store T a x, none => (storeAV P s T (s.ev a) (s.ev x)).bind k
  | .panic x, _ => (match s.ev x with | .v (.iface T a) => thr (.iface T a) | _ => none)
  | .call { callee := .builtin .append, args := xs, argTypes := Ts }, some d => bif Nat.blt d s.t.length then appendK P Ts (xs.toList.map s.ev) s d k else none
  | .call { callee := .value (.func f), args := xs, argTypes := Ts }, dst => callK P takes call thr f Ts (xs.toList.map s.ev) dst s k
  | .call { callee := .value (.tmp t), args := xs, argTypes := Ts }, dst => (match s.get t with
    | .fn f ys cs => callK P takes call thr f Ts (ys ++ (xs.toList.map s.ev ++ cs)) dst s k
    | _ => none)
  | _, _ => none
def bsOp (o : Oper) : Bool := match o.op with | .buildSlice .. => true | .convert .. => true | _ => false
def rhsB (o : Oper) (s : St) : Option AV := match o.op, o.dst with
  | .buildSlice T n ps, some d => (elemT P T).bind fun E => (kinds P E).bind fun ks => (partsF ks (ps.toList.map fun (i, x) => (i, s.ev x)) 0).bind fun l =>
      bif Nat.beq l.length n && szT P E == some ks.length && (zeroCells P E).isSome && Nat.ble (n * ks.length) 16777216 && Nat.blt 0 ks.length && Nat.blt d s.t.length && ps.toList.all (fun p => (s.ev p.2).cells.all AV.one) then some (.row none E l) else none
  | .convert src dst x, some d => (match s.ev x with
    | .v (.string x) => (match P.underlying src, P.underlying dst with
      | some .string, some (.slice E) => (match P.underlying E with
        | some (.int .u8) => bif Nat.ble x.size fitsN && szT P E == some 1 then some (.row none E (bytesTo x)) else none
        | _ => none)
      | _, _ => none)
    | _ => none)
  | _, _ => none
def evOp {β : Type} (np : Nat) (dr : Bool) (takes : FuncId → Option Nat) (call : CallF) (thr : Value → Option β) (o : Oper) (s : St) (k : St → Option β) : Option β :=
  bif reads P o.op then rhsK P o s (fun x => k (s.put o.dst x)) else bif dr && bsOp o then (rhsB P o s).bind fun x => k (s.put o.dst x) else evX P np takes call thr o s k
end
def opMask (x : Operand) : Nat := match x with | .tmp t => 2 ^ t | _ => 0
def useMask (o : Op) : Nat := o.operands.toList.foldl (fun m x => m ||| opMask x) 0
def liveOps : List Oper → Nat → Nat
  | [], out => out
  | o :: r, out => let l := liveOps r out
    let l := match o.dst, o.guard with | some d, none => l &&& (l ^^^ 2 ^ d) | _, _ => l
    l ||| useMask o.op
def lk (ex : List (Nat × Nat)) (id : Nat) : Nat := ((ex.find? fun p => p.1 == id).map (·.2)).getD 0
def liveC (ret : Nat) : Code → Nat → List (Nat × Nat) → Nat
  | .region _ ops _, out, _ => liveOps ops.toList out
  | .seq a b, out, ex => liveC ret a (liveC ret b out ex) ex
  | .cond c a b, out, ex => opMask c ||| (liveC ret a out ex ||| liveC ret b out ex)
  | .block id c, out, ex => liveC ret c out ((id, out) :: ex)
  | .loop c, _, ex => liveC ret c (liveC ret c (liveC ret c 0 ex) ex) ex
  | .exit id, _, ex => lk ex id
  | .ret, _, _ => ret
  | _, out, _ => out
inductive Ex where | normal | exit (id : Nat) | ret
  deriving DecidableEq, Inhabited
def AV.ref0 : AV → List Nat | .box d _ => [d] | _ => []
def AV.ref1 : AV → List Nat | .box d _ => [d] | .fn _ xs cs => xs.flatMap AV.ref0 ++ cs.flatMap AV.ref0 | _ => []
def AV.refs : AV → List Nat | .agg vs => vs.flatMap AV.ref1 | .tup vs => vs.flatMap AV.ref1 | x => x.ref1
def pruneT (mask : Nat) : Nat → List AV → List AV
  | _, [] => []
  | i, x :: r => (bif mask.testBit i then x else .dead) :: pruneT mask (i + 1) r
def pruneB (np : Nat) (u : List Nat) : Nat → Bx → Bx
  | _, [] => []
  | i, none :: r => none :: pruneB np u (i + 1) r
  | i, some cs :: r => (bif Nat.blt i np || u.contains i then some cs else none) :: pruneB np u (i + 1) r
def usedB (t : List AV) (b : Bx) : List Nat := t.flatMap AV.refs ++ (t.flatMap AV.refs).flatMap fun d => ((b.getD d none).getD []).flatMap AV.ref1
def St.prune (np mask : Nat) (s : St) : St := ⟨pruneT mask 0 s.t, pruneB np (usedB (pruneT mask 0 s.t) s.b) 0 s.b⟩
abbrev KC (β : Type) := Ex → St → Option β
def iter {β : Type} (body : St → KC β → Option β) : Nat → St → KC β → Option β
  | 0, _, _ => none
  | n + 1, s, k => body s (fun x s => match x with
    | .normal => iter body n s k
    | .exit id => k (.exit id) s
    | .ret => k .ret s)
section
variable (P : Program) (np : Nat) (takes : FuncId → Option Nat) (call : CallF) (ret n : Nat)
def yieldB (s : St) (ops : List Oper) (j : Nat) : Option (Option Bool) := match (ops[j]?).bind (·.dst) with
  | some d => (match s.get d with | .v (.bool b) => some (some b) | .tup [] => some none | _ => none)
  | none => none
def wantB (s : St) (ops : List Oper) (g : Option (Nat × Bool)) : Option Bool := match g with
  | none => some true
  | some (j, want) => (match yieldB s ops j with
    | some none => some false
    | some (some b) => some (b == want)
    | none => none)
def noPtr (P : Program) (f : FuncId) (Ts : Array TypeId) : Bool := (parL P f Ts).all fun T => (ptrOf P T).isNone
def flatRes (f : FuncId) : Bool := match P.funcs[f]? with
  | some fn => fn.resultTypes.size == 1 && fn.resultTypes.toList.all fun T => match P.underlying T with | some (.int _) | some .bool | some .string => true | _ => false
  | none => false
def quietOp (o : Oper) : Bool := reads P o.op || (match o.op with
  | .call { callee := .value (.func f), argTypes := Ts, .. } => (takes f).isNone && noPtr P f Ts && flatRes P f
  | _ => false)
def groupOf (tj : Nat) : List Oper → Option (List Oper × Oper × List Oper)
  | [] => none
  | o :: r => match o.op with
    | .pick (.tmp c) _ _ => bif c == tj then some ([], o, r) else (groupOf tj r).map fun (g, p, r) => (o :: g, p, r)
    | _ => (groupOf tj r).map fun (g, p, r) => (o :: g, p, r)
def forgetL (D : List Nat) : Nat → List AV → List AV
  | _, [] => []
  | i, x :: r => (bif D.contains i then .dead else x) :: forgetL D (i + 1) r
def forget (D : List Nat) (s : St) : St := ⟨forgetL D 0 s.t, s.b⟩
def dstsOf (g : List Oper) : List Nat := g.filterMap (·.dst)
def deadAll (g : List Oper) (s : St) : St := forget (dstsOf g) s
def asB : AV → Option Bool | .v (.bool b) => some b | _ => none
def join (tj : Nat) (l : List Oper) : Option (List Oper × Oper × Operand × Operand × List Oper) := (groupOf tj l).bind fun (g, p, r) => match p.op with
  | .pick _ x y => bif g.all (quietOp P takes) && p.dst.isSome && g.all (fun o => o.dst != some tj) then some (g, p, x, y, r) else none
  | _ => none
def quietC (call : CallF) : CallF := fun f xs bs => bif bs.all Option.isNone then (match call f xs bs with
  | some (b, .ret (.v x) bs') => some (b, .ret (.v x) bs')
  | _ => none) else none
def tmpOf (ops : List Oper) (j : Nat) : Option Nat := (ops[j]?).bind (·.dst)
def evOps {β : Type} (dr : Bool) (takes : FuncId → Option Nat) (call : CallF) (thr : Value → Option β) (ops : List Oper) : Nat → List Oper → St → (St → Option β) → Option β
  | 0, _, _, _ => none
  | _ + 1, [], s, k => k s
  | m + 1, o :: r, s, k => match o.guard with
    | none => evOp P np dr takes call thr o s (fun s => evOps dr takes call thr ops m r s k)
    | some (j, want) => (match yieldB s ops j with
      | none => none
      | some none => evOps dr takes call thr ops m r (s.put o.dst (.tup [])) k
      | some (some b) => (match tmpOf ops j with
        | none => none
        | some tj => (match join P takes tj (o :: r) with
          | some (g, p, x, y, r') => (wantB (deadAll g s) ops p.guard).bind fun pw =>
              (bif b then evOps dr (fun _ => none) (quietC call) (fun _ => none) ops m g (s.put (some tj) (B true)) (fun s => asB (s.ev x)) else evOps dr (fun _ => none) (quietC call) (fun _ => none) ops m g (s.put (some tj) (B false)) (fun s => asB (s.ev y))).bind fun t =>
                evOps dr takes call thr ops m r' ((deadAll g s).put p.dst (bif pw then B t else .tup [])) k
          | none => bif b == want then evOp P np dr takes call thr o (s.put (some tj) (B want)) (fun s => evOps dr takes call thr ops m r s k) else evOps dr takes call thr ops m r ((s.put (some tj) (B !want)).put o.dst (.tup [])) k)))
def maskOf (o : Oper) (ms : List Nat) : Nat := o.after.toList.foldl (fun m e => bif Region.binds .any e then m ||| (2 ^ e.on ||| ms.getD e.on 0) else m) 0
def masks : List Oper → List Nat → List Nat
  | [], ms => ms
  | o :: r, ms => masks r (ms ++ [maskOf o ms])
def thrOk (ops : List Oper) : Bool :=
  let ms := masks ops []
  (List.range ops.length).all fun k => match ops[k]? with
    | some o => (match o.op with
      | .call { callee := .value (.func _), .. } | .call { callee := .value (.tmp _), .. } | .panic _ => (List.range ops.length).all fun j => Nat.ble j k || (ms.getD j 0).testBit k
      | _ => true)
    | none => true
def looks (ops : List Oper) (o : Oper) : List Nat := (o.op.operands.toList.filterMap fun | .tmp t => some t | _ => none) ++ (match o.guard with | some (j, _) => (tmpOf ops j).toList | none => [])
def wOp (P : Program) (o : Oper) : Bool := reads P o.op || bsOp o
def xOp (P : Program) (o : Oper) : Bool := match o.op with
  | .call { callee := .builtin .append, .. } => true
  | .call { callee := .value (.func f), argTypes := Ts, .. } => noPtr P f Ts
  | .assign _ => true
  | _ => false
def apartB (ops : List Oper) (x y : Oper) : Bool :=
  (match x.dst with | some d => !(looks ops y).contains d && y.dst != some d | none => true) && (match y.dst with | some d => !(looks ops x).contains d | none => true)
def pairOk (P : Program) (ops : List Oper) (x y : Oper) : Bool := apartB ops x y && (wOp P x && wOp P y || wOp P x && xOp P y || xOp P x && wOp P y)
def isThr (o : Oper) : Bool := match o.op with
  | .call { callee := .value (.func _), .. } | .call { callee := .value (.tmp _), .. } | .panic _ => true
  | _ => false
def ptrCall (P : Program) (o : Oper) : Option (List Operand) := match o.op with
  | .call { callee := .value (.func f), args := xs, argTypes := Ts } => bif noPtr P f Ts then none else some xs.toList
  | .store _ a _ => some [a]
  | _ => none
def loadOf (o : Oper) : Option Operand := match o.op with | .load _ a => some a | _ => none
def isStore (o : Oper) : Bool := match o.op with | .store .. => true | _ => false
def lcOf (P : Program) (x y : Oper) : Option (Operand × List Operand) := match loadOf x with
  | some a => (ptrCall P y).map fun xs => (a, xs)
  | none => (loadOf y).bind fun a => (ptrCall P x).map fun xs => (a, xs)
def fixedAt (ops : List Oper) (m : Nat) (o : Oper) : Bool := (List.range ops.length).all fun k => Nat.blt k m || (match (ops[k]?).bind (·.dst) with | some d => !(looks ops o).contains d | none => true)
def thrAt (ops : List Oper) (k : Nat) : Bool := match ops[k]? with | some o => isThr o | none => false
def calm (P : Program) (ops : List Oper) : Bool := ops.all (fun o => wOp P o || xOp P o || (ptrCall P o).isSome || isStore o) && (List.range ops.length).all fun k => (List.range k).all fun m => !(thrAt ops k && thrAt ops m)
def dynW (P : Program) (x y : Oper) : Bool := wOp P x && (ptrCall P y).isSome || wOp P y && (ptrCall P x).isSome
def pairDyn (P : Program) (ops : List Oper) (i j : Nat) (x y : Oper) : Bool := apartB ops x y && dynW P x y && ((lcOf P x y).isNone || (fixedAt ops i x && fixedAt ops j y && calm P ops && (!(isStore x || isStore y) || ops.all fun o => !isThr o)))
def needs (P : Program) (ops : List Oper) : List (Operand × List Operand) :=
  bif ops.any (fun o => (loadOf o).isSome) && ops.any (fun o => (ptrCall P o).isSome) then
    let ms := masks ops []
    (List.range ops.length).flatMap fun j => (List.range j).filterMap fun i => bif (ms.getD j 0).testBit i then none else (match ops[i]?, ops[j]? with
      | some x, some y => bif pairOk P ops x y then none else lcOf P x y
      | _, _ => none)
  else []
def farFrom (s : St) (d : Nat) : List Operand → Bool
  | [] => true
  | x :: xs => (match s.ev x with | .box e _ => !Nat.beq e d | .dead => false | .fn .. => false | _ => true) && farFrom s d xs
def aparts (s : St) (p : Operand × List Operand) : Bool := match s.ev p.1 with
  | .box d _ => farFrom s d p.2
  | .ro _ => true
  | _ => false
def endOk (P : Program) (ops : List Oper) (s : St) : Bool := (needs P ops).all (aparts s)
def joins : Code → Bool | .cond .. => true | .seq _ b => joins b | .block _ _ => true | _ => false
def evC {β : Type} (thr : Value → Option β) : Code → Nat → List (Nat × Nat) → St → KC β → Option β
  | .skip, _, _, s, k => k .normal s
  | .region _ ops dr, _, _, s, k => evOps P np dr takes call (fun v => bif !dr || thrOk ops.toList then thr v else none) ops.toList (ops.size + 1) ops.toList s (fun s => bif !dr || endOk P ops.toList s then k .normal s else none)
  | .seq a b, out, ex, s, k => evC thr a (liveC ret b out ex) ex s (fun x s => match x with
    | .normal => evC thr b out ex (bif joins a then s.prune np (liveC ret b out ex) else s) k
    | .exit id => k (.exit id) s
    | .ret => k .ret s)
  | .cond c a b, out, ex, s, k => (match s.ev c with
    | .v (.bool c) => bif c then evC thr a out ex s k else evC thr b out ex s k
    | _ => none)
  | .block id c, out, ex, s, k => evC thr c out ((id, out) :: ex) s (fun x s => match x with
    | .exit j => k (bif j == id then .normal else .exit j) s
    | .normal => k .normal s
    | .ret => k .ret s)
  | .loop c, out, ex, s, k => iter (fun s k => evC thr c (liveC ret (.loop c) out ex) ex s (fun x s => match x with
    | .normal => k .normal (s.prune np (liveC ret (.loop c) out ex))
    | .exit id => k (.exit id) s
    | .ret => k .ret s)) n (s.prune np (liveC ret (.loop c) out ex)) k
  | .exit id, _, _, s, k => k (.exit id) s
  | .ret, _, _, s, k => k .ret s
  | _, _, _, _, _ => none
end
def retMask (rs : List ResultVar) : Nat := rs.foldl (fun m r => m ||| (match r with | .tmp t => 2 ^ t | .cell t _ => 2 ^ t)) 0
def claim (u : List Nat) (x : AV) : List Nat × AV := match x with
  | .row (some n) E l => bif u.contains n || !Nat.blt n 1024 then (u, .row none E l) else (n :: u, .row (some n) E l)
  | .agg cs => (u, .agg (cs.map AV.bare))
  | .tup _ => (u, .dead)
  | .box _ _ => (u, .dead)
  | .fn _ _ _ => (u, .dead)
  | x => (u, x)
def claimL : List Nat → List AV → List AV
  | _, [] => []
  | u, x :: r => (claim u x).2 :: claimL (claim u x).1 r
def claimA (sh : List Bool) : List Nat → List AV → List AV
  | _, [] => []
  | u, c :: r => (match c with
    | .row (some n) E l => bif u.contains n || (!(Nat.blt n 1024) && sh.getD (n / 1024 - 1) false) then .row none E l :: claimA sh u r else .row (some n) E l :: claimA sh (n :: u) r
    | c => c.bare :: claimA sh u r)
def claimR (sh : List Bool) (l : List AV) : AV := match l with
  | [.agg cs] => .agg (claimA sh [] cs)
  | l => (match claimL [] l with | [x] => x | l => .tup l)
def claimB : Nat → Bx → Bx → Bx
  | i, some _ :: bx, some cs :: r => some (giveL i i 0 cs) :: claimB (i + 1) bx r
  | i, _ :: bx, _ :: r => none :: claimB (i + 1) bx r
  | _, _, _ => []
def resVal (P : Program) (s : St) : ResultVar → Option AV
  | .tmp t => some (s.get t)
  | .cell t T => (s.cellsOf (s.get t)).bind fun cs => partAV P T cs 0
def resVals (P : Program) (s : St) : List ResultVar → Option (List AV)
  | [] => some []
  | r :: rs => (resVal P s r).bind fun x => (resVals P s rs).bind fun l => some (x :: l)
def AV.frz : AV → AV | .row _ E l => .row none E l | .v x => .v x | _ => .dead
def keptB : List Bool → Bx → Bool
  | true :: bx, o :: r => o.isSome && keptB bx r
  | false :: bx, _ :: r => keptB bx r
  | [], _ => true
  | _, [] => false
def frzX (sh : List Bool) (s : St) : AV → AV
  | .box d off => (match s.boxAt d with
    | some cs => bif !(sh.getD d false) && keptB sh s.b then .ro ((cs.drop off).map AV.frz) else .box d off
    | none => .box d off)
  | x => x
def outOf (P : Program) (fn : Func) (bx : Bx) (s : St) : Option Out := (resVals P s fn.results.toList).bind fun l =>
  bif Nat.ble bx.length s.b.length then some (.ret (claimR (bx.map Option.isSome) (l.map (frzX (bx.map Option.isSome) s))) (claimB 0 bx s.b)) else none
def entry (fn : Func) (xs : List AV) (bx : Bx) : St := ⟨xs ++ List.replicate (fn.ntmps - xs.length) .dead, bx ++ List.replicate (fn.ntmps - bx.length) none⟩
def evBody (P : Program) (takes : FuncId → Option Nat) (call : CallF) (n : Nat) (fn : Func) (xs : List AV) (bx : Bx) : Option Out := match fn.body with
  | some c => bif Nat.beq xs.length fn.params.size && Nat.beq bx.length fn.params.size && Nat.ble fn.params.size fn.ntmps then evC P fn.params.size takes call (retMask fn.results.toList) n (fun v => some (.thr v)) c (retMask fn.results.toList) [] (entry fn xs bx) (fun x s => match x with
    | .normal => outOf P fn bx s
    | .ret => outOf P fn bx s
    | .exit _ => none) else none
  | none => none
end Go.Proofs.YtckdgcpomkefpaaDoor.En
end
section
namespace Go.Proofs.YtckdgcpomkefpaaDoor.En
open Go
def LGn : Nat := max 0 3 + 1
structure GW (w : World) : Prop where
  pow : Lib.TabIs Tryd.prog w "internal/strconv.uint64pow10" .u64 Lib.pow10Tab
  len : ∃ m, w.cell? ⟨3, 0, none⟩ = some (.int .i64 m)
  size : LGn ≤ w.heap.size
theorem gPow : Tryd.prog.globalNamed "internal/strconv.uint64pow10" = some 0 := by kernel_rfl
theorem GW.keep {w w' : World} (h : GW w) (hb : ∀ β, β < LGn → w'.heap[β]? = w.heap[β]?) : GW w' := by
  obtain ⟨h1, ⟨m, h2⟩, h3⟩ := h
  refine ⟨?_, ⟨m, ?_⟩, ?_⟩
  · unfold Lib.TabIs World.var? at h1 ⊢
    simp only [gPow, Option.bind_some] at h1 ⊢
    rw [hb _ (by decide)]
    exact h1
  · rw [← h2]
    exact World.cell?_of_block (hb _ (show 3 < LGn by decide))
  · have hl : LGn - 1 < w.heap.size := Nat.lt_of_lt_of_le (by decide) h3
    have h4 : w.heap[LGn - 1]? = some w.heap[LGn - 1] := Array.getElem?_eq_getElem hl
    have h5 := hb (LGn - 1) (by decide)
    rw [h4] at h5
    have := (Array.getElem?_eq_some_iff.1 h5).1
    have : LGn = LGn - 1 + 1 := by decide
    omega
end Go.Proofs.YtckdgcpomkefpaaDoor.En
end
section
set_option linter.unusedVariables false
set_option linter.unusedSimpArgs false
namespace Go.Proofs.YtckdgcpomkefpaaDoor.En
open Go
structure Gh where
  G : Nat → Nat → Prop
  tk : Nat → Option (Value × TypeId)
  bx : Nat → Option Nat
def scal (k : CK) (d : Dat) (v : Value) : Prop := match k with
  | .int k => v = .int k d.toI
  | .bool => v = .bool d.toB
  | .str => v = .string d.toS
  | _ => True
inductive RepRow (P : Program) (G : Nat → Nat → Prop) (w : World) : TypeId → List Dat → Value → Prop
  | nil (E : TypeId) (A : Option Addr) (cap : Nat) : RepRow P G w E [] (.slice A 0 cap)
  | mk (E : TypeId) (l : List Dat) (β off cap : Nat) (ks : List CK) (vals : Nat → Nat → Value) (hk : kinds P E = some ks) (hlen : l.length ≤ cap)
      (hc : ∀ i j, i < l.length → j < ks.length → G β (off + i * ks.length + j) ∧ w.cell? ⟨β, off + i * ks.length + j, none⟩ = some (vals i j) ∧ (vals i j).oneCell' = true)
      (hs : ∀ i j d k, l[i]? = some d → ks[j]? = some k → scal k (d.at j) (vals i j))
      (hr : ∀ i j d E', l[i]? = some d → ks[j]? = some (.row E') → RepRow P G w E' (d.at j).toL (vals i j)) : RepRow P G w E l (.slice (some ⟨β, off, none⟩) l.length cap)
theorem RepRow.mono {P : Program} {G G' : Nat → Nat → Prop} {w w' : World} {E : TypeId} {l : List Dat} {v : Value} (h : RepRow P G w E l v)
    (hG : ∀ β j, G β j → G' β j ∧ w'.cell? ⟨β, j, none⟩ = w.cell? ⟨β, j, none⟩) : RepRow P G' w' E l v := by
  induction h with
  | nil E A cap => exact .nil E A cap
  | mk E l β off cap ks vals hk hlen hc hs hr ih =>
    exact .mk E l β off cap ks vals hk hlen (fun i j hi hj => ⟨(hG _ _ (hc i j hi hj).1).1, ((hG _ _ (hc i j hi hj).1).2).trans (hc i j hi hj).2.1, (hc i j hi hj).2.2⟩) hs ih
theorem RepRow.slice {P : Program} {G : Nat → Nat → Prop} {w : World} {E : TypeId} {l : List Dat} {v : Value} (h : RepRow P G w E l v) : ∃ A cap, v = .slice A l.length cap := by
  cases h with
  | nil E A cap => exact ⟨A, cap, rfl⟩
  | mk E l β off cap ks vals hk hlen hc hs hr => exact ⟨_, _, rfl⟩
theorem RepRow.one {P : Program} {G : Nat → Nat → Prop} {w : World} {E : TypeId} {l : List Dat} {v : Value} (h : RepRow P G w E l v) : v.oneCell' = true := by
  obtain ⟨A, cap, rfl⟩ := h.slice; rfl
section
variable (P : Program) (g : Gh) (w : World)
def Rep0 : AV → Value → Prop
  | .v x, v => v = x ∧ x.oneCell' = true
  | .row t E l, v => t = none ∧ RepRow P g.G w E l v
  | .dead, v => v.oneCell' = true
  | _, _ => False
def Rep1 : AV → Value → Prop
  | .v x, v => v = x ∧ x.oneCell' = true
  | .box d off, v => ∃ β, g.bx d = some β ∧ v = .pointer (some ⟨β, off, none⟩)
  | .dead, v => v.oneCell' = true
  | _, _ => False
def RepC : AV → Value → Prop
  | .v x, v => v = x ∧ x.oneCell' = true
  | .row t E l, v => RepRow P g.G w E l v ∧ ∀ n, t = some n → g.tk n = some (v, E)
  | .box d off, v => ∃ β, g.bx d = some β ∧ v = .pointer (some ⟨β, off, none⟩)
  | .ro cs, v => ∃ β o, v = .pointer (some ⟨β, o, none⟩) ∧ ∀ j c, cs[j]? = some c → ∃ u, w.cell? ⟨β, o + j, none⟩ = some u ∧ g.G β (o + j) ∧ Rep0 P g w c u
  | .fn f xs cs, v => ∃ us ws : Array Value, v = .func (.func f) us ws ∧ us.size = xs.length ∧ ws.size = cs.length ∧ (∀ (j : Nat) c, xs[j]? = some c → ∃ u, us[j]? = some u ∧ Rep1 g c u) ∧ ∀ (j : Nat) c, cs[j]? = some c → ∃ u, ws[j]? = some u ∧ Rep1 g c u
  | .dead, v => v.oneCell' = true
  | _, _ => False
def RepB (T : TypeId) (β j : Nat) : AV → Value → Prop
  | .self T', u => T' = T ∧ (u = .pointer none ∨ u = .pointer (some ⟨β, j, none⟩))
  | c, u => RepC P g w c u
def RepT : AV → Value → Prop
  | .agg cs, v => ∃ vs : Array Value, v = .agg vs ∧ vs.size = cs.length ∧ ∀ (j : Nat) c, cs[j]? = some c → ∃ u, vs[j]? = some u ∧ RepC P g w c u
  | .dead, _ => True
  | x, v => RepC P g w x v
def RepS : AV → Value → Prop
  | .tup xs, v => ∃ vs : Array Value, v = .tuple vs ∧ vs.size = xs.length ∧ ∀ (j : Nat) x, xs[j]? = some x → ∃ u, vs[j]? = some u ∧ RepT P g w x u
  | x, v => RepT P g w x v
def fzOk (fz : Nat × Nat) (n : Nat) : Prop := fz.1 = fz.2 ∨ n ≤ fz.1
def Own (v : Value) (E : TypeId) : Prop := v = .slice none 0 0 ∨ ∃ (β n cap : Nat) (us : Array Value) (ks : List CK) (fz : Nat × Nat), v = .slice (some ⟨β, 0, none⟩) n cap ∧ w.heap[β]? = some (.cells us E fz) ∧
  kinds P E = some ks ∧ n ≤ cap ∧ cap ≤ maxLen ∧ us.size = cap * ks.length ∧ (∀ j, n * ks.length ≤ j → ¬ g.G β j) ∧ fzOk fz us.size
structure Mem (b : Bx) : Prop where
  gsz : ∀ β j, g.G β j → β < w.heap.size
  box : ∀ d cs, b[d]? = some (some cs) → ∃ (β : Nat) (us : Array Value) (T : TypeId), g.bx d = some β ∧ w.heap[β]? = some (.cells us T (0, 0)) ∧ us.size = cs.length ∧
    (∀ j, ¬ g.G β j) ∧ ∀ (j : Nat) c, cs[j]? = some c → ∃ u, us[j]? = some u ∧ RepB P g w T β j c u
  apart : ∀ d d' β cs cs', b[d]? = some (some cs) → b[d']? = some (some cs') → g.bx d = some β → g.bx d' = some β → d = d'
  own : ∀ n v E, g.tk n = some (v, E) → Own P g w v E
  tkap : ∀ n m v v' E E' β, g.tk n = some (v, E) → g.tk m = some (v', E') → v.ownBlock = some β → v'.ownBlock = some β → n = m
  tkbx : ∀ n v E β d cs, g.tk n = some (v, E) → v.ownBlock = some β → b[d]? = some (some cs) → g.bx d = some β → False
end
structure Fr (T : Nat → Nat → Prop) (w w' : World) : Prop where
  os : w'.os = w.os
  tape : w'.tape = w.tape
  output : w'.output = w.output
  size : w.heap.size ≤ w'.heap.size
  blk : ∀ β o, w.heap[β]? = some o → w'.heap[β]? = some o ∨ ∃ c E fz c' fz', o = .cells c E fz ∧ w'.heap[β]? = some (.cells c' E fz') ∧ c'.size = c.size ∧ (∀ j, ¬ T β j → c'[j]? = c[j]?) ∧ ((∀ j, ¬ T β j) → fz' = fz)
theorem Fr.refl (T : Nat → Nat → Prop) (w : World) : Fr T w w := ⟨rfl, rfl, rfl, Nat.le_refl _, fun _ _ h => .inl h⟩
theorem Fr.trans {T T' T'' : Nat → Nat → Prop} {a b c : World} (h : Fr T a b) (k : Fr T' b c) (h1 : ∀ β j, β < a.heap.size → T β j → T'' β j) (h2 : ∀ β j, β < a.heap.size → T' β j → T'' β j) : Fr T'' a c := by
  refine ⟨k.os.trans h.os, k.tape.trans h.tape, k.output.trans h.output, Nat.le_trans h.size k.size, fun β o ho => ?_⟩
  have hlt : β < a.heap.size := (Array.getElem?_eq_some_iff.1 ho).1
  rcases h.blk β o ho with e | ⟨c1, E, fz, c1', fz1, rfl, e, hsz, hc, hz⟩
  · rcases k.blk β o e with e' | ⟨c2, E, fz, c2', fz2, rfl, e', hsz', hc', hz'⟩
    · exact .inl e'
    · exact .inr ⟨c2, E, fz, c2', fz2, rfl, e', hsz', fun j hj => hc' j fun t => hj (h2 β j hlt t), fun hn => hz' fun j t => hn j (h2 β j hlt t)⟩
  · rcases k.blk β _ e with e' | ⟨c2, E', fz', c2', fz2, e2, e', hsz', hc', hz'⟩
    · exact .inr ⟨c1, E, fz, c1', fz1, rfl, e', hsz, fun j hj => hc j fun t => hj (h1 β j hlt t), fun hn => hz fun j t => hn j (h1 β j hlt t)⟩
    · injection e2 with e2 e3 e4
      subst e2 e3 e4
      exact .inr ⟨c1, E, fz, c2', fz2, rfl, e', hsz'.trans hsz, fun j hj => (hc' j fun t => hj (h2 β j hlt t)).trans (hc j fun t => hj (h1 β j hlt t)), fun hn => (hz' fun j t => hn j (h2 β j hlt t)).trans (hz fun j t => hn j (h1 β j hlt t))⟩
theorem Fr.mono {T T' : Nat → Nat → Prop} {a b : World} (h : Fr T a b) (h1 : ∀ β j, β < a.heap.size → T β j → T' β j) : Fr T' a b := h.trans (Fr.refl T b) h1 h1
theorem Fr.cell {T : Nat → Nat → Prop} {a b : World} (h : Fr T a b) {β j : Nat} (hlt : β < a.heap.size) (hT : ¬ T β j) : b.cell? ⟨β, j, none⟩ = a.cell? ⟨β, j, none⟩ := by
  obtain ⟨o, ho⟩ : ∃ o, a.heap[β]? = some o := ⟨a.heap[β], Array.getElem?_eq_getElem hlt⟩
  rcases h.blk β o ho with e | ⟨c1, E, fz, c1', fz1, rfl, e, hsz, hc, hz⟩
  · exact World.cell?_of_block (a := ⟨β, j, none⟩) (by rw [e, ho])
  · simp [World.cell?, ho, e, hc j hT]
theorem Fr.same {T : Nat → Nat → Prop} {a b : World} (h : Fr T a b) {β : Nat} (hlt : β < a.heap.size) (hT : ∀ j, ¬ T β j) : b.heap[β]? = a.heap[β]? := by
  obtain ⟨o, ho⟩ : ∃ o, a.heap[β]? = some o := ⟨a.heap[β], Array.getElem?_eq_getElem hlt⟩
  rcases h.blk β o ho with e | ⟨c1, E, fz, c1', fz1, rfl, e, hsz, hc, hz⟩
  · rw [e, ho]
  · have : c1' = c1 := Array.ext_getElem? fun j => hc j (hT j)
    rw [e, ho, this, hz hT]
theorem Fr.below {w w' : World} (h : Fr (fun _ _ => False) w w') : Go.RowKit.Below w.heap.size w w' :=
  ⟨h.os, h.tape, h.output, h.size, fun k hk => h.same hk fun _ t => t⟩
theorem Fr.of_below {w w' : World} {B : Nat} (h : Go.RowKit.Below B w w') (hB : w.heap.size ≤ B) : Fr (fun _ _ => False) w w' :=
  ⟨h.os, h.tape, h.output, h.size, fun β o ho => .inl (by rw [h.block β (Nat.lt_of_lt_of_le (Array.getElem?_eq_some_iff.1 ho).1 hB)]; exact ho)⟩
theorem Fr.alloc (w : World) (o : Obj) : Fr (fun _ _ => False) w (w.alloc o) := Fr.of_below ((Go.RowKit.Below.refl _ _).alloc (Nat.le_refl _) _) (Nat.le_refl _)
theorem Fr.drew (w : World) : Fr (fun _ _ => False) w w.drew := Fr.of_below (Go.RowKit.Below.refl w.heap.size w).drew (Nat.le_refl _)
structure Fx where
  w0 : World
  G : Nat → Nat → Prop
  TB : Nat → Prop
  BB : Nat → Prop
  bx : Nat → Option Nat
  np : Nat
  ds : List Deferred
  lg : ∀ β, β < LGn → (∀ j, G β j) ∧ ¬ BB β
  lp : GW w0
def Fx.T (F : Fx) (β j : Nat) : Prop := F.BB β ∨ (F.TB β ∧ ¬ F.G β j)
structure Inv (P : Program) (F : Fx) (g : Gh) (s : St) (a : Act) (w : World) : Prop where
  mem : Mem P g w s.b
  blen : s.b.length = s.t.length
  len : a.tmps.size = s.t.length
  tm : ∀ (i : Nat) x, s.t[i]? = some x → ∃ v, a.tmps[i]? = some v ∧ RepS P g w x v
  dfr : a.defers = F.ds
  fr : Fr F.T F.w0 w
  g0 : ∀ β j, F.G β j → g.G β j
  gfr : ∀ β j, g.G β j → β < F.w0.heap.size → F.G β j ∨ F.TB β
  tb : ∀ n v E β, g.tk n = some (v, E) → v.ownBlock = some β → F.w0.heap.size ≤ β ∨ F.TB β
  bb : ∀ d cs β, s.b[d]? = some (some cs) → g.bx d = some β → F.w0.heap.size ≤ β ∨ F.BB β
  pbx : ∀ i, i < F.np → F.bx i ≠ none → g.bx i = F.bx i
structure Laid (g : Gh) (w : World) : Prop where
  G : ∀ β, β < LGn → ∀ j, g.G β j
  P : GW w
theorem Inv.laid {P : Program} {F : Fx} {g : Gh} {s : St} {a : Act} {w : World} (h : Inv P F g s a w) : Laid g w :=
  ⟨fun β hβ j => h.g0 β j ((F.lg β hβ).1 j), F.lp.keep fun β hβ => h.fr.same (Nat.lt_of_lt_of_le hβ F.lp.size) fun j t => t.elim (F.lg β hβ).2 fun q => q.2 ((F.lg β hβ).1 j)⟩
section
variable {P : Program} {g g' : Gh} {w w' : World}
structure Gh.Le (g g' : Gh) (w w' : World) : Prop where
  G : ∀ β j, g.G β j → g'.G β j ∧ w'.cell? ⟨β, j, none⟩ = w.cell? ⟨β, j, none⟩
  tk : ∀ n v, g.tk n = some v → g'.tk n = some v
  bx : ∀ d β, g.bx d = some β → g'.bx d = some β
theorem Rep0.mono (h : g.Le g' w w') {x : AV} {v : Value} (hx : Rep0 P g w x v) : Rep0 P g' w' x v := by
  cases x <;> simp only [Rep0] at hx ⊢ <;> first | exact hx | exact ⟨hx.1, hx.2.mono h.G⟩
theorem Rep1.mono (h : g.Le g' w w') {x : AV} {v : Value} (hx : Rep1 g x v) : Rep1 g' x v := by
  cases x <;> simp only [Rep1] at hx ⊢
  case v => exact hx
  case box => obtain ⟨β, hb, hv⟩ := hx; exact ⟨β, h.bx _ _ hb, hv⟩
  case dead => exact hx
theorem RepC.mono (h : g.Le g' w w') {x : AV} {v : Value} (hx : RepC P g w x v) : RepC P g' w' x v := by
  cases x <;> simp only [RepC] at hx ⊢
  case v => exact hx
  case row => exact ⟨hx.1.mono h.G, fun n hn => h.tk _ _ (hx.2 n hn)⟩
  case box => obtain ⟨β, hb, hv⟩ := hx; exact ⟨β, h.bx _ _ hb, hv⟩
  case ro =>
    obtain ⟨β, o, hv, hc⟩ := hx
    refine ⟨β, o, hv, fun j c hj => ?_⟩
    obtain ⟨u, h1, h2, h3⟩ := hc j c hj
    exact ⟨u, ((h.G _ _ h2).2).trans h1, (h.G _ _ h2).1, h3.mono h⟩
  case fn =>
    obtain ⟨us, ws, e1, e2, e3, e4, e5⟩ := hx
    exact ⟨us, ws, e1, e2, e3, fun j c hj => let ⟨u, a, b⟩ := e4 j c hj; ⟨u, a, b.mono h⟩, fun j c hj => let ⟨u, a, b⟩ := e5 j c hj; ⟨u, a, b.mono h⟩⟩
  case dead => exact hx
theorem RepB.eq {T : TypeId} {β j : Nat} {x : AV} {v : Value} (h : ∀ T', x ≠ .self T') : RepB P g w T β j x v = RepC P g w x v := by
  cases x <;> first | rfl | exact absurd rfl (h _)
theorem RepT.eq {x : AV} {v : Value} (h : ∀ cs, x ≠ .agg cs) (h2 : x ≠ .dead) : RepT P g w x v = RepC P g w x v := by
  cases x <;> first | rfl | exact absurd rfl (h _) | exact absurd rfl h2
theorem RepS.eq {x : AV} {v : Value} (h : ∀ cs, x ≠ .tup cs) : RepS P g w x v = RepT P g w x v := by
  cases x <;> first | rfl | exact absurd rfl (h _)
theorem RepB.mono (h : g.Le g' w w') {T : TypeId} {β j : Nat} {x : AV} {v : Value} (hx : RepB P g w T β j x v) : RepB P g' w' T β j x v := by
  by_cases hs : ∃ T', x = .self T'
  · obtain ⟨T', rfl⟩ := hs; exact hx
  · rw [RepB.eq (fun T' e => hs ⟨T', e⟩)] at hx ⊢; exact hx.mono h
theorem RepT.mono (h : g.Le g' w w') {x : AV} {v : Value} (hx : RepT P g w x v) : RepT P g' w' x v := by
  by_cases hd : x = .dead
  · subst hd; exact trivial
  by_cases ha : ∃ cs, x = .agg cs
  · obtain ⟨cs, rfl⟩ := ha
    obtain ⟨vs, h1, h2, h3⟩ := hx
    exact ⟨vs, h1, h2, fun j c hj => let ⟨u, a, b⟩ := h3 j c hj; ⟨u, a, b.mono h⟩⟩
  · rw [RepT.eq (fun cs e => ha ⟨cs, e⟩) hd] at hx ⊢; exact hx.mono h
theorem RepS.mono (h : g.Le g' w w') {x : AV} {v : Value} (hx : RepS P g w x v) : RepS P g' w' x v := by
  by_cases ha : ∃ cs, x = .tup cs
  · obtain ⟨cs, rfl⟩ := ha
    obtain ⟨vs, h1, h2, h3⟩ := hx
    exact ⟨vs, h1, h2, fun j c hj => let ⟨u, a, b⟩ := h3 j c hj; ⟨u, a, b.mono h⟩⟩
  · rw [RepS.eq (fun cs e => ha ⟨cs, e⟩)] at hx ⊢; exact hx.mono h
theorem RepC.one {x : AV} {v : Value} (hx : RepC P g w x v) : v.oneCell' = true := by
  cases x <;> simp only [RepC] at hx
  case v => rw [hx.1]; exact hx.2
  case row => exact hx.1.one
  case box => obtain ⟨β, _, rfl⟩ := hx; rfl
  case ro => obtain ⟨β, o, rfl, _⟩ := hx; rfl
  case fn => obtain ⟨us, ws, rfl, _⟩ := hx; rfl
  case dead => exact hx
theorem RepC.T {x : AV} {v : Value} (hx : RepC P g w x v) : RepT P g w x v := by
  cases x <;> first | exact trivial | exact hx.elim | skip
  all_goals (rw [RepT.eq (fun cs e => by cases e) (fun e => by cases e)]; exact hx)
theorem RepT.S {x : AV} {v : Value} (hx : RepT P g w x v) : RepS P g w x v := by
  by_cases ha : ∃ cs, x = .tup cs
  · obtain ⟨cs, rfl⟩ := ha
    exact False.elim (show RepC P g w (.tup cs) v from hx)
  · rw [RepS.eq (fun cs e => ha ⟨cs, e⟩)]; exact hx
theorem RepC.S {x : AV} {v : Value} (hx : RepC P g w x v) : RepS P g w x v := hx.T.S
theorem RepB.of {T : TypeId} {β j : Nat} {x : AV} {v : Value} (hx : RepC P g w x v) : RepB P g w T β j x v := by
  by_cases hs : ∃ T', x = .self T'
  · obtain ⟨T', rfl⟩ := hs; exact hx.elim
  · rw [RepB.eq (fun T' e => hs ⟨T', e⟩)]; exact hx
theorem RepS.one {x : AV} {v : Value} (hx : RepS P g w x v) (h : x.one = true) : RepC P g w x v := by
  rw [RepS.eq (fun cs e => by subst e; simp [AV.one] at h), RepT.eq (fun cs e => by subst e; simp [AV.one] at h) (fun e => by subst e; simp [AV.one] at h)] at hx
  exact hx
end
end Go.Proofs.YtckdgcpomkefpaaDoor.En
end
section
set_option linter.unusedVariables false
set_option linter.unusedSimpArgs false
namespace Go.Proofs.YtckdgcpomkefpaaDoor.En
open Go
section
variable {P : Program} {F : Fx} {g : Gh} {s : St} {a : Act} {w : World}
theorem Mem.wk {b b' : Bx} {g' : Gh} (h : Mem P g w b) (hG : g'.G = g.G)
    (hb : ∀ (d : Nat) cs', b'[d]? = some (some cs') → ∃ cs, b[d]? = some (some cs) ∧ cs'.length = cs.length ∧ g'.bx d = g.bx d ∧ ∀ (j : Nat) c', cs'[j]? = some c' → ∃ c, cs[j]? = some c ∧ ∀ T β u, RepB P g w T β j c u → RepB P g' w T β j c' u)
    (ρ : Nat → Nat) (htk : ∀ n v, g'.tk n = some v → g.tk (ρ n) = some v) (hρ : ∀ n m, g'.tk n ≠ none → g'.tk m ≠ none → ρ n = ρ m → n = m) : Mem P g' w b' := by
  refine ⟨fun β j hj => h.gsz β j (hG ▸ hj), fun d cs' hd => ?_, fun d d' β cs cs' hd hd' hβ hβ' => ?_, fun n v E hn => ?_, fun n m v v' E E' β hn hm hv hv' => ?_, fun n v E β d cs hn hv hd hβ => ?_⟩
  · obtain ⟨cs, h1, h2, h3, h4⟩ := hb d cs' hd
    obtain ⟨β, us, T, e1, e2, e3, e4, e5⟩ := h.box d cs h1
    refine ⟨β, us, T, h3.trans e1, e2, by rw [e3, h2], fun j hj => e4 j (hG ▸ hj), fun j c' hj => ?_⟩
    obtain ⟨c, hc, hcc⟩ := h4 j c' hj
    obtain ⟨u, hu, hr⟩ := e5 j c hc
    exact ⟨u, hu, hcc T β u hr⟩
  · obtain ⟨c1, h1, _, h3, _⟩ := hb d cs hd
    obtain ⟨c2, h1', _, h3', _⟩ := hb d' cs' hd'
    exact h.apart d d' β c1 c2 h1 h1' (h3 ▸ hβ) (h3' ▸ hβ')
  · rcases h.own _ v E (htk n _ hn) with e | ⟨β, k, cap, us, ks, fz, e1, e2, e3, e4, e5, e6, e7, e8⟩
    · exact .inl e
    · exact .inr ⟨β, k, cap, us, ks, fz, e1, e2, e3, e4, e5, e6, fun j hj hg => e7 j hj (hG ▸ hg), e8⟩
  · exact hρ n m (by rw [hn]; simp) (by rw [hm]; simp) (h.tkap _ _ v v' E E' β (htk n _ hn) (htk m _ hm) hv hv')
  · obtain ⟨c1, h1, _, h3, _⟩ := hb d cs hd
    exact h.tkbx _ v E β d c1 (htk n _ hn) hv h1 (h3 ▸ hβ)
theorem Inv.wk {g' : Gh} {s' : St} (h : Inv P F g s a w) (hG : g'.G = g.G) (htl : s'.t.length = s.t.length) (hbl : s'.b.length = s.b.length)
    (ht : ∀ (i : Nat) x', s'.t[i]? = some x' → ∃ x, s.t[i]? = some x ∧ ∀ v, RepS P g w x v → RepS P g' w x' v)
    (hb : ∀ (d : Nat) cs', s'.b[d]? = some (some cs') → ∃ cs, s.b[d]? = some (some cs) ∧ cs'.length = cs.length ∧ g'.bx d = g.bx d ∧ ∀ (j : Nat) c', cs'[j]? = some c' → ∃ c, cs[j]? = some c ∧ ∀ T β u, RepB P g w T β j c u → RepB P g' w T β j c' u)
    (ρ : Nat → Nat) (htk : ∀ n v, g'.tk n = some v → g.tk (ρ n) = some v) (hρ : ∀ n m, g'.tk n ≠ none → g'.tk m ≠ none → ρ n = ρ m → n = m)
    (hp : ∀ i, i < F.np → F.bx i ≠ none → g'.bx i = g.bx i) : Inv P F g' s' a w := by
  refine ⟨h.mem.wk hG hb ρ htk hρ, by rw [hbl, htl, h.blen], by rw [htl, h.len], fun i x' hi => ?_, h.dfr, h.fr, fun β j hj => hG ▸ h.g0 β j hj, fun β j hj => h.gfr β j (hG ▸ hj), fun n v E β hn => h.tb _ v E β (htk n _ hn), fun d cs β hd hβ => ?_, fun i hi hn => (hp i hi hn).trans (h.pbx i hi hn)⟩
  · obtain ⟨x, hx, hv⟩ := ht i x' hi
    obtain ⟨v, h1, h2⟩ := h.tm i x hx
    exact ⟨v, h1, hv v h2⟩
  · obtain ⟨c1, h1, _, h3, _⟩ := hb d cs hd
    exact h.bb d c1 β h1 (h3 ▸ hβ)
def TokOk (f : Option Nat → Option Nat) (g g' : Gh) : Prop := f none = none ∧ g'.G = g.G ∧ g'.bx = g.bx ∧ ∀ k n v, f (some k) = some n → g.tk k = some v → g'.tk n = some v
variable {f : Option Nat → Option Nat} {g' : Gh}
theorem TokOk.row (hf : TokOk f g g') {E : TypeId} {l : List Dat} {t : Option Nat} {v : Value} (h : RepC P g w (.row t E l) v) : RepC P g' w (.row (f t) E l) v := by
  obtain ⟨h1, h2⟩ := h
  obtain ⟨e1, e2, e3, e4⟩ := hf
  refine ⟨e2 ▸ h1, fun n hn => ?_⟩
  cases t with
  | none => rw [e1] at hn; cases hn
  | some k => exact e4 k n _ hn (h2 k rfl)
theorem TokOk.ro (hf : TokOk f g g') {x : AV} {v : Value} (h : Rep0 P g w x v) : Rep0 P g' w x v := by
  obtain ⟨e1, e2, e3, e4⟩ := hf
  cases x <;> simp only [Rep0] at h ⊢ <;> first | exact h | exact ⟨h.1, e2 ▸ h.2⟩
theorem TokOk.held (hf : TokOk f g g') {x : AV} {v : Value} (h : Rep1 g x v) : Rep1 g' x v := by
  obtain ⟨e1, e2, e3, e4⟩ := hf
  cases x <;> simp only [Rep1] at h ⊢ <;> first | exact h | exact e3 ▸ h
theorem TokOk.C (hf : TokOk f g g') {x : AV} {v : Value} (h : RepC P g w x v) : RepC P g' w (x.tok1 f) v := by
  cases x with
  | row t E l => exact hf.row h
  | box d off => obtain ⟨β, hb, hv⟩ := h; exact ⟨β, by rw [hf.2.2.1]; exact hb, hv⟩
  | ro cs =>
    obtain ⟨β, o, hv, hc⟩ := h
    exact ⟨β, o, hv, fun j c hj => let ⟨u, h1, h2, h3⟩ := hc j c hj; ⟨u, h1, by rw [hf.2.1]; exact h2, hf.ro h3⟩⟩
  | v x => exact h
  | dead => exact h
  | agg cs => exact h
  | tup cs => exact h
  | self => exact h
  | fn e xs cs =>
    obtain ⟨us, ws, e0, e2, e3, e4, e5⟩ := h
    exact ⟨us, ws, e0, e2, e3, fun j c hj => let ⟨u, a, b⟩ := e4 j c hj; ⟨u, a, hf.held b⟩, fun j c hj => let ⟨u, a, b⟩ := e5 j c hj; ⟨u, a, hf.held b⟩⟩
theorem TokOk.B (hf : TokOk f g g') {T : TypeId} {β j : Nat} {x : AV} {v : Value} (h : RepB P g w T β j x v) : RepB P g' w T β j (x.tok1 f) v := by
  cases x with
  | self => exact h
  | row t E l => exact TokOk.C (P := P) (w := w) hf (x := .row t E l) h
  | box d off => exact TokOk.C (P := P) (w := w) hf (x := .box d off) h
  | ro cs => exact TokOk.C (P := P) (w := w) hf (x := .ro cs) h
  | v x => exact h
  | dead => exact h
  | agg cs => exact h
  | tup cs => exact h
  | fn e xs cs => exact TokOk.C (P := P) (w := w) hf (x := .fn e xs cs) h
theorem TokOk.T (hf : TokOk f g g') {x : AV} {v : Value} (h : RepT P g w x v) : RepT P g' w (x.tok2 f) v := by
  cases x with
  | agg cs =>
    obtain ⟨vs, h1, h2, h3⟩ := h
    refine ⟨vs, h1, by simp [h2], fun j c hj => ?_⟩
    rw [List.getElem?_map] at hj
    obtain ⟨c0, hc0, rfl⟩ := Option.map_eq_some_iff.1 hj
    obtain ⟨u, hu, hr⟩ := h3 j c0 hc0
    exact ⟨u, hu, hf.C hr⟩
  | dead => exact trivial
  | row t E l => exact TokOk.C (P := P) (w := w) hf (x := .row t E l) h
  | box d off => exact TokOk.C (P := P) (w := w) hf (x := .box d off) h
  | ro cs => exact TokOk.C (P := P) (w := w) hf (x := .ro cs) h
  | v x => exact h
  | tup cs => exact h
  | self => exact h
  | fn e xs cs => exact TokOk.C (P := P) (w := w) hf (x := .fn e xs cs) h
theorem TokOk.S (hf : TokOk f g g') {x : AV} {v : Value} (h : RepS P g w x v) : RepS P g' w (x.tok f) v := by
  cases x with
  | tup cs =>
    obtain ⟨vs, h1, h2, h3⟩ := h
    refine ⟨vs, h1, by simp [h2], fun j c hj => ?_⟩
    rw [List.getElem?_map] at hj
    obtain ⟨c0, hc0, rfl⟩ := Option.map_eq_some_iff.1 hj
    obtain ⟨u, hu, hr⟩ := h3 j c0 hc0
    exact ⟨u, hu, hf.T hr⟩
  | agg cs => exact TokOk.T (P := P) (w := w) hf (x := .agg cs) h
  | dead => exact trivial
  | row t E l => exact TokOk.C (P := P) (w := w) hf (x := .row t E l) h
  | box d off => exact TokOk.C (P := P) (w := w) hf (x := .box d off) h
  | ro cs => exact TokOk.C (P := P) (w := w) hf (x := .ro cs) h
  | v x => exact h
  | self => exact h
  | fn e xs cs => exact TokOk.C (P := P) (w := w) hf (x := .fn e xs cs) h
theorem Inv.tok (h : Inv P F g s a w) (hf : TokOk f g g') (ρ : Nat → Nat) (htk : ∀ n v, g'.tk n = some v → g.tk (ρ n) = some v) (hρ : ∀ n m, g'.tk n ≠ none → g'.tk m ≠ none → ρ n = ρ m → n = m) : Inv P F g' (s.tok f) a w := by
  refine h.wk hf.2.1 (by simp [St.tok]) (by simp [St.tok]) (fun i x' hi => ?_) (fun d cs' hd => ?_) ρ htk hρ (fun i _ _ => by rw [hf.2.2.1])
  · simp only [St.tok, List.getElem?_map] at hi
    obtain ⟨x, hx, rfl⟩ := Option.map_eq_some_iff.1 hi
    exact ⟨x, hx, fun v hv => hf.S hv⟩
  · simp only [St.tok, List.getElem?_map] at hd
    obtain ⟨o, ho, he⟩ := Option.map_eq_some_iff.1 hd
    obtain ⟨cs, rfl, rfl⟩ := Option.map_eq_some_iff.1 he
    refine ⟨cs, ho, by simp, by rw [hf.2.2.1], fun j c' hj => ?_⟩
    rw [List.getElem?_map] at hj
    obtain ⟨c, hc, rfl⟩ := Option.map_eq_some_iff.1 hj
    exact ⟨c, hc, fun T β u hu => hf.B hu⟩
def Kills (f : Option Nat → Option Nat) : Prop := f none = none ∧ ∀ n, f (some n) = some n ∨ f (some n) = none
def Gh.kills (g : Gh) (f : Option Nat → Option Nat) : Gh := { g with tk := fun n => match f (some n) with | some _ => g.tk n | none => none }
theorem Inv.kills (h : Inv P F g s a w) (hf : Kills f) : Inv P F (g.kills f) (s.tok f) a w := by
  refine h.tok (f := f) (g' := g.kills f) ⟨hf.1, rfl, rfl, fun k n v hk hv => ?_⟩ id (fun n v hn => ?_) (fun _ _ _ _ e => e)
  · rcases hf.2 k with e | e
    · rw [e] at hk; cases hk
      show (match f (some k) with | some _ => g.tk k | none => none) = _
      rw [e]; exact hv
    · rw [e] at hk; cases hk
  · have : (match f (some n) with | some _ => g.tk n | none => none) = some v := hn
    rcases hf.2 n with e | e
    · rw [e] at this; exact this
    · rw [e] at this; cases this
theorem kills_tk (hf : Kills f) {n : Nat} (h : f (some n) = none) : (g.kills f).tk n = none := by
  show (match f (some n) with | some _ => g.tk n | none => none) = none
  rw [h]
theorem kills_none {n : Nat} (h : g.tk n = none) : (g.kills f).tk n = none := by
  show (match f (some n) with | some _ => g.tk n | none => none) = none
  split <;> first | exact h | rfl
theorem killF_kills (n : Nat) : Kills (killF n) := ⟨rfl, fun m => by show (bif m == n then none else some m) = some m ∨ (bif m == n then none else some m) = none; cases (m == n) <;> simp⟩
theorem killF_self (n : Nat) : killF n (some n) = none := by simp [killF]
theorem killsF_kills (d lo hi : Nat) : Kills (killsF d lo hi) := ⟨rfl, fun m => by show (bif (m / 1024 == d + 1 && Nat.ble lo (m % 1024) && Nat.blt (m % 1024) hi) then none else some m) = some m ∨ (bif (m / 1024 == d + 1 && Nat.ble lo (m % 1024) && Nat.blt (m % 1024) hi) then none else some m) = none; cases (m / 1024 == d + 1 && Nat.ble lo (m % 1024) && Nat.blt (m % 1024) hi) <;> simp⟩
theorem sub_div (d j : Nat) (h : j < 1024) : sub d j / 1024 = d + 1 := by unfold sub; omega
theorem sub_mod (d j : Nat) (h : j < 1024) : sub d j % 1024 = j := by unfold sub; omega
theorem killsF_sub (d lo hi j : Nat) (h : j < 1024) (h1 : lo ≤ j) (h2 : j < hi) : killsF d lo hi (some (sub d j)) = none := by
  have e1 : Nat.ble lo j = true := Nat.ble_eq_true_of_le h1
  have e2 : Nat.blt j hi = true := Nat.ble_eq_true_of_le h2
  simp [killsF, sub_div d j h, sub_mod d j h, e1, e2]
def Gh.ren (g : Gh) (n m : Nat) : Gh := { g with tk := fun k => if k = m then g.tk n else if k = n then none else g.tk k }
theorem Inv.ren (h : Inv P F g s a w) {n m : Nat} (hm : g.tk m = none) (hnm : n ≠ m) : Inv P F (g.ren n m) (s.tok (renF n m)) a w := by
  refine h.tok (f := renF n m) (g' := g.ren n m) ⟨rfl, rfl, rfl, fun k j v hk hv => ?_⟩ (fun k => if k = m then n else k) (fun k v hk => ?_) (fun k j hk hj e => ?_)
  · show (if j = m then g.tk n else if j = n then none else g.tk j) = some v
    simp only [renF] at hk
    by_cases hkn : k = n
    · subst hkn
      simp at hk
      subst hk
      rw [if_pos rfl]; exact hv
    · have : (k == n) = false := by simpa using hkn
      rw [this] at hk
      simp at hk
      subst hk
      rw [if_neg (by rintro rfl; rw [hm] at hv; cases hv), if_neg hkn]; exact hv
  · have hk' : (if k = m then g.tk n else if k = n then none else g.tk k) = some v := hk
    by_cases e : k = m
    · rw [if_pos e] at hk'; simpa [e] using hk'
    · rw [if_neg e] at hk'
      split at hk'
      · cases hk'
      · simpa [e] using hk'
  · have hk' : (if k = m then g.tk n else if k = n then none else g.tk k) ≠ none := hk
    have hj' : (if j = m then g.tk n else if j = n then none else g.tk j) ≠ none := hj
    by_cases e1 : k = m <;> by_cases e2 : j = m
    · rw [e1, e2]
    · rw [if_neg e2] at hj'
      simp only [e1, e2, if_true, if_false] at e
      rw [← e, if_pos rfl] at hj'
      exact absurd rfl hj'
    · rw [if_neg e1] at hk'
      simp only [e1, e2, if_true, if_false] at e
      rw [e, if_pos rfl] at hk'
      exact absurd rfl hk'
    · simpa [e1, e2] using e
def Gh.nils (g : Gh) (N : Nat → Option TypeId) : Gh := { g with tk := fun n => match N n with | some E => some (.slice none 0 0, E) | none => g.tk n }
theorem Gh.nils_le {N : Nat → Option TypeId} (hN : ∀ n, N n ≠ none → g.tk n = none) : g.Le (g.nils N) w w :=
  ⟨fun β j hj => ⟨hj, rfl⟩, fun n v hn => by
    show (match N n with | some E => some (Value.slice none 0 0, E) | none => g.tk n) = some v
    cases hh : N n with
    | none => exact hn
    | some E => (rw [hN n (by rw [hh]; simp)] at hn; cases hn), fun d β h => h⟩
theorem nils_cases {N : Nat → Option TypeId} {n : Nat} {v : Value} {E : TypeId} (h : (g.nils N).tk n = some (v, E)) : (v = .slice none 0 0 ∧ N n = some E) ∨ (N n = none ∧ g.tk n = some (v, E)) := by
  have h' : (match N n with | some E => some (Value.slice none 0 0, E) | none => g.tk n) = some (v, E) := h
  cases hh : N n with
  | none => rw [hh] at h'; exact .inr ⟨rfl, h'⟩
  | some E' => rw [hh] at h'; simp at h'; exact .inl ⟨h'.1.symm, by rw [h'.2]⟩
theorem Mem.nils {b : Bx} {N : Nat → Option TypeId} (h : Mem P g w b) (hN : ∀ n, N n ≠ none → g.tk n = none) : Mem P (g.nils N) w b := by
  have hle := Gh.nils_le (w := w) hN
  refine ⟨h.gsz, fun d cs hd => ?_, h.apart, fun n v E hn => ?_, fun n m v v' E E' β hn hm hv hv' => ?_, fun n v E β d cs hn hv hd hβ => ?_⟩
  · obtain ⟨β, us, T, e1, e2, e3, e4, e5⟩ := h.box d cs hd
    exact ⟨β, us, T, e1, e2, e3, e4, fun j c hc => let ⟨u, hu, hr⟩ := e5 j c hc; ⟨u, hu, hr.mono hle⟩⟩
  · rcases nils_cases hn with ⟨rfl, _⟩ | ⟨_, hn⟩
    · exact .inl rfl
    · exact h.own n v E hn
  · rcases nils_cases hn with ⟨rfl, _⟩ | ⟨_, hn⟩
    · cases hv
    · rcases nils_cases hm with ⟨rfl, _⟩ | ⟨_, hm⟩
      · cases hv'
      · exact h.tkap n m v v' E E' β hn hm hv hv'
  · rcases nils_cases hn with ⟨rfl, _⟩ | ⟨_, hn⟩
    · cases hv
    · exact h.tkbx n v E β d cs hn hv hd hβ
theorem Inv.nils {N : Nat → Option TypeId} (h : Inv P F g s a w) (hN : ∀ n, N n ≠ none → g.tk n = none) : Inv P F (g.nils N) s a w := by
  have hle := Gh.nils_le (w := w) hN
  refine ⟨h.mem.nils hN, h.blen, h.len, fun i x hi => ?_, h.dfr, h.fr, h.g0, h.gfr, fun n v E β hn hv => ?_, h.bb, h.pbx⟩
  · obtain ⟨v, h1, h2⟩ := h.tm i x hi
    exact ⟨v, h1, h2.mono hle⟩
  · rcases nils_cases hn with ⟨rfl, _⟩ | ⟨_, hn⟩
    · cases hv
    · exact h.tb n v E β hn hv
def one1 (n : Nat) (E : TypeId) : Nat → Option TypeId := fun m => if m = n then some E else none
theorem Inv.put (h : Inv P F g s a w) (d : Option Nat) {x : AV} {v : Value} (hx : RepS P g w x v) : Inv P F g (s.put d x) (a.put d v) w := by
  cases d with
  | none => exact h
  | some d =>
    refine ⟨h.mem, by simpa [St.put] using h.blen, by simpa [St.put, Act.put] using h.len, fun i y hi => ?_, h.dfr, h.fr, h.g0, h.gfr, h.tb, h.bb, h.pbx⟩
    simp only [St.put, List.getElem?_set] at hi
    simp only [Act.put, Array.getElem?_setIfInBounds]
    have hl := h.len
    split at hi
    · rename_i e
      subst e
      split at hi
      · cases hi
        rw [if_pos rfl, if_pos (by omega)]
        exact ⟨v, rfl, hx⟩
      · cases hi
    · rename_i e
      rw [if_neg e]
      exact h.tm i y hi
theorem Inv.get (h : Inv P F g s a w) (t : Nat) : RepS P g w (s.get t) (a.tmps.getD t undef) := by
  unfold St.get
  by_cases ht : t < s.t.length
  · obtain ⟨v, h1, h2⟩ := h.tm t s.t[t] (List.getElem?_eq_getElem ht)
    simp only [List.getD_eq_getElem?_getD, List.getElem?_eq_getElem ht, Option.getD_some, Array.getD_eq_getD_getElem?, h1]
    exact h2
  · rw [List.getD_eq_getElem?_getD, List.getElem?_eq_none (Nat.le_of_not_lt ht)]
    exact trivial
def okV : Value → Bool
  | .agg cs => cs.toList.all Value.oneCell'
  | _ => true
def okO : Operand → Bool
  | .const x => okV x
  | _ => true
theorem Inv.ev (h : Inv P F g s a w) (x : Operand) (hx : okO x = true) : RepS P g w (s.ev x) (a.eval x) := by
  cases x with
  | tmp t => exact h.get t
  | func f => exact ⟨rfl, rfl⟩
  | global n => exact trivial
  | const c =>
    show RepS P g w (St.ofV c) c
    cases c with
    | agg cs =>
      refine ⟨cs, rfl, by simp, fun j c hj => ?_⟩
      rw [List.getElem?_map] at hj
      obtain ⟨u, hu, rfl⟩ := Option.map_eq_some_iff.1 hj
      rw [Array.getElem?_toList] at hu
      have := List.all_eq_true.1 (show cs.toList.all Value.oneCell' = true from hx) u (by rw [← Array.getElem?_toList] at hu; exact List.mem_of_getElem? hu)
      exact ⟨u, hu, rfl, this⟩
    | tuple vs => exact trivial
    | _ => exact ⟨rfl, rfl⟩
end
end Go.Proofs.YtckdgcpomkefpaaDoor.En
end
section
set_option linter.unusedVariables false
set_option linter.unusedSimpArgs false
namespace Go.Proofs.YtckdgcpomkefpaaDoor.En
open Go
section
variable {P : Program} {F : Fx} {g : Gh} {s : St} {a : Act} {w : World}
def Tells (P : Program) (w : World) (m : Sem Next) (Q : Value → Prop) : Prop := ∃ v, m.run P w = .ok (.value v) w ∧ Q v
def Runs {α : Type} (P : Program) (w : World) (m : Sem α) (Q : α → Prop) : Prop := ∃ v, m.run P w = .ok v w ∧ Q v
theorem Runs.tells {m : Sem Value} {Q : Value → Prop} (h : Runs P w m Q) : Tells P w (do pure (.value (← m))) Q := by
  obtain ⟨v, h1, h2⟩ := h
  exact ⟨v, by simp [h1], h2⟩
theorem Runs.bind {α β : Type} {m : Sem α} {k : α → Sem β} {Q : α → Prop} {R : β → Prop} (h : Runs P w m Q) (hk : ∀ x, Q x → Runs P w (k x) R) : Runs P w (m >>= k) R := by
  obtain ⟨v, h1, h2⟩ := h
  obtain ⟨u, h3, h4⟩ := hk v h2
  exact ⟨u, by simp [h1, h3], h4⟩
theorem runs_pure {α : Type} {x : α} {Q : α → Prop} (h : Q x) : Runs P w (pure x) Q := ⟨x, by simp, h⟩
theorem runs_underlying {T : TypeId} {d : TypeDesc} (h : P.underlying T = some d) : Runs P w (underlying T) (· = d) := ⟨d, run_underlying h w, rfl⟩
theorem runs_sizeOf {T : TypeId} {n : Nat} (h : szT P T = some n) : Runs P w (sizeOf T) (· = n) := by
  unfold szT at h
  obtain ⟨i, hi, rfl⟩ := Option.map_eq_some_iff.1 h
  exact ⟨i.size, by simp [sizeOf, typeInfo, hi], rfl⟩
theorem runs_isAgg {T : TypeId} {b : Bool} (h : aggT P T = some b) : Runs P w (isAgg T) (· = b) := by
  unfold aggT at h
  obtain ⟨d, hd, rfl⟩ := Option.map_eq_some_iff.1 h
  refine ⟨aggD d, ?_, rfl⟩
  simp only [isAgg, Sem.run_bind, run_underlying hd, Result.andThen_ok]
  cases d <;> simp [aggD]
theorem add_lit (β off j : Nat) : (⟨β, off, none⟩ : Addr).add j = ⟨β, off + j, none⟩ := by
  unfold Addr.add; split <;> simp_all
theorem runs_loadCells {β off : Nat} {n : Nat} {cs : List AV} (hn : n ≤ cs.length) (hc : ∀ (j : Nat) c, cs[j]? = some c → ∃ u, w.cell? ⟨β, off + j, none⟩ = some u ∧ RepC P g w c u) :
    Runs P w (loadCells ⟨β, off, none⟩ n) (fun vs => vs.size = n ∧ ∀ (j : Nat) c, (cs.take n)[j]? = some c → ∃ u, vs[j]? = some u ∧ RepC P g w c u) := by
  refine ⟨_, run_loadCells w ⟨β, off, none⟩ n (fun j => (w.cell? ⟨β, off + j, none⟩).getD undef) (fun j hj => ?_), by simp, fun j c hj => ?_⟩
  · obtain ⟨u, hu, _⟩ := hc j cs[j] (List.getElem?_eq_getElem (by omega))
    rw [add_lit, hu]; rfl
  · rw [List.getElem?_take] at hj
    split at hj
    · rename_i hlt
      obtain ⟨u, hu, hr⟩ := hc j c hj
      exact ⟨u, by simp [hlt, hu], hr⟩
    · cases hj
theorem loadVar_sound {β off : Nat} {T : TypeId} {cs : List AV} {x : AV} (hc : ∀ (j : Nat) c, cs[j]? = some c → ∃ u, w.cell? ⟨β, off + j, none⟩ = some u ∧ RepC P g w c u) (h : partAV P T cs 0 = some x) :
    Runs P w (loadVar T ⟨β, off, none⟩) (RepS P g w x) := by
  unfold partAV at h
  obtain ⟨ag, hag, h⟩ := Option.bind_eq_some_iff.1 h
  refine (runs_isAgg hag).bind fun b hb => ?_
  rw [hb]
  clear hb
  cases ag with
  | false =>
    simp only [cond_false] at h
    obtain ⟨c, hcx, h⟩ := Option.bind_eq_some_iff.1 h
    cases hf : c.flat <;> rw [hf] at h <;> cases h
    obtain ⟨u, hu, hr⟩ := hc 0 _ hcx
    exact ⟨u, by simp [show w.cell? ⟨β, off, none⟩ = some u from hu], hr.S⟩
  | true =>
    simp only [cond_true] at h
    obtain ⟨n, hn, h⟩ := Option.bind_eq_some_iff.1 h
    simp only [Nat.zero_add, List.drop_zero] at h
    cases hle : Nat.ble n cs.length <;> rw [hle] at h
    · cases h
    · cases h
      rw [if_pos rfl]
      refine (runs_sizeOf hn).bind fun k hk => ?_
      rw [hk]
      have hle' := Nat.le_of_ble_eq_true hle
      refine (runs_loadCells hle' hc).bind fun vs hv => ?_
      exact runs_pure ⟨vs, rfl, by rw [hv.1, List.length_take, Nat.min_eq_left hle'], hv.2⟩
theorem cellsOf_sound (h : Inv P F g s a w) {x : AV} {cs : List AV} {v : Value} (hx : RepS P g w x v) (hcs : s.cellsOf x = some cs) :
    ∃ β off, v = .pointer (some ⟨β, off, none⟩) ∧ ∀ (j : Nat) c, cs[j]? = some c → ∃ u, w.cell? ⟨β, off + j, none⟩ = some u ∧ RepC P g w c u := by
  cases x <;> simp only [St.cellsOf] at hcs <;> first | cases hcs; done | skip
  case box d off =>
    obtain ⟨β, hb, rfl⟩ := (show RepC P g w (.box d off) v from hx)
    obtain ⟨cs0, h0, rfl⟩ := Option.map_eq_some_iff.1 hcs
    have h0' : s.b[d]? = some (some cs0) := by
      unfold St.boxAt at h0
      rw [List.getD_eq_getElem?_getD] at h0
      cases hq : s.b[d]? with
      | none => rw [hq] at h0; cases h0
      | some o => rw [hq] at h0; exact congrArg some h0
    obtain ⟨β', us, T, e1, e2, e3, e4, e5⟩ := h.mem.box d cs0 h0'
    rw [hb] at e1
    cases e1
    refine ⟨β, off, rfl, fun j c hj => ?_⟩
    rw [List.getElem?_map, List.getElem?_drop] at hj
    obtain ⟨c0, hc0, rfl⟩ := Option.map_eq_some_iff.1 hj
    obtain ⟨u, hu, hr⟩ := e5 _ _ hc0
    refine ⟨u, by simp [World.cell?, e2, hu], ?_⟩
    by_cases hs : ∃ T', c0 = .self T'
    · obtain ⟨T', rfl⟩ := hs
      obtain ⟨rfl, hr⟩ := hr
      rcases hr with rfl | rfl <;> rfl
    · rw [RepB.eq (fun T' e => hs ⟨T', e⟩)] at hr
      cases c0 <;> first | exact hr | exact absurd ⟨_, rfl⟩ hs
  case ro cs0 =>
    cases hcs
    obtain ⟨β, o, rfl, hc⟩ := (show RepC P g w (.ro cs0) v from hx)
    refine ⟨β, o, rfl, fun j c' hj => ?_⟩
    rw [List.getElem?_map] at hj
    obtain ⟨c, hj0, rfl⟩ := Option.map_eq_some_iff.1 hj
    obtain ⟨u, h1, h2, h3⟩ := hc j c hj0
    refine ⟨u, h1, ?_⟩
    cases c <;> simp only [Rep0] at h3 <;> first | exact h3 | (obtain ⟨rfl, h3⟩ := h3; exact ⟨h3, fun n hn => by cases hn⟩)
def okOp (o : Oper) : Bool := o.op.operands.toList.all okO
theorem okOp_mem {o : Oper} (h : okOp o = true) {x : Operand} (hx : x ∈ o.op.operands.toList) : okO x = true := List.all_eq_true.1 h x hx
theorem eqGuard_int {op : BinOp} {x y : Operand} (T : TypeId) {k k' : IntKind} {p q : Int} : (eqGuard op T x y (.int k p) (.int k' q)).run P w = .ok () w := by
  cases op <;> rfl
theorem eqGuard_str {op : BinOp} {x y : Operand} (T : TypeId) {p q : ByteArray} : (eqGuard op T x y (.string p) (.string q)).run P w = .ok () w := by
  cases op <;> rfl
theorem eqGuard_bool {op : BinOp} {x y : Operand} (T : TypeId) {p q : Bool} : (eqGuard op T x y (.bool p) (.bool q)).run P w = .ok () w := by
  cases op <;> rfl
theorem equalIn_bool {T : TypeId} (hu : P.underlying T = some .bool) {p q : Bool} (n : Nat) : (Op.equalIn (n + 1) T (.bool p) (.bool q)).run P w = .ok (p == q) w := by
  simp only [Op.equalIn, Sem.run_bind, run_underlying hu, Result.andThen_ok, Sem.run_pure]
theorem equal_bool {T : TypeId} (hu : P.underlying T = some .bool) {p q : Bool} : (Op.equal T (.bool p) (.bool q)).run P w = .ok (p == q) w := equalIn_bool hu 9999
theorem equalIn_nil {T : TypeId} {ms : _} (hu : P.underlying T = some (.interface ms)) (n : Nat) : (Op.equalIn (n + 1) T .nilIface .nilIface).run P w = .ok true w := by
  simp only [Op.equalIn, Sem.run_bind, run_underlying hu, Result.andThen_ok, Sem.run_pure]
theorem equalIn_iface {T tx : TypeId} {vx : Value} {ms : _} (hu : P.underlying T = some (.interface ms)) (n : Nat) : (Op.equalIn (n + 1) T (.iface tx vx) .nilIface).run P w = .ok false w := by
  simp only [Op.equalIn, Sem.run_bind, run_underlying hu, Result.andThen_ok, Sem.run_pure]
theorem ifaceT_eq {T : TypeId} (h : ifaceT P T = true) : ∃ ms, P.underlying T = some (.interface ms) := by
  unfold ifaceT at h
  split at h
  · rename_i ms e; exact ⟨ms, e⟩
  · cases h
theorem constO_eq {y : Operand} (h : constO y = true) : ∃ c, y = .const c := by
  cases y <;> first | exact ⟨_, rfl⟩ | cases h
theorem binOp_sound {op : BinOp} {x y : Operand} (T : TypeId) {p q r : Value} (hT : boolOk P T y p = true) (h : pureOp op p q = some r) : Runs P w (do eqGuard op T x y p q; binOp op T p q) (RepS P g w (.v r)) := by
  unfold pureOp at h
  cases p <;> cases q <;> simp only at h <;> first | cases h; done | skip
  case bool.bool p q =>
    have hu : P.underlying T = some .bool := by
      simp only [boolOk] at hT
      split at hT
      · assumption
      · cases hT
    cases op <;> first | cases h; done | skip
    all_goals (cases h; refine ⟨_, ?_, ⟨rfl, rfl⟩⟩)
    · simp only [Sem.run_bind, eqGuard_bool, Result.andThen_ok, binOp, equal_bool hu, Sem.run_pure]
    · simp only [Sem.run_bind, eqGuard_bool, Result.andThen_ok, binOp, equal_bool hu, Sem.run_pure]
  case nilIface.nilIface =>
    simp only [boolOk, Bool.and_eq_true] at hT
    obtain ⟨ms, hu⟩ := ifaceT_eq hT.1
    obtain ⟨c, rfl⟩ := constO_eq hT.2
    have hg : (eqGuard op T x (.const c) .nilIface .nilIface).run P w = .ok () w := by
      cases op <;> simp [eqGuard]
    have he : (Op.equal T .nilIface .nilIface).run P w = .ok true w := equalIn_nil hu 9999
    cases op <;> first | cases h; done | skip
    all_goals (cases h; refine ⟨_, ?_, ⟨rfl, rfl⟩⟩)
    all_goals (simp only [Sem.run_bind, hg, Result.andThen_ok, binOp, he, Sem.run_pure]; try rfl)
  case iface.nilIface tx vx =>
    simp only [boolOk] at hT
    obtain ⟨ms, hu⟩ := ifaceT_eq hT
    have hg : (eqGuard op T x y (.iface tx vx) .nilIface).run P w = .ok () w := by
      cases op <;> rfl
    have he : (Op.equal T (.iface tx vx) .nilIface).run P w = .ok false w := equalIn_iface hu 9999
    cases op <;> first | cases h; done | skip
    all_goals (cases h; refine ⟨_, ?_, ⟨rfl, rfl⟩⟩)
    all_goals (simp only [Sem.run_bind, hg, Result.andThen_ok, binOp, he, Sem.run_pure]; try rfl)
  case int.int k p k' q =>
    by_cases hk : k = k'
    · subst hk
      cases op <;> simp only [if_true] at h <;> first | cases h; done | skip
      case shl =>
        cases hd : decide (q < 0) <;> rw [hd] at h <;> cases h
        have : ¬ q < 0 := of_decide_eq_false hd
        exact ⟨_, by simp [eqGuard_int, binOp, Op.shift, this], ⟨rfl, rfl⟩⟩
      case shr =>
        cases hd : decide (q < 0) <;> rw [hd] at h <;> cases h
        have : ¬ q < 0 := of_decide_eq_false hd
        exact ⟨_, by simp [eqGuard_int, binOp, Op.shift, this], ⟨rfl, rfl⟩⟩
      case quo =>
        cases hd : decide (q = 0) <;> rw [hd] at h <;> cases h
        have : ¬ q = 0 := of_decide_eq_false hd
        exact ⟨_, by simp [eqGuard_int, binOp, Op.intDiv, this], ⟨rfl, rfl⟩⟩
      case rem =>
        cases hd : decide (q = 0) <;> rw [hd] at h <;> cases h
        have : ¬ q = 0 := of_decide_eq_false hd
        exact ⟨_, by simp [eqGuard_int, binOp, Op.intDiv, this], ⟨rfl, rfl⟩⟩
      all_goals (cases h; exact ⟨_, by simp [eqGuard_int, binOp, Op.intArith, Op.intBits, Op.intCmp], ⟨rfl, rfl⟩⟩)
    · cases op <;> simp only [if_neg hk] at h <;> first | cases h; done | skip
      case shl =>
        cases hd : decide (q < 0) <;> rw [hd] at h <;> cases h
        have : ¬ q < 0 := of_decide_eq_false hd
        exact ⟨_, by simp [eqGuard_int, binOp, Op.shift, this], ⟨rfl, rfl⟩⟩
      case shr =>
        cases hd : decide (q < 0) <;> rw [hd] at h <;> cases h
        have : ¬ q < 0 := of_decide_eq_false hd
        exact ⟨_, by simp [eqGuard_int, binOp, Op.shift, this], ⟨rfl, rfl⟩⟩
  case string.string p q =>
    cases op <;> simp only at h <;> first | cases h; done | skip
    case add =>
      cases hd : decide (p.size + q.size ≤ 4611686018427387904) <;> rw [hd] at h <;> cases h
      have hd' : p.size + q.size ≤ 4611686018427387904 := of_decide_eq_true hd
      have : ¬ ((p.size : Int) + q.size > IntKind.i64.max) := by
        have : IntKind.i64.max = 9223372036854775807 := by decide
        omega
      exact ⟨_, by simp only [Sem.run_bind, eqGuard_str, Result.andThen_ok, binOp, Op.stringOp, Sem.run_pure, show (((p.size + q.size : Nat) : Int) > IntKind.i64.max) = False from eq_false (by omega), if_false], ⟨rfl, rfl⟩⟩
    all_goals (cases h; exact ⟨_, by simp [eqGuard_str, binOp, Op.stringOp], ⟨rfl, rfl⟩⟩)
theorem Runs.tells' {m : Sem Value} {Q : Value → Prop} (h : Runs P w (m >>= pure) Q) : Tells P w (do pure (.value (← m))) Q := by
  obtain ⟨v, h1, h2⟩ := h
  exact ⟨v, by simp at h1; simp [h1], h2⟩
theorem strT_eq {T : TypeId} (h : strT P T = true) : P.underlying T = some .string := by
  simp only [strT] at h
  split at h
  · assumption
  · cases h
theorem elemT_eq {T E : TypeId} (h : elemT P T = some E) : P.underlying T = some (.slice E) := by
  simp only [elemT] at h
  split at h
  · rename_i e; cases h; exact e
  · cases h
theorem index_sound {T : TypeId} {str : ByteArray} {k : IntKind} {n : Int} (hu : P.underlying T = some .string) (h0 : 0 ≤ n) (h1 : n < str.size) : Runs P w (Instr.index T (.string str) (.int k n)) (RepS P g w (.v (.int .u8 (bt str n)))) := by
  simp only [Instr.index]
  refine (runs_pure (Q := (· = (k, n))) rfl).bind fun p hp => ?_
  subst hp
  refine (runs_underlying hu).bind fun d hd => ?_
  subst hd
  have hlt : n.toNat < str.size := by omega
  have e : str[n.toNat]? = some str.data[n.toNat] := by
    rw [getElem?_pos str n.toNat hlt]; rfl
  simp only [if_pos h0, e]
  refine runs_pure ⟨?_, rfl⟩
  unfold bt
  have : n.toNat < str.data.size := hlt
  simp only [Array.getD, this, dif_pos]
  rfl
theorem fieldAt_sound {T U : TypeId} {f off n β o : Nat} (hf : fieldOf P T f = some (off, U)) (hn : szT P U = some n) (h0 : n ≠ 0) : Runs P w (Instr.fieldAt T (.pointer (some ⟨β, o, none⟩)) f) (· = .pointer (some ⟨β, o + off, none⟩)) := by
  unfold fieldOf at hf
  split at hf
  · rename_i fs hu
    obtain ⟨fd, hfd, he⟩ := Option.map_eq_some_iff.1 hf
    cases he
    simp only [Instr.fieldAt]
    refine (runs_underlying hu).bind fun d hd => ?_
    subst hd
    dsimp only
    rw [hfd]
    dsimp only
    refine (runs_pure (Q := (· = (⟨β, o, none⟩ : Addr))) rfl).bind fun ad he => ?_
    subst he
    refine Runs.bind (Q := (· = (⟨β, o + fd.offset, none⟩ : Addr))) ?_ fun ad he => by subst he; exact runs_pure rfl
    simp only [fieldPlace]
    refine (runs_sizeOf hn).bind fun m hm => ?_
    subst hm
    rw [if_neg h0]
    exact runs_pure (add_lit _ _ _)
  · cases hf
theorem field_sound {T U : TypeId} {f off : Nat} {vs : Array Value} {cs : List AV} {x : AV} (hf : fieldOf P T f = some (off, U)) (e2 : vs.size = cs.length)
    (e3 : ∀ (j : Nat) c, cs[j]? = some c → ∃ u, vs[j]? = some u ∧ RepC P g w c u) (hx : partAV P U cs off = some x) : Runs P w (Instr.field T (.agg vs) f) (RepS P g w x) := by
  unfold fieldOf at hf
  split at hf
  · rename_i fs hu
    obtain ⟨fd, hfd, he⟩ := Option.map_eq_some_iff.1 hf
    cases he
    simp only [Instr.field]
    refine (runs_underlying hu).bind fun d hd => ?_
    subst hd
    dsimp only
    rw [hfd]
    dsimp only
    refine (runs_pure (Q := (· = vs)) rfl).bind fun vs' he => ?_
    subst he
    unfold partAV at hx
    obtain ⟨ag, hag, hx⟩ := Option.bind_eq_some_iff.1 hx
    simp only [part]
    refine (runs_isAgg hag).bind fun b hb => ?_
    subst hb
    cases b with
    | false =>
      simp only [cond_false] at hx
      obtain ⟨c, hcx, hx⟩ := Option.bind_eq_some_iff.1 hx
      cases hf : c.flat <;> rw [hf] at hx <;> cases hx
      obtain ⟨u, hu', hr⟩ := e3 _ _ hcx
      simp only [Bool.false_eq_true, if_false, hu']
      exact runs_pure hr.S
    | true =>
      simp only [cond_true] at hx
      obtain ⟨n, hn, hx⟩ := Option.bind_eq_some_iff.1 hx
      cases hle : Nat.ble (fd.offset + n) cs.length <;> rw [hle] at hx
      · cases hx
      · cases hx
        have hle' := Nat.le_of_ble_eq_true hle
        rw [if_pos rfl]
        refine (runs_sizeOf hn).bind fun m hm => ?_
        subst hm
        refine runs_pure ⟨_, rfl, by simp; omega, fun j c hj => ?_⟩
        rw [List.getElem?_take] at hj
        split at hj
        · rename_i hlt
          rw [List.getElem?_drop] at hj
          obtain ⟨u, hu', hr⟩ := e3 _ _ hj
          have hb := (Array.getElem?_eq_some_iff.1 hu').1
          refine ⟨u, ?_, hr⟩
          rw [Array.getElem?_extract, if_pos (by omega)]
          exact hu'
        · cases hj
  · cases hf
theorem idx_eq {l : List Dat} {n : Int} {d : Dat} (h : idx l n = some d) : 0 ≤ n ∧ l[n.toNat]? = some d ∧ n.toNat < l.length := by
  unfold idx at h
  cases hc : decide (0 ≤ n) <;> rw [hc] at h
  · cases h
  · exact ⟨of_decide_eq_true hc, h, (List.getElem?_eq_some_iff.1 h).1⟩
theorem expand_get (d : Dat) : ∀ (ks : List CK) (j i : Nat), (expand d ks j)[i]? = (ks[i]?).map fun k => expC d k (j + i)
  | [], j, i => by simp [expand]
  | k :: ks, j, 0 => by simp [expand]
  | k :: ks, j, i + 1 => by simp [expand, expand_get d ks (j + 1) i, Nat.add_assoc, Nat.add_comm 1 i]
theorem indexAt_sound {T E : TypeId} {ks : List CK} {k : IntKind} {n : Int} {l : List Dat} {v : Value} {d : Dat} (hu : P.underlying T = some (.slice E)) (hks : kinds P E = some ks) (hz : szT P E = some ks.length)
    (hrow : RepRow P g.G w E l v) (hd : idx l n = some d) : Runs P w (Instr.indexAt T v (.int k n)) (RepS P g w (.ro (expand d ks 0))) := by
  obtain ⟨h0, hget, hlt⟩ := idx_eq hd
  cases hrow with
  | nil E A cap => simp at hlt
  | mk E l β off cap ks' vals hk hlen hc hs hr =>
    rw [hks] at hk
    cases hk
    simp only [Instr.indexAt]
    refine (runs_pure (Q := (· = (k, n))) rfl).bind fun p hp => ?_
    subst hp
    refine (runs_underlying hu).bind fun d' hd' => ?_
    subst hd'
    dsimp only
    refine (runs_pure (Q := (· = (some (⟨β, off, none⟩ : Addr), l.length, E))) rfl).bind fun p hp => ?_
    subst hp
    refine (runs_underlying hu).bind fun d' hd' => ?_
    subst hd'
    dsimp only
    · rw [if_pos ⟨h0, by omega⟩]
      refine (runs_sizeOf hz).bind fun m hm => ?_
      subst hm
      refine runs_pure ⟨β, off + n.toNat * ks.length, by rw [add_lit], fun j c hj => ?_⟩
      rw [expand_get] at hj
      obtain ⟨kk, hkk, rfl⟩ := Option.map_eq_some_iff.1 hj
      have hj' := (List.getElem?_eq_some_iff.1 hkk).1
      obtain ⟨c1, c2, c3⟩ := hc n.toNat j hlt hj'
      refine ⟨_, c2, c1, ?_⟩
      have hsc := hs n.toNat j d kk hget hkk
      have hrc := fun E' (e : kk = .row E') => hr n.toNat j d E' hget (by rw [hkk, e])
      cases kk <;> simp only [expC, Nat.zero_add, Rep0]
      · exact ⟨hsc, rfl⟩
      · exact ⟨hsc, rfl⟩
      · exact ⟨hsc, rfl⟩
      · exact ⟨trivial, hrc _ rfl⟩
      · exact c3
      · exact c3
theorem bound_sound (h : Inv P F g s a w) {o : Option Operand} {d : Nat} {n : Int} (hk : ∀ y, o = some y → RepS P g w (s.ev y) (a.eval y)) (hb : bound s o d = some n) : (o.map a.eval = none ∧ n = d) ∨ ∃ k, o.map a.eval = some (.int k n) := by
  cases o with
  | none => cases hb; exact .inl ⟨rfl, rfl⟩
  | some y =>
    have hy := hk y rfl
    simp only [bound] at hb
    cases hyv : s.ev y <;> rw [hyv] at hb hy <;> first | cases hb; done | skip
    rename_i yv
    cases yv <;> first | cases hb; done | skip
    rename_i k m
    cases hb
    obtain ⟨ey, _⟩ := (show a.eval y = .int k n ∧ _ from hy)
    exact .inr ⟨k, congrArg some ey⟩
theorem runs_bounds {isSlice : Bool} {len cap : Nat} {lo hi : Option Value} {hh ll : Int} (e1 : (hi = none ∧ hh = len) ∨ ∃ k, hi = some (.int k hh)) (e2 : (lo = none ∧ ll = (0 : Nat)) ∨ ∃ k, lo = some (.int k ll)) (h0 : 0 ≤ hh) (h1 : hh ≤ cap) (h2 : 0 ≤ ll) (h3 : ll ≤ hh) :
    Runs P w (Instr.sliceBounds isSlice len cap lo hi none) (· = (ll.toNat, hh.toNat, cap)) := by
  have sb : ∀ (k : IntKind) (i : Int) (y : Nat) (code : BoundsCode), 0 ≤ i → i ≤ y → Runs P w (Instr.sliceBound (.int k i) y code) (· = i.toNat) := fun k i y code a1 a2 => ⟨_, Go.run_sliceBound w k i y code a1 a2, rfl⟩
  simp only [Instr.sliceBounds]
  refine (runs_pure (Q := (· = cap)) rfl).bind fun m hm => ?_
  subst hm
  rcases e1 with ⟨rfl, rfl⟩ | ⟨k, rfl⟩ <;> rcases e2 with ⟨rfl, rfl⟩ | ⟨k', rfl⟩ <;> dsimp only
  · exact (runs_pure (Q := (· = len)) rfl).bind fun m' hm => by subst hm; exact (runs_pure (Q := (· = 0)) rfl).bind fun m' hm => by subst hm; exact runs_pure (by simp)
  · exact (runs_pure (Q := (· = len)) rfl).bind fun m' hm => by subst hm; exact (sb k' ll _ _ h2 (by omega)).bind fun m' hm => by subst hm; exact runs_pure (by simp)
  · exact (sb k hh _ _ h0 h1).bind fun m' hm => by subst hm; exact (runs_pure (Q := (· = 0)) rfl).bind fun m' hm => by subst hm; exact runs_pure (by simp)
  · exact (sb k hh _ _ h0 h1).bind fun m' hm => by subst hm; exact (sb k' ll _ _ h2 (by omega)).bind fun m' hm => by subst hm; exact runs_pure (by simp)
theorem sliceRow_sound {T E : TypeId} {l : List Dat} {v : Value} {lo hi : Option Value} {hh ll : Int} {ks : List CK} (hks : kinds P E = some ks) (hz : szT P E = some ks.length) (hu : P.underlying T = some (.slice E)) (hrow : RepRow P g.G w E l v)
    (e1 : (hi = none ∧ hh = l.length) ∨ ∃ k, hi = some (.int k hh)) (e2 : (lo = none ∧ ll = (0 : Nat)) ∨ ∃ k, lo = some (.int k ll)) (h0 : 0 ≤ hh) (h1 : hh ≤ l.length) (h2 : 0 ≤ ll) (h3 : ll ≤ hh) :
    Runs P w (Instr.sliceAt T v lo hi none) (RepS P g w (.row none E ((l.take hh.toNat).drop ll.toNat))) := by
  obtain ⟨A, cap, hv⟩ := hrow.slice
  have hcap : l.length ≤ cap ∨ l = [] := by
    cases hrow with
    | nil E A cap => exact .inr rfl
    | mk E l β off cap ks vals hk hlen hc hs hr => injection hv with _ _ e; subst e; exact .inl hlen
  have hcap' : l.length ≤ cap := by
    rcases hcap with h | rfl
    · exact h
    · exact Nat.zero_le _
  subst hv
  simp only [Instr.sliceAt, Instr.slice]
  refine (runs_underlying hu).bind fun d hd => ?_
  subst hd
  refine (runs_underlying hu).bind fun d hd => ?_
  subst hd
  refine (runs_bounds (isSlice := true) (len := l.length) (cap := cap) e1 e2 h0 (by omega) h2 h3).bind fun r hr => ?_
  subst hr
  dsimp only
  refine (runs_sizeOf hz).bind fun m hm => ?_
  subst hm
  refine runs_pure ⟨?_, fun n hn => by cases hn⟩
  have hn1 : hh.toNat ≤ l.length := by omega
  have hn2 : ll.toNat ≤ hh.toNat := by omega
  generalize hh.toNat = hn at hn1 hn2 ⊢
  generalize ll.toNat = ln at hn1 hn2 ⊢
  have hL : ((l.take hn).drop ln).length = hn - ln := by simp; omega
  by_cases hcl : cap = ln
  · have : (l.take hn).drop ln = [] := List.eq_nil_of_length_eq_zero (by rw [hL]; omega)
    rw [this, show hn - ln = 0 by omega]
    exact .nil _ _ _
  · rw [if_neg hcl]
    cases hrow with
    | nil E A cap =>
      simp only [List.take_nil, List.drop_nil, List.length_nil] at hn1 ⊢
      rw [show hn - ln = 0 by omega]
      exact .nil _ _ _
    | mk E l β off cap ks' vals hk hlen hc hs hr =>
      rw [hks] at hk
      cases hk
      simp only [Option.map_some, add_lit]
      have := RepRow.mk (P := P) (G := g.G) (w := w) E ((l.take hn).drop ln) β (off + ln * ks.length) (cap - ln) ks (fun i j => vals (ln + i) j) hks (by omega) (fun i j hi hj => ?_) (fun i j d k hd hj => ?_) (fun i j d E' hd hj => ?_)
      · rw [hL] at this; exact this
      · obtain ⟨c1, c2, c3⟩ := hc (ln + i) j (by omega) hj
        have e : off + ln * ks.length + i * ks.length + j = off + (ln + i) * ks.length + j := by rw [Nat.add_mul]; omega
        rw [e]
        exact ⟨c1, c2, c3⟩
      · refine hs (ln + i) j d k ?_ hj
        rw [List.getElem?_drop, List.getElem?_take] at hd
        split at hd
        · exact hd
        · cases hd
      · refine hr (ln + i) j d E' ?_ hj
        rw [List.getElem?_drop, List.getElem?_take] at hd
        split at hd
        · exact hd
        · cases hd
theorem plainL_sound {cs : List AV} {l : List Value} {vs : Array Value} (hl : plainL cs = some l) (e2 : vs.size = cs.length)
    (e3 : ∀ (j : Nat) c, cs[j]? = some c → ∃ u, vs[j]? = some u ∧ RepC P g w c u) : vs = l.toArray := by
  have key : ∀ (cs : List AV) (l us : List Value), plainL cs = some l → us.length = cs.length → (∀ (j : Nat) c, cs[j]? = some c → ∃ u, us[j]? = some u ∧ RepC P g w c u) → us = l := by
    intro cs
    induction cs with
    | nil => intro l us hl e2 e3; cases hl; exact List.eq_nil_of_length_eq_zero e2
    | cons c cs ih =>
      intro l us hl e2 e3
      cases c <;> simp only [plainL] at hl <;> first | cases hl; done | skip
      obtain ⟨l', hl', he⟩ := Option.bind_eq_some_iff.1 hl
      cases he
      cases us with
      | nil => simp at e2
      | cons u us =>
        obtain ⟨u', hu', hr⟩ := e3 0 _ rfl
        simp at hu'
        subst hu'
        rw [ih l' us hl' (by simpa using e2) (fun j c hj => by simpa using e3 (j + 1) c (by simpa using hj))]
        obtain ⟨rfl, _⟩ := hr
        rfl
  have := key cs l vs.toList hl (by simpa using e2) (fun j c hj => by simpa using e3 j c hj)
  rw [← this]
theorem convV_sound {src dst : TypeId} {x r : Value} (h : convV P src dst x = some r) : Runs P w (convert src dst x) (RepS P g w (.v r)) := by
  unfold convV at h
  split at h
  · split at h
    · rename_i d k hd hk
      cases h
      simp only [convert]
      refine (runs_underlying hd).bind fun d' e => ?_
      subst e
      refine (runs_underlying hk).bind fun d' e => ?_
      subst e
      exact ⟨_, by simp [Conv.intToInt], ⟨rfl, rfl⟩⟩
    · cases h
  · split at h
    · rename_i d hd hk
      cases h
      simp only [convert]
      refine (runs_underlying hd).bind fun d' e => ?_
      subst e
      refine (runs_underlying hk).bind fun d' e => ?_
      subst e
      exact runs_pure ⟨rfl, rfl⟩
    · cases h
  · split at h
    · rename_i E hd hk
      split at h
      · rename_i he
        cases h
        simp only [convert]
        refine (runs_underlying hd).bind fun d' e => ?_
        subst e
        refine (runs_underlying hk).bind fun d' e => ?_
        subst e
        dsimp only
        refine (runs_underlying he).bind fun d' e => ?_
        subst e
        exact ⟨_, by simp [Conv.bytesToString]; rfl, ⟨rfl, rfl⟩⟩
      · cases h
    · cases h
  · cases h
theorem kinds_byte {E : TypeId} (h : P.underlying E = some (.int .u8)) : kinds P E = some [.int .u8] := by
  simp only [kinds, kindsF, h]
theorem push_eq (ns : List Int) : ∀ acc : ByteArray, ns.foldl (fun r n => r.push (UInt8.ofNat n.toNat)) acc = ⟨(acc.data.toList ++ ns.map fun n => UInt8.ofNat n.toNat).toArray⟩ := by
  induction ns with
  | nil => intro acc; simp
  | cons n ns ih => intro acc; simp only [List.foldl_cons, ih, List.map_cons]; congr 1; simp [ByteArray.push]
theorem convRow_sound {src dst E : TypeId} {l : List Dat} {v : Value} {x : AV} (hrow : RepRow P g.G w E l v)
    (h : (match P.underlying src, P.underlying dst with
      | some (.slice E'), some .string => (match P.underlying E' with
        | some (.int .u8) => bif E == E' then some (S (bytesOf l)) else none
        | _ => none)
      | _, _ => none) = some x) : Runs P w (convert src dst v) (RepS P g w x) := by
  split at h
  · rename_i E' hd hk
    split at h
    · rename_i he
      cases hE : (E == E') <;> rw [hE] at h <;> cases h
      have : E = E' := by simpa using hE
      subst this
      have hkk := kinds_byte he
      obtain ⟨A, cap, hv⟩ := hrow.slice
      subst hv
      simp only [convert]
      refine (runs_underlying hd).bind fun d' e => ?_
      subst e
      refine (runs_underlying hk).bind fun d' e => ?_
      subst e
      dsimp only
      refine (runs_underlying he).bind fun d' e => ?_
      subst e
      dsimp only
      cases hrow with
      | nil =>
        cases A with
        | none => exact ⟨_, by simp [Conv.bytesToString]; rfl, ⟨rfl, rfl⟩⟩
        | some ad =>
          have := run_bytesToString (P := P) w ad 0 cap [] (by simp [loadCells, loadCellsFrom])
          exact ⟨_, this, ⟨rfl, rfl⟩⟩
      | mk E l β off cap ks vals hk' hlen hc hs hr =>
        rw [hkk] at hk'
        cases hk'
        have := run_bytesToString (P := P) w ⟨β, off, none⟩ l.length cap (l.map fun d => (d.at 0).toI) (by
          rw [run_loadCells w ⟨β, off, none⟩ l.length (fun j => vals j 0) (fun j hj => ?_)]
          · congr 2
            apply List.ext_getElem
            · simp
            · intro i h1 h2
              simp at h1 h2
              simp only [List.getElem_map, List.getElem_range]
              exact hs i 0 l[i] _ (List.getElem?_eq_getElem h1) rfl
          · obtain ⟨c1, c2, c3⟩ := hc j 0 hj (by simp)
            rw [add_lit, ← c2]
            congr 2
            simp)
        refine ⟨_, this, ⟨?_, rfl⟩⟩
        rw [push_eq]
        congr 1
        simp [bytesOf, Function.comp_def]
    · cases h
  · cases h
theorem runs_mapM {α β : Type} {f : α → Sem β} {q : α → β → Prop} : ∀ (l : List α), (∀ x ∈ l, Runs P w (f x) (q x)) → Runs P w (l.mapM f) (fun r => r.length = l.length ∧ ∀ (i : Nat) x, l[i]? = some x → ∃ y, r[i]? = some y ∧ q x y)
  | [], _ => by rw [List.mapM_nil]; exact runs_pure ⟨rfl, fun i x h => by simp at h⟩
  | x :: l, h => by
    rw [List.mapM_cons]
    refine (h x (by simp)).bind fun y hy => ?_
    refine (runs_mapM l (fun z hz => h z (by simp [hz]))).bind fun r hr => ?_
    refine runs_pure ⟨by simp [hr.1], fun i z hz => ?_⟩
    cases i with
    | zero => simp at hz; subst hz; exact ⟨y, rfl, hy⟩
    | succ i => simp at hz; obtain ⟨u, h1, h2⟩ := hr.2 i z hz; exact ⟨u, by simpa using h1, h2⟩
theorem cells_rep {x : AV} {v : Value} (hx : RepS P g w x v) (h1 : x.cells.all AV.one = true) : v.cells.size = x.cells.length ∧ ∀ (j : Nat) c, x.cells[j]? = some c → ∃ u, v.cells[j]? = some u ∧ RepC P g w c u := by
  by_cases ha : ∃ cs, x = .agg cs
  · obtain ⟨cs, rfl⟩ := ha
    obtain ⟨vs, rfl, e2, e3⟩ := hx
    exact ⟨e2, e3⟩
  · have hc : x.cells = [x] := by cases x <;> first | rfl | exact absurd ⟨_, rfl⟩ ha
    rw [hc] at h1 ⊢
    have hr := hx.one (by simpa using h1)
    have ho := hr.one
    have hvc : v.cells = #[v] := by cases v <;> first | rfl | (simp [Value.oneCell'] at ho)
    rw [hvc]
    refine ⟨rfl, fun j c hj => ?_⟩
    cases j with
    | zero => simp at hj; subst hj; exact ⟨v, rfl, hr⟩
    | succ j => simp at hj
theorem foldl_set (new : List Value) : ∀ (k : Nat) (off : Nat) (cs : Array Value), off + k + new.length ≤ cs.size →
    ∀ j : Nat, ((new.zipIdx k).foldl (fun cs (c, j) => cs.setIfInBounds (off + j) c) cs)[j]? = if off + k ≤ j ∧ j < off + k + new.length then new[j - (off + k)]? else cs[j]? := by
  induction new with
  | nil => intro k off cs h j; simp; intro h1 h2; omega
  | cons x new ih =>
    intro k off cs h j
    simp only [List.length_cons] at h
    rw [List.zipIdx_cons, List.foldl_cons, ih (k + 1) off _ (by simp; omega) j]
    simp only [Array.getElem?_setIfInBounds, List.length_cons]
    by_cases h1 : off + (k + 1) ≤ j ∧ j < off + (k + 1) + new.length
    · rw [if_pos h1, if_pos (by omega), show j - (off + k) = (j - (off + (k + 1))) + 1 by omega]
      rfl
    · rw [if_neg h1]
      by_cases h2 : off + k = j
      · rw [if_pos h2, if_pos (by omega), if_pos (by omega), show j - (off + k) = 0 by omega]
        rfl
      · rw [if_neg h2, if_neg (by omega)]
theorem size_foldl_set (new : List (Value × Nat)) : ∀ (off : Nat) (cs : Array Value), (new.foldl (fun cs (c, j) => cs.setIfInBounds (off + j) c) cs).size = cs.size := by
  induction new with
  | nil => intro off cs; rfl
  | cons x new ih => intro off cs; simp [ih]
theorem fill_sound {place : Nat → Option (Nat × Nat)} : ∀ (l : List (Nat × Nat × AV)) (vs : List (Nat × Value)) (cs : List AV) (us : Array Value) (cs' : List AV),
    us.size = cs.length → (∀ (j : Nat) c, cs[j]? = some c → ∃ u, us[j]? = some u ∧ RepC P g w c u) → fillAV cs l = some cs' → l.length = vs.length →
    (∀ (i : Nat) off n x, l[i]? = some (off, n, x) → ∃ f v, vs[i]? = some (f, v) ∧ place f = some (off, n) ∧ RepS P g w x v) →
    ∃ us', Instr.fill place us vs = some us' ∧ us'.size = cs'.length ∧ ∀ (j : Nat) c, cs'[j]? = some c → ∃ u, us'[j]? = some u ∧ RepC P g w c u
  | [], vs, cs, us, cs', hs, hr, hf, hl, hp => by
    cases hf
    have : vs = [] := List.eq_nil_of_length_eq_zero (by simpa using hl.symm)
    subst this
    exact ⟨us, rfl, hs, hr⟩
  | (off, n, x) :: l, vs, cs, us, cs', hs, hr, hf, hl, hp => by
    cases vs with
    | nil => simp at hl
    | cons v0 vs =>
    obtain ⟨f, v, hv, hpl, hx⟩ := hp 0 off n x rfl
    simp at hv
    subst hv
    simp only [fillAV] at hf
    cases hc : (Nat.beq x.cells.length n && Nat.ble (off + n) cs.length && x.cells.all AV.one) <;> rw [hc] at hf
    · cases hf
    simp only [Bool.and_eq_true] at hc
    have hn : x.cells.length = n := Nat.eq_of_beq_eq_true hc.1.1
    have hle := Nat.le_of_ble_eq_true hc.1.2
    obtain ⟨c1, c2⟩ := cells_rep hx hc.2
    simp only [Instr.fill, hpl]
    have hsz : v.cells.size = n := by rw [c1, hn]
    rw [if_neg (by simp [hsz]; omega)]
    refine fill_sound l vs (cs.take off ++ (x.cells ++ cs.drop (off + n))) _ cs' ?_ ?_ hf (by simpa using hl) (fun i o m y hi => by simpa using hp (i + 1) o m y (by simpa using hi))
    · rw [← Array.foldl_toList, size_foldl_set, hs]
      simp [hn]; omega
    · intro j c hj
      have hfs := foldl_set v.cells.toList 0 off us (by simp [hsz]; omega) j
      have hz : v.cells.zipIdx.foldl (fun cs (c, j) => cs.setIfInBounds (off + j) c) us = (v.cells.toList.zipIdx 0).foldl (fun cs (c, j) => cs.setIfInBounds (off + j) c) us := by
        rw [← Array.foldl_toList, Array.toList_zipIdx]
      rw [hz, hfs]
      simp only [Nat.add_zero, Array.length_toList, hsz]
      by_cases h1 : off ≤ j ∧ j < off + n
      · rw [if_pos h1, Array.getElem?_toList]
        rw [List.getElem?_append_right (by simp; omega), List.getElem?_append_left (by simp [hn]; omega)] at hj
        simp only [List.length_take, Nat.min_eq_left (show off ≤ cs.length by omega)] at hj
        exact c2 _ c hj
      · rw [if_neg h1]
        by_cases h2 : j < off
        · rw [List.getElem?_append_left (by simp; omega), List.getElem?_take, if_pos h2] at hj
          exact hr j c hj
        · rw [List.getElem?_append_right (by simp; omega), List.getElem?_append_right (by simp [hn]; omega), List.getElem?_drop] at hj
          simp only [List.length_take, Nat.min_eq_left (show off ≤ cs.length by omega), hn] at hj
          rw [show off + n + (j - off - n) = j by omega] at hj
          exact hr j c hj
theorem partsAV_sound {T : TypeId} {fs : Array Field} (hu : P.underlying T = some (.struct fs)) : ∀ (ps : List (Nat × Operand)) (l : List (Nat × Nat × AV)), partsAV P s T ps = some l →
    l.length = ps.length ∧ ∀ (i : Nat) off n x, l[i]? = some (off, n, x) → ∃ f y fd, ps[i]? = some (f, y) ∧ fs[f]? = some fd ∧ fd.offset = off ∧ szT P fd.type = some n ∧ x = s.ev y
  | [], l, h => by cases h; exact ⟨rfl, fun i off n x h => by simp at h⟩
  | (f, y) :: ps, l, h => by
    simp only [partsAV] at h
    obtain ⟨⟨off, U⟩, h1, h⟩ := Option.bind_eq_some_iff.1 h
    obtain ⟨n, h2, h⟩ := Option.bind_eq_some_iff.1 h
    obtain ⟨l', h3, h⟩ := Option.bind_eq_some_iff.1 h
    cases h
    obtain ⟨e1, e2⟩ := partsAV_sound hu ps l' h3
    refine ⟨by simp [e1], fun i o m x hi => ?_⟩
    cases i with
    | zero =>
      simp at hi
      obtain ⟨rfl, rfl, rfl⟩ := hi
      simp only [fieldOf, hu] at h1
      obtain ⟨fd, hfd, he⟩ := Option.map_eq_some_iff.1 h1
      cases he
      exact ⟨f, y, fd, rfl, hfd, rfl, h2, rfl⟩
    | succ i => simpa using e2 i o m x (by simpa using hi)
theorem oneV_eq (v : Value) : oneV v = v.oneCell' := by cases v <;> rfl
theorem zero_rep {T : TypeId} {z : List AV} (hz : zeroCells P T = some z) : Runs P w (zeroValue T) (fun v => v.cells.size = z.length ∧ ∀ (j : Nat) c, z[j]? = some c → ∃ u, v.cells[j]? = some u ∧ c = .v u ∧ u.oneCell' = true) := by
  unfold zeroCells at hz
  obtain ⟨v, hv, hz⟩ := Option.bind_eq_some_iff.1 hz
  obtain ⟨i, hi, hv⟩ := Option.bind_eq_some_iff.1 hv
  cases hc : v.cells.toList.all oneV <;> rw [hc] at hz <;> cases hz
  refine ⟨v, by simp [zeroValue, typeInfo, hi, hv], by simp, fun j c hj => ?_⟩
  rw [List.getElem?_map] at hj
  obtain ⟨u, hu, rfl⟩ := Option.map_eq_some_iff.1 hj
  have := List.all_eq_true.1 hc u (List.mem_of_getElem? hu)
  rw [Array.getElem?_toList] at hu
  exact ⟨u, hu, rfl, by rw [← oneV_eq]; exact this⟩
theorem build_sound {T : TypeId} {ps : Array (Nat × Operand)} {z cs : List AV} {l : List (Nat × Nat × AV)} (hz : zeroCells P T = some z) (hf : fieldsOk P T = true) (hl : partsAV P s T ps.toList = some l) (hcs : fillAV z l = some cs)
    (hk : ∀ i x, (i, x) ∈ ps.toList → RepS P g w (s.ev x) (a.eval x)) : Runs P w (Instr.build T (ps.map fun (i, x) => (i, a.eval x))) (RepS P g w (.agg cs)) := by
  unfold fieldsOk at hf
  split at hf
  · rename_i fs hu
    obtain ⟨l1, l2⟩ := partsAV_sound hu _ _ hl
    simp only [Instr.build]
    refine (zero_rep hz).bind fun v hv => ?_
    refine (runs_underlying hu).bind fun d hd => ?_
    subst hd
    dsimp only
    rw [Array.mapM_eq_mapM_toList]
    have hm := runs_mapM (P := P) (w := w) (f := fun f : Field => (do pure (f.offset, ← sizeOf f.type) : Sem (Nat × Nat))) (q := fun f y => ∃ n, szT P f.type = some n ∧ y = (f.offset, n)) fs.toList (fun f hf' => by
      have := List.all_eq_true.1 hf f hf'
      obtain ⟨n, hn⟩ := Option.isSome_iff_exists.1 this
      exact (runs_sizeOf hn).bind fun m hm => runs_pure ⟨n, hn, by rw [hm]⟩)
    obtain ⟨r, hr1, hr2, hr3⟩ := hm
    obtain ⟨us', f1, f2, f3⟩ := fill_sound (place := (r.toArray[·]?)) l (ps.map fun (i, x) => (i, a.eval x)).toList z v.cells cs hv.1 (fun j c hj => by
      obtain ⟨u, h1, rfl, h3⟩ := hv.2 j c hj
      exact ⟨u, h1, rfl, h3⟩) hcs (by simp [l1]) (fun i off n x hi => by
      obtain ⟨f, y, fd, h1, h2, h3, h4, h5⟩ := l2 i off n x hi
      refine ⟨f, a.eval y, by simp at h1 ⊢; exact ⟨_, _, h1, rfl, rfl⟩, ?_, ?_⟩
      · obtain ⟨yy, e1, n', e2, e3⟩ := hr3 f fd (by simpa using h2)
        rw [h4] at e2
        cases e2
        show r.toArray[f]? = _
        rw [List.getElem?_toArray, e1, e3, h3]
      · rw [h5]; exact hk f y (List.mem_of_getElem? h1))
    refine ⟨.agg us', ?_, us', rfl, f2, f3⟩
    have hr1' : ((List.mapM (fun f : Field => (do let n ← sizeOf f.type; pure (f.offset, n) : Sem (Nat × Nat))) fs.toList).run P w) = .ok r w := hr1
    simp only [Sem.run_bind, Sem.run_map, hr1', Result.andThen_ok]
    rw [f1]
    rfl
  · cases hf
theorem held_rep {x : AV} {v : Value} (hx : RepS P g w x v) (h : x.held = true) : Rep1 g x v := by
  cases x <;> first | (cases h; done) | exact hx
theorem held_map (xs : Array Operand) (hk : ∀ y ∈ xs.toList, RepS P g w (s.ev y) (a.eval y)) (hc : (xs.toList.map s.ev).all AV.held = true) (j : Nat) (c : AV) (hj : (xs.toList.map s.ev)[j]? = some c) : ∃ u, (xs.map a.eval)[j]? = some u ∧ Rep1 g c u := by
  have hh := List.all_eq_true.1 hc c (List.mem_of_getElem? hj)
  rw [List.getElem?_map] at hj
  obtain ⟨y, hy, rfl⟩ := Option.map_eq_some_iff.1 hj
  refine ⟨a.eval y, ?_, held_rep (hk y (List.mem_of_getElem? hy)) hh⟩
  rw [Array.getElem?_map, ← Array.getElem?_toList, hy]
  rfl
theorem rhs_sound (h : Inv P F g s a w) {o : Oper} (hr : reads P o.op = true) (hok : okOp o = true) {x : AV} (hx : rhs P o s = some x) : Tells P w (execOp a.eval o) (RepS P g w x) := by
  have hk := fun (y : Operand) (hy : y ∈ o.op.operands.toList) => h.ev y (okOp_mem hok hy)
  obtain ⟨dst, op, ty, pos, after, guard⟩ := o
  unfold rhs at hx
  unfold execOp
  cases op <;> dsimp only at hx ⊢ <;> simp only [reads] at hr <;> first | cases hr; done | skip
  case move y =>
    cases hx
    exact ⟨_, rfl, hk y (by simp [Op.operands])⟩
  case makeFunc fn xs cs =>
    cases fn <;> dsimp only at hx <;> first | (cases hx; done) | skip
    rename_i f
    cases hc : ((xs.toList.map s.ev).all AV.held && (cs.toList.map s.ev).all AV.held) <;> rw [hc] at hx
    · cases hx
    · cases hx
      simp only [Bool.and_eq_true] at hc
      refine ⟨.func (.func f) (xs.map a.eval) (cs.map a.eval), by simp [Instr.makeFunc], (xs.map a.eval), (cs.map a.eval), rfl, by simp, by simp, held_map xs (fun y hy => hk y (by simp only [Op.operands, Array.toList_append, List.mem_append]; exact .inl hy)) hc.1, held_map cs (fun y hy => hk y (by simp only [Op.operands, Array.toList_append, List.mem_append]; exact .inr hy)) hc.2⟩
  case load T y =>
    obtain ⟨cs, hcs, hp⟩ := Option.bind_eq_some_iff.1 hx
    obtain ⟨β, off, hv, hc⟩ := cellsOf_sound h (hk y (by simp [Op.operands])) hcs
    refine Runs.tells ?_
    show Runs P w (do loadVar T (← Instr.sureAddr (a.eval y))) _
    rw [hv]
    exact (runs_pure (Q := (· = (⟨β, off, none⟩ : Addr))) rfl).bind fun ad he => he ▸ loadVar_sound hc hp
  case pick c y z =>
    have hc := hk c (by simp [Op.operands])
    have hy := hk y (by simp [Op.operands])
    have hz := hk z (by simp [Op.operands])
    cases hcv : s.ev c <;> rw [hcv] at hx hc <;> first | cases hx; done | skip
    rename_i cv
    cases cv <;> first | cases hx; done | skip
    rename_i b
    obtain ⟨he, _⟩ := hc
    refine ⟨if b then a.eval y else a.eval z, by simp [he, asBool], ?_⟩
    cases b
    · simp only [Bool.false_eq_true, if_false, cond_false] at hx ⊢
      split at hx
      · rename_i e1 e2; cases hx; rw [e2] at hz; exact hz
      · cases hx; exact hz
    · simp only [if_true, cond_true] at hx ⊢
      split at hx
      · rename_i e1 e2; cases hx; rw [e1] at hy; exact hy
      · cases hx; exact hy
  case nilCheck y =>
    have hy := hk y (by simp [Op.operands])
    cases hyv : s.ev y <;> rw [hyv] at hx hy <;> first | cases hx; done | skip
    · rename_i d off
      cases hx
      obtain ⟨β, hb, he⟩ := (show RepC P g w (.box d off) (a.eval y) from hy)
      exact ⟨_, by simp [he], ⟨β, hb, rfl⟩⟩
    · rename_i cs
      cases hx
      obtain ⟨β, o, he, hc⟩ := (show RepC P g w (.ro cs) (a.eval y) from hy)
      exact ⟨_, by simp [he], ⟨β, o, rfl, hc⟩⟩
  case binOp op T y z U =>
    have hy := hk y (by simp [Op.operands])
    have hz := hk z (by simp [Op.operands])
    cases hyv : s.ev y <;> rw [hyv] at hx hy <;> first | cases hx; done | skip
    cases hzv : s.ev z <;> rw [hzv] at hx hz <;> first | cases hx; done | skip
    rename_i av bv
    try dsimp only at hx
    cases hbo : boolOk P T z av <;> rw [hbo] at hx
    · cases hx
    obtain ⟨r, hp, rfl⟩ := Option.map_eq_some_iff.1 hx
    obtain ⟨ey, _⟩ := (show a.eval y = av ∧ _ from hy)
    obtain ⟨ez, _⟩ := (show a.eval z = bv ∧ _ from hz)
    refine Runs.tells ?_
    rw [ey, ez]
    exact binOp_sound T hbo hp
  case unOp op T y =>
    have hy := hk y (by simp [Op.operands])
    cases hyv : s.ev y <;> rw [hyv] at hx hy <;> first | cases hx; done | skip
    rename_i av
    obtain ⟨r, hp, rfl⟩ := Option.map_eq_some_iff.1 hx
    obtain ⟨ey, _⟩ := (show a.eval y = av ∧ _ from hy)
    refine Runs.tells ?_
    rw [ey]
    cases op <;> cases av <;> simp only [unOpV] at hp <;> first | cases hp; done | skip
    all_goals (cases hp; refine ⟨_, ?_, ⟨rfl, rfl⟩⟩; simp [Op.unary, Op.intArith])
  case extract y i =>
    have hy := hk y (by simp [Op.operands])
    cases hyv : s.ev y <;> rw [hyv] at hx hy <;> first | cases hx; done | skip
    rename_i vs
    obtain ⟨us, e1, e2, e3⟩ := hy
    obtain ⟨c, hcx, hx⟩ := Option.bind_eq_some_iff.1 hx
    cases hf : c.noTup <;> rw [hf] at hx <;> cases hx
    obtain ⟨u, hu, hr⟩ := e3 i _ hcx
    refine Runs.tells ⟨u, ?_, hr.S⟩
    rw [e1]
    simp [Instr.extract, hu]
  case index T y i =>
    have hy := hk y (by simp [Op.operands])
    have hi := hk i (by simp [Op.operands])
    try dsimp only at hx
    cases hyv : s.ev y <;> rw [hyv] at hx hy <;> first | cases hx; done | skip
    rename_i yv
    cases yv <;> first | cases hx; done | skip
    rename_i str
    cases hiv : s.ev i <;> rw [hiv] at hx hi <;> first | cases hx; done | skip
    rename_i iv
    cases iv <;> first | cases hx; done | skip
    rename_i k n
    try dsimp only at hx
    cases hc : (strT P T && decide (0 ≤ n) && decide (n < str.size)) <;> rw [hc] at hx
    · cases hx
    · cases hx
      simp only [Bool.and_eq_true, decide_eq_true_eq] at hc
      obtain ⟨ey, _⟩ := (show a.eval y = .string str ∧ _ from hy)
      obtain ⟨ei, _⟩ := (show a.eval i = .int k n ∧ _ from hi)
      refine Runs.tells ?_
      rw [ey, ei]
      exact index_sound (strT_eq hc.1.1) hc.1.2 hc.2
  case fieldAddr T y f =>
    have hy := hk y (by simp [Op.operands])
    obtain ⟨⟨off, U⟩, hf, hx⟩ := Option.bind_eq_some_iff.1 hx
    obtain ⟨n, hn, hx⟩ := Option.bind_eq_some_iff.1 hx
    try dsimp only at hx
    cases h0 : (n == 0) <;> rw [h0] at hx
    · simp only [cond_false] at hx
      have hn0 : n ≠ 0 := by simpa using h0
      cases hyv : s.ev y <;> rw [hyv] at hx hy <;> first | cases hx; done | skip
      · rename_i d o
        cases hx
        obtain ⟨β, hb, he⟩ := (show RepC P g w (.box d o) (a.eval y) from hy)
        rw [he]
        exact ((fieldAt_sound hf hn hn0).bind fun v hv => runs_pure (Q := RepS P g w (.box d (o + off))) (by rw [hv]; exact ⟨β, hb, rfl⟩)).tells'
      · rename_i cs
        cases hx
        obtain ⟨β, o, he, hc⟩ := (show RepC P g w (.ro cs) (a.eval y) from hy)
        rw [he]
        refine ((fieldAt_sound hf hn hn0).bind fun v hv => runs_pure (Q := RepS P g w (.ro (cs.drop off))) ?_).tells'
        rw [hv]
        refine ⟨β, o + off, rfl, fun j c hj => ?_⟩
        rw [List.getElem?_drop] at hj
        obtain ⟨u, h1, h2, h3⟩ := hc _ c hj
        exact ⟨u, by rw [← h1]; congr 2; omega, by rw [show o + off + j = o + (off + j) by omega]; exact h2, h3⟩
    · cases hx
  case field T y f =>
    have hy := hk y (by simp [Op.operands])
    obtain ⟨⟨off, U⟩, hf, hx⟩ := Option.bind_eq_some_iff.1 hx
    try dsimp only at hx
    cases hyv : s.ev y <;> rw [hyv] at hx hy <;> first | cases hx; done | skip
    rename_i cs
    obtain ⟨vs, e1, e2, e3⟩ := hy
    refine Runs.tells ?_
    rw [e1]
    exact field_sound hf e2 e3 hx
  case indexAddr T y i =>
    have hy := hk y (by simp [Op.operands])
    have hi := hk i (by simp [Op.operands])
    try dsimp only at hx
    cases hyv : s.ev y <;> rw [hyv] at hx hy <;> first | cases hx; done | skip
    cases hiv : s.ev i <;> rw [hiv] at hx hi <;> first | cases hx; done | skip
    rename_i t E l iv
    cases iv <;> first | cases hx; done | skip
    rename_i k n
    try dsimp only at hx
    cases hE : (elemT P T == some E) <;> rw [hE] at hx
    · cases hx
    simp only [cond_true] at hx
    obtain ⟨ks, hks, hx⟩ := Option.bind_eq_some_iff.1 hx
    cases hz : (szT P E == some ks.length) <;> rw [hz] at hx
    · cases hx
    simp only [cond_true] at hx
    obtain ⟨d, hd, hx⟩ := Option.bind_eq_some_iff.1 hx
    cases hx
    obtain ⟨ei, _⟩ := (show a.eval i = .int k n ∧ _ from hi)
    obtain ⟨hrow, _⟩ := (show RepC P g w (.row t E l) (a.eval y) from hy)
    refine Runs.tells ?_
    rw [ei]
    exact indexAt_sound (elemT_eq (by simpa using hE)) hks (by simpa using hz) hrow hd
  case slice T y lo hi mx =>
    cases mx <;> first | cases hx; done | skip
    have hy := hk y (by simp [Op.operands])
    dsimp only at hx
    cases hyv : s.ev y <;> rw [hyv] at hx hy <;> first | cases hx; done | skip
    · rename_i yv
      cases yv <;> first | cases hx; done | skip
      rename_i str
      obtain ⟨hh, ehh, hx⟩ := Option.bind_eq_some_iff.1 hx
      obtain ⟨ll, ell, hx⟩ := Option.bind_eq_some_iff.1 hx
      cases hc : (strT P T && decide (0 ≤ hh) && decide (hh ≤ str.size) && decide (0 ≤ ll) && decide (ll ≤ hh)) <;> rw [hc] at hx
      · cases hx
      · cases hx
        simp only [Bool.and_eq_true, decide_eq_true_eq] at hc
        obtain ⟨ey, _⟩ := (show a.eval y = .string str ∧ _ from hy)
        refine Runs.tells ?_
        rw [ey]
        show Runs P w (Instr.sliceAt T (.string str) (lo.map a.eval) (hi.map a.eval) none) _
        have hu := strT_eq hc.1.1.1.1
        simp only [Instr.sliceAt, Instr.slice]
        refine (runs_underlying hu).bind fun d hd => ?_
        subst hd
        refine (runs_underlying hu).bind fun d hd => ?_
        subst hd
        refine (runs_bounds (isSlice := false) (len := str.size) (cap := str.size) (bound_sound h (fun y hy => hk y (by simp [Op.operands, hy])) ehh) (bound_sound h (fun y hy => hk y (by simp [Op.operands, hy])) ell) hc.1.1.1.2 hc.1.1.2 hc.1.2 hc.2).bind fun r hr => ?_
        subst hr
        exact runs_pure ⟨rfl, rfl⟩
    · rename_i t E l
      obtain ⟨hh, ehh, hx⟩ := Option.bind_eq_some_iff.1 hx
      obtain ⟨ll, ell, hx⟩ := Option.bind_eq_some_iff.1 hx
      obtain ⟨ks, hks, hx⟩ := Option.bind_eq_some_iff.1 hx
      cases hc : (elemT P T == some E && szT P E == some ks.length && decide (0 ≤ hh) && decide (hh ≤ l.length) && decide (0 ≤ ll) && decide (ll ≤ hh)) <;> rw [hc] at hx
      · cases hx
      · cases hx
        simp only [Bool.and_eq_true, decide_eq_true_eq] at hc
        obtain ⟨hrow, _⟩ := (show RepC P g w (.row t E l) (a.eval y) from hy)
        refine Runs.tells ?_
        show Runs P w (Instr.sliceAt T (a.eval y) (lo.map a.eval) (hi.map a.eval) none) _
        have hu := elemT_eq (T := T) (E := E) (P := P) (by simpa using hc.1.1.1.1.1)
        exact sliceRow_sound hks (by simpa using hc.1.1.1.1.2) hu hrow (bound_sound h (fun y hy => hk y (by simp [Op.operands, hy])) ehh) (bound_sound h (fun y hy => hk y (by simp [Op.operands, hy])) ell) hc.1.1.1.2 hc.1.1.2 hc.1.2 hc.2
  case makeInterface T y =>
    have hy := hk y (by simp [Op.operands])
    cases hu : P.underlying T with
    | none => rw [hu] at hx; cases hx
    | some d =>
      rw [hu] at hx
      have hd : ∀ ms, d ≠ .interface ms := fun ms e => by subst e; cases hx
      have hx' : (match s.ev y with
        | .v a => some (AV.v (.iface T a))
        | .agg cs => (plainL cs).bind fun l => some (.v (.iface T (.agg l.toArray)))
        | _ => none) = some x := by
        cases d <;> first | exact hx | exact absurd rfl (hd _)
      have key : ∀ v, Runs P w (Instr.makeInterface T v) (· = .iface T v) := fun v => by
        simp only [Instr.makeInterface]
        refine (runs_underlying hu).bind fun d' hd' => ?_
        subst hd'
        split
        · exact absurd rfl (hd _)
        · exact runs_pure rfl
      cases hyv : s.ev y <;> rw [hyv] at hx' hy <;> first | cases hx'; done | skip
      · cases hx'
        obtain ⟨ey, _⟩ := hy
        refine Runs.tells ?_
        obtain ⟨v, hv, rfl⟩ := key (a.eval y)
        exact ⟨_, hv, by rw [ey]; exact ⟨rfl, rfl⟩⟩
      · rename_i cs
        obtain ⟨l, hl, hx'⟩ := Option.bind_eq_some_iff.1 hx'
        cases hx'
        obtain ⟨vs, e1, e2, e3⟩ := hy
        refine Runs.tells ?_
        obtain ⟨v, hv, rfl⟩ := key (a.eval y)
        refine ⟨_, hv, ?_⟩
        rw [e1, plainL_sound hl e2 e3]
        exact ⟨rfl, rfl⟩
  case convert src dst y =>
    have hy := hk y (by simp [Op.operands])
    try dsimp only at hx
    refine Runs.tells ?_
    cases hyv : s.ev y <;> rw [hyv] at hx hy <;> first | cases hx; done | skip
    · rename_i yv
      obtain ⟨r, hp, rfl⟩ := Option.map_eq_some_iff.1 hx
      obtain ⟨ey, _⟩ := (show a.eval y = yv ∧ _ from hy)
      rw [ey]
      exact convV_sound hp
    · rename_i t E l
      obtain ⟨hrow, _⟩ := (show RepC P g w (.row t E l) (a.eval y) from hy)
      exact convRow_sound hrow hx
  case build T ps =>
    obtain ⟨z, hz, hx⟩ := Option.bind_eq_some_iff.1 hx
    cases hf : fieldsOk P T <;> rw [hf] at hx
    · cases hx
    simp only [cond_true] at hx
    obtain ⟨l, hl, hx⟩ := Option.bind_eq_some_iff.1 hx
    obtain ⟨cs, hcs, hx⟩ := Option.bind_eq_some_iff.1 hx
    cases hx
    refine Runs.tells ?_
    exact build_sound hz hf hl hcs (fun i x hx => hk x (by simp [Op.operands]; exact ⟨_, by simpa using hx⟩))
  case call c =>
    obtain ⟨callee, args, Ts⟩ := c
    cases callee <;> first | cases hr; done | skip
    rename_i b
    cases b <;> first | cases hr; done | skip
    dsimp only at hx
    obtain ⟨args⟩ := args
    cases args with
    | nil => cases hx
    | cons y r =>
      cases r with
      | cons z r => cases hx
      | nil =>
        have hy := hk y (by simp [Op.operands, Call.operands])
        cases hT : Ts[0]? with
        | none => rw [hT] at hx; cases hx
        | some T =>
          rw [hT] at hx
          dsimp only at hx
          have hrun : ∀ v : Value, Runs P w (Builtin.len_ Ts ty #[a.eval y]) (RepS P g w x) → Tells P w (do let d ← resolve a.eval { callee := .builtin .len, args := #[y], argTypes := Ts } ty; invoke d.target d.args) (RepS P g w x) := fun _ hv => by
            obtain ⟨v, h1, h2⟩ := hv
            exact ⟨v, by simp [resolve, invoke, builtin, h1], h2⟩
          refine hrun undef ?_
          split at hx
          · rename_i t E' l hyv
            rw [hyv] at hy
            obtain ⟨hrow, _⟩ := (show RepC P g w (.row t E' l) (a.eval y) from hy)
            obtain ⟨A, cap, hv⟩ := hrow.slice
            cases hE : elemT P T with
            | none => rw [hE] at hx; cases hx
            | some E =>
              rw [hE] at hx
              cases hx
              rw [hv]
              exact ⟨_, by simp [Builtin.len_, hT, run_underlying (elemT_eq hE), goInt], ⟨rfl, rfl⟩⟩
          · rename_i str hyv
            rw [hyv] at hy
            obtain ⟨ey, _⟩ := (show a.eval y = .string str ∧ _ from hy)
            cases hs : strT P T <;> rw [hs] at hx <;> cases hx
            rw [ey]
            exact ⟨_, by simp [Builtin.len_, hT, run_underlying (strT_eq hs), goInt], ⟨rfl, rfl⟩⟩
          · rename_i hyv
            rw [hyv] at hy
            obtain ⟨ey, _⟩ := (show a.eval y = .slice none 0 0 ∧ _ from hy)
            cases hE : elemT P T with
            | none => rw [hE] at hx; cases hx
            | some E =>
              rw [hE] at hx
              cases hx
              rw [ey]
              exact ⟨_, by simp [Builtin.len_, hT, run_underlying (elemT_eq hE), goInt], ⟨rfl, rfl⟩⟩
          · cases hx
end
end Go.Proofs.YtckdgcpomkefpaaDoor.En
end
end
