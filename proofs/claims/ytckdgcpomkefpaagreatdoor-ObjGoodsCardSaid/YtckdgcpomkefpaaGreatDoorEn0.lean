/- A plain evaluator of the program's code over plain values: what a call answers, without memory. -/
import Derived.Test.YtckdgcpomkefpaaGreatDoorProg
set_option linter.unusedVariables false
namespace Go.Proofs.YtckdgcpomkefpaaGreatDoor.En
open Go

/-- Plain data: what lies in a slice. -/
inductive Dat where
  | int (n : Int) | bool (b : Bool) | str (s : ByteArray) | rows (l : List Dat) | agg (l : List Dat)
  deriving Inhabited
def Dat.at (d : Dat) (j : Nat) : Dat := match d with | .agg l => l.getD j (.int 0) | d => d
def Dat.toI : Dat → Int | .int n => n | _ => 0
def Dat.toB : Dat → Bool | .bool b => b | _ => false
def Dat.toS : Dat → ByteArray | .str s => s | _ => ⟨#[]⟩
def Dat.toL : Dat → List Dat | .rows l => l | _ => []
/-- The kinds of the cells of a type. -/
inductive CK where
  | int (k : IntKind) | bool | str | row (E : TypeId) | self | other
  deriving Inhabited
/-- Plain values: a value of one cell without references; a slice (who may append to it; its elements' type; they); a struct's cells; results; a variable in memory; an element's cells; nil or the address of its own cell; unknown. -/
inductive AV where
  | v (x : Value)
  | row (t : Option Nat) (E : TypeId) (l : List Dat)
  | agg (cs : List AV)
  | tup (vs : List AV)
  | box (d off : Nat)
  | ro (cs : List AV)
  | self (T : TypeId)
  | dead
  deriving Inhabited
abbrev Bx := List (Option (List AV))
inductive Out where
  | ret (v : AV) (bx : Bx)
  | thr (v : Value)
/-- What is told of a call: under which condition, and what comes of it. -/
abbrev CallF := FuncId → List AV → Bx → Option (Bool × Out)
structure St where
  t : List AV
  b : Bx

def I (n : Int) : AV := .v (.int .i64 n)
def B (b : Bool) : AV := .v (.bool b)
def S (s : ByteArray) : AV := .v (.string s)
def sub (d j : Nat) : Nat := (d + 1) * 1024 + j

/-! ### types -/
section
variable (P : Program)
def kindsF : Nat → TypeId → Option (List CK)
  | 0, _ => none
  | n + 1, T => match P.underlying T with
    | some (.int k) => some [.int k]
    | some .bool => some [.bool]
    | some .string => some [.str]
    | some (.slice E) => some [.row E]
    | some (.struct fs) => (fs.toList.map fun f => (match P.underlying f.type with
        | some (.pointer E) => some [bif E == T then CK.self else CK.other]
        | _ => kindsF n f.type)).foldr (fun a b => a.bind fun x => b.bind fun y => some (x ++ y)) (some [])
    | some (.array _ _) => none
    | some _ => some [.other]
    | none => none
def kinds (T : TypeId) : Option (List CK) := kindsF P 9 T
def aggD : TypeDesc → Bool | .struct _ | .array _ _ => true | _ => false
def aggT (T : TypeId) : Option Bool := (P.underlying T).map aggD
def szT (T : TypeId) : Option Nat := (P.info? T).map (·.size)
def elemT (T : TypeId) : Option TypeId := match P.underlying T with | some (.slice E) => some E | _ => none
/-- An element's cells. -/
def expC (d : Dat) (k : CK) (j : Nat) : AV := match k with
  | .int k => .v (.int k (d.at j).toI)
  | .bool => .v (.bool (d.at j).toB)
  | .str => .v (.string (d.at j).toS)
  | .row E => .row none E (d.at j).toL
  | _ => .dead
def expand (d : Dat) : List CK → Nat → List AV
  | [], _ => []
  | k :: ks, j => expC d k j :: expand d ks (j + 1)
def packC : CK → AV → Option Dat
  | .int k, .v (.int k' n) => if k = k' then some (.int n) else none
  | .bool, .v (.bool b) => some (.bool b)
  | .str, .v (.string s) => some (.str s)
  | .row E, .row _ E' l => if E = E' then some (.rows l) else none
  | .row _, .v (.slice none 0 0) => some (.rows [])
  | _, _ => none
def packL : List CK → List AV → Option (List Dat)
  | [], [] => some []
  | k :: ks, a :: r => (packC k a).bind fun d => (packL ks r).bind fun l => some (d :: l)
  | _, _ => none
/-- A value as an element of a slice. -/
def pack (ks : List CK) (x : AV) : Option Dat := match x with
  | .agg cs => (packL ks cs).bind fun l => some (.agg l)
  | x => (match ks with | [k] => packC k x | _ => none)
/-- A cell j of box d: a nil slice may be appended to. -/
def cellAt (o : Option TypeId) (d j : Nat) (k : CK) (c : AV) : AV := match c with
  | .v (.slice none 0 0) => (match k with | .row E => .row (some (sub d j)) E [] | _ => .v (.slice none 0 0))
  | .v (.pointer none) => (match k with | .self => (match o with | some T => .self T | none => .v (.pointer none)) | _ => .v (.pointer none))
  | .row _ E l => .row none E l
  | .v x => .v x
  | .self _ => .dead
  | .dead => .dead
  | .ro cs => .ro cs
  | .box e f => .box e f
  | .agg cs => .agg cs
  | .tup cs => .tup cs
def cellsAt (o : Option TypeId) (d : Nat) : Nat → List CK → List AV → List AV
  | j, k :: ks, c :: cs => cellAt o d j k c :: cellsAt o d (j + 1) ks cs
  | _, _, _ => []
end

/-! ### tokens and boxes -/
def AV.tok1 (f : Option Nat → Option Nat) : AV → AV | .row t E l => .row (f t) E l | x => x
def AV.tok2 (f : Option Nat → Option Nat) : AV → AV | .agg cs => .agg (cs.map (AV.tok1 f)) | x => x.tok1 f
def AV.tok (f : Option Nat → Option Nat) : AV → AV | .tup vs => .tup (vs.map (AV.tok2 f)) | x => x.tok2 f
def AV.nobox1 (d : Nat) : AV → AV | .box e o => bif e == d then .dead else .box e o | x => x
def AV.nobox2 (d : Nat) : AV → AV | .agg vs => .agg (vs.map (AV.nobox1 d)) | x => x.nobox1 d
def AV.nobox (d : Nat) : AV → AV | .tup vs => .tup (vs.map (AV.nobox2 d)) | x => x.nobox2 d
def killF (n : Nat) : Option Nat → Option Nat | some m => bif m == n then none else some m | none => none
def killsF (d lo hi : Nat) : Option Nat → Option Nat | some m => bif m / 1024 == d + 1 && Nat.ble lo (m % 1024) && Nat.blt (m % 1024) hi then none else some m | none => none
def renF (n m : Nat) : Option Nat → Option Nat | some k => bif k == n then some m else some k | none => none
def noneF : Option Nat → Option Nat := fun _ => none
namespace St
def tok (s : St) (f : Option Nat → Option Nat) : St := ⟨s.t.map (AV.tok f), s.b.map (Option.map (List.map (AV.tok1 f)))⟩
def kill (s : St) (n : Nat) : St := s.tok (killF n)
def get (s : St) (n : Nat) : AV := s.t.getD n .dead
def put (s : St) (d : Option Nat) (x : AV) : St := match d with | some d => ⟨s.t.set d x, s.b⟩ | none => s
def ofV : Value → AV
  | .agg cs => .agg (cs.toList.map .v)
  | .tuple _ => .dead
  | x => .v x
def ev (s : St) : Operand → AV
  | .tmp t => s.get t
  | .const x => ofV x
  | .func f => .v (.func (.func f) #[] #[])
  | .global _ => .dead
def boxAt (s : St) (d : Nat) : Option (List AV) := s.b.getD d none
def setBox (s : St) (d : Nat) (cs : List AV) : St := ⟨s.t, s.b.set d (some cs)⟩
/-- A new box d. -/
def newBox (s : St) (d : Nat) (cs : List AV) : St :=
  let s := s.tok (killsF d 0 1024)
  ⟨(s.t.map (AV.nobox d)).set d (.box d 0), (s.b.map (Option.map (List.map (AV.nobox1 d)))).set d (some (cs.map (AV.nobox1 d)))⟩
def assign (P : Program) (s : St) (T : TypeId) (d : Nat) (x : AV) : St := match x with
  | .row (some n) E l => bif n == d then s.put (some d) x else ((s.kill d).tok (renF n d)).put (some d) (.row (some d) E l)
  | .v (.slice none 0 0) => (match elemT P T with
    | some E => (s.kill d).put (some d) (.row (some d) E [])
    | none => s.put (some d) x)
  | x => s.put (some d) x
end St

/-! ### operations -/
section
variable (P : Program)
def pureOp (op : BinOp) (x y : Value) : Option Value := match x, y with
  | .int k a, .int k' b => (match op with
    | .shl => bif decide (b < 0) then none else some (.int k (k.wrap (a * 2 ^ (min b.toNat k.bits))))
    | .shr => bif decide (b < 0) then none else some (.int k (a.fdiv (2 ^ (min b.toNat k.bits))))
    | op => if k = k' then (match op with
      | .add => some (.int k (k.wrap (a + b)))
      | .sub => some (.int k (k.wrap (a - b)))
      | .mul => some (.int k (k.wrap (a * b)))
      | .quo => bif decide (b = 0) then none else some (.int k (k.wrap (a.tdiv b)))
      | .rem => bif decide (b = 0) then none else some (.int k (a.tmod b))
      | .and => some (.int k (k.wrap (BitVec.ofInt k.bits a &&& BitVec.ofInt k.bits b).toNat))
      | .or => some (.int k (k.wrap (BitVec.ofInt k.bits a ||| BitVec.ofInt k.bits b).toNat))
      | .eql => some (.bool (a == b))
      | .neq => some (.bool (a != b))
      | .lss => some (.bool (decide (a < b)))
      | .leq => some (.bool (decide (a ≤ b)))
      | .gtr => some (.bool (decide (a > b)))
      | .geq => some (.bool (decide (a ≥ b)))
      | _ => none) else none)
  | .string a, .string b => (match op with
    | .add => bif decide (a.size + b.size ≤ 4611686018427387904) then some (.string (a ++ b)) else none
    | .eql => some (.bool (a.toList == b.toList))
    | .neq => some (.bool (!(a.toList == b.toList)))
    | _ => none)
  | .bool a, .bool b => (match op with
    | .eql => some (.bool (a == b))
    | .neq => some (.bool (!(a == b)))
    | _ => none)
  | .nilIface, .nilIface => (match op with
    | .eql => some (.bool true)
    | .neq => some (.bool false)
    | _ => none)
  | .iface _ _, .nilIface => (match op with
    | .eql => some (.bool false)
    | .neq => some (.bool true)
    | _ => none)
  | _, _ => none
/-- Two truth values are compared at a type of truth values. -/
def ifaceT (T : TypeId) : Bool := match P.underlying T with | some (.interface _) => true | _ => false
def constO : Operand → Bool | .const _ => true | _ => false
def boolOk (T : TypeId) (y : Operand) (x : Value) : Bool := match x with | .bool _ => (match P.underlying T with | some .bool => true | _ => false) | .nilIface => ifaceT P T && constO y | .iface _ _ => ifaceT P T | _ => true
def unOpV (op : UnOp) (x : Value) : Option Value := match op, x with
  | .neg, .int k n => some (.int k (k.wrap (0 - n)))
  | .not, .bool b => some (.bool !b)
  | _, _ => none
def convV (src dst : TypeId) (x : Value) : Option Value := match x with
  | .int _ n => (match P.underlying src, P.underlying dst with
    | some _, some (.int k) => some (.int k (k.wrap n))
    | _, _ => none)
  | .string s => (match P.underlying src, P.underlying dst with
    | some _, some .string => some (.string s)
    | _, _ => none)
  | .slice none 0 0 => (match P.underlying src, P.underlying dst with
    | some (.slice E), some .string => (match P.underlying E with | some (.int .u8) => some (.string ⟨#[]⟩) | _ => none)
    | _, _ => none)
  | _ => none
def bytesOf (l : List Dat) : ByteArray := ⟨(l.map fun d => UInt8.ofNat (d.at 0).toI.toNat).toArray⟩
def bytesTo (s : ByteArray) : List Dat := s.data.toList.map fun b => .int b.toNat
def idx (l : List Dat) (i : Int) : Option Dat := bif decide (0 ≤ i) then l[i.toNat]? else none
def bt (s : ByteArray) (i : Int) : Int := (s.data.getD i.toNat 0).toNat
def strT (T : TypeId) : Bool := match P.underlying T with | some .string => true | _ => false
def fieldOf (T : TypeId) (f : Nat) : Option (Nat × TypeId) := match P.underlying T with
  | some (.struct fs) => (fs[f]?).map fun f => (f.offset, f.type)
  | _ => none
def AV.flat : AV → Bool | .agg _ => false | .tup _ => false | _ => true
def AV.noTup : AV → Bool | .tup _ => false | _ => true
def partAV (T : TypeId) (cs : List AV) (off : Nat) : Option AV :=
  (aggT P T).bind fun ag => bif ag then (szT P T).bind fun n => bif Nat.ble (off + n) cs.length then some (.agg ((cs.drop off).take n)) else none
  else (cs[off]?).bind fun c => bif c.flat then some c else none
/-- The cells of a value. -/
def AV.cells : AV → List AV | .agg cs => cs | x => [x]
/-- Known, and of one cell. -/
def AV.one : AV → Bool | .v _ => true | .row .. => true | .box .. => true | .ro _ => true | _ => false
def fillAV : List AV → List (Nat × Nat × AV) → Option (List AV)
  | cs, [] => some cs
  | cs, (off, n, x) :: r => bif Nat.beq x.cells.length n && Nat.ble (off + n) cs.length && x.cells.all AV.one then fillAV (cs.take off ++ (x.cells ++ cs.drop (off + n))) r else none
def oneV : Value → Bool | .agg _ => false | .tuple _ => false | _ => true
def zeroCells (T : TypeId) : Option (List AV) := ((P.info? T).bind (·.zero)).bind fun z => bif z.cells.toList.all oneV then some (z.cells.toList.map AV.v) else none
def fitsN : Nat := 1099511627776
/-- Stripped of tokens and boxes. -/
def AV.bare : AV → AV
  | .row _ E l => .row none E l
  | .box _ _ => .dead
  | x => x
def AV.deself : AV → AV | .self _ => .dead | x => x
/-- The cells behind a pointer. -/
def St.cellsOf (s : St) : AV → Option (List AV)
  | .box d off => (s.boxAt d).map fun cs => (cs.drop off).map AV.deself
  | .ro cs => some (cs.map AV.bare)
  | _ => none
/-- A number in the slot of a bound. -/
def bound (s : St) (o : Option Operand) (d : Nat) : Option Int := match o with
  | none => some d
  | some o => (match s.ev o with | .v (.int _ n) => some n | _ => none)
def fieldsOk (T : TypeId) : Bool := match P.underlying T with
  | some (.struct fs) => fs.toList.all fun f => (szT P f.type).isSome
  | _ => false
def partsAV (s : St) (T : TypeId) : List (Nat × Operand) → Option (List (Nat × Nat × AV))
  | [] => some []
  | (i, x) :: r => (fieldOf P T i).bind fun (off, U) => (szT P U).bind fun n => (partsAV s T r).bind fun l => some ((off, n, s.ev x) :: l)
/-- A struct whose cells are all plain. -/
def plainL : List AV → Option (List Value)
  | [] => some []
  | .v x :: r => (plainL r).bind fun l => some (x :: l)
  | _ => none
/-- What an operation that only reads tells. -/
def rhs (o : Oper) (s : St) : Option AV :=
  match o.op with
  | .move x => some (s.ev x)
  | .pick c a b => (match s.ev c with
    | .v (.bool c) => (match s.ev a, s.ev b with
      | .v (.bool x), .v (.bool y) => some (B (bif c then x else y))
      | x, y => some (bif c then x else y))
    | _ => none)
  | .build T ps => (zeroCells P T).bind fun z =>
      bif fieldsOk P T then (partsAV P s T ps.toList).bind fun l => (fillAV z l).bind fun cs => some (.agg cs) else none
  | .load T a => (s.cellsOf (s.ev a)).bind fun cs => partAV P T cs 0
  | .nilCheck x => (match s.ev x with | .box d off => some (.box d off) | .ro cs => some (.ro cs) | _ => none)
  | .binOp op T x y _ => (match s.ev x, s.ev y with | .v a, .v b => bif boolOk P T y a then (pureOp op a b).map AV.v else none | _, _ => none)
  | .unOp op _ x => (match s.ev x with | .v a => (unOpV op a).map AV.v | _ => none)
  | .convert src dst x => (match s.ev x with
    | .row _ E l => (match P.underlying src, P.underlying dst with
      | some (.slice E'), some .string => (match P.underlying E' with
        | some (.int .u8) => bif E == E' then some (S (bytesOf l)) else none
        | _ => none)
      | _, _ => none)
    | .v a => (convV P src dst a).map AV.v
    | _ => none)
  | .makeInterface T x => (match P.underlying T with
    | some (.interface _) => none
    | none => none
    | _ => (match s.ev x with
      | .v a => some (.v (.iface T a))
      | .agg cs => (plainL cs).bind fun l => some (.v (.iface T (.agg l.toArray)))
      | _ => none))
  | .slice T x lo hi none => (match s.ev x with
    | .v (.string x) => (bound s hi x.size).bind fun h => (bound s lo 0).bind fun l =>
      bif strT P T && decide (0 ≤ h) && decide (h ≤ x.size) && decide (0 ≤ l) && decide (l ≤ h) then some (S (x.extract l.toNat h.toNat)) else none
    | .row _ E x => (bound s hi x.length).bind fun h => (bound s lo 0).bind fun l => (kinds P E).bind fun ks =>
      bif elemT P T == some E && szT P E == some ks.length && decide (0 ≤ h) && decide (h ≤ x.length) && decide (0 ≤ l) && decide (l ≤ h) then some (.row none E ((x.take h.toNat).drop l.toNat)) else none
    | _ => none)
  | .fieldAddr T x f => (fieldOf P T f).bind fun (off, U) => (szT P U).bind fun n => bif n == 0 then none else
    (match s.ev x with | .box d o => some (.box d (o + off)) | .ro cs => some (.ro (cs.drop off)) | _ => none)
  | .field T x f => (fieldOf P T f).bind fun (off, U) => (match s.ev x with | .agg cs => partAV P U cs off | _ => none)
  | .indexAddr T x i => (match s.ev x, s.ev i with
    | .row _ E l, .v (.int _ i) => bif elemT P T == some E then (kinds P E).bind fun ks => bif szT P E == some ks.length then (idx l i).bind fun d => some (.ro (expand d ks 0)) else none else none
    | _, _ => none)
  | .index T x i => (match s.ev x, s.ev i with
    | .v (.string x), .v (.int _ i) => bif strT P T && decide (0 ≤ i) && decide (i < x.size) then some (.v (.int .u8 (bt x i))) else none
    | _, _ => none)
  | .extract x i => (match s.ev x with | .tup vs => (vs[i]?).bind fun c => bif c.noTup then some c else none | _ => none)
  | .call { callee := .builtin .len, args := xs, argTypes := Ts } => (match xs.toList, Ts[0]? with
    | [x], some T => (match s.ev x with
      | .row _ _ l => bif (elemT P T).isSome then some (I l.length) else none
      | .v (.string x) => bif strT P T then some (I x.size) else none
      | .v (.slice none 0 0) => bif (elemT P T).isSome then some (I 0) else none
      | _ => none)
    | _, _ => none)
  | _ => none
/-- The same, with what comes behind it: conditions come first. -/
def pureK {β : Type} (op : BinOp) (x y : Value) (k : Value → Option β) : Option β := match x, y with
  | .int i a, .int j b => (match op with
    | .shl => bif decide (b < 0) then none else k (.int i (i.wrap (a * 2 ^ (min b.toNat i.bits))))
    | .shr => bif decide (b < 0) then none else k (.int i (a.fdiv (2 ^ (min b.toNat i.bits))))
    | .quo => if i = j then (bif decide (b = 0) then none else k (.int i (i.wrap (a.tdiv b)))) else none
    | .rem => if i = j then (bif decide (b = 0) then none else k (.int i (a.tmod b))) else none
    | op => (pureOp op (.int i a) (.int j b)).bind k)
  | .string a, .string b => (match op with
    | .add => bif decide (a.size + b.size ≤ 4611686018427387904) then k (.string (a ++ b)) else none
    | op => (pureOp op (.string a) (.string b)).bind k)
  | x, y => (pureOp op x y).bind k
def rhsK {β : Type} (o : Oper) (s : St) (k : AV → Option β) : Option β := match o.op with
  | .binOp op T x y _ => (match s.ev x, s.ev y with | .v a, .v b => bif boolOk P T y a then pureK op a b (fun v => k (.v v)) else none | _, _ => none)
  | .slice T x lo hi none => (match s.ev x with
    | .v (.string x) => (bound s hi x.size).bind fun h => (bound s lo 0).bind fun l =>
      bif strT P T && decide (0 ≤ h) && decide (h ≤ x.size) && decide (0 ≤ l) && decide (l ≤ h) then k (S (x.extract l.toNat h.toNat)) else none
    | .row _ E x => (bound s hi x.length).bind fun h => (bound s lo 0).bind fun l => (kinds P E).bind fun ks =>
      bif elemT P T == some E && szT P E == some ks.length && decide (0 ≤ h) && decide (h ≤ x.length) && decide (0 ≤ l) && decide (l ≤ h) then k (.row none E ((x.take h.toNat).drop l.toNat)) else none
    | _ => none)
  | .indexAddr T x i => (match s.ev x, s.ev i with
    | .row _ E l, .v (.int _ i) => bif elemT P T == some E then (kinds P E).bind fun ks => bif szT P E == some ks.length then (idx l i).bind fun d => k (.ro (expand d ks 0)) else none else none
    | _, _ => none)
  | .index T x i => (match s.ev x, s.ev i with
    | .v (.string x), .v (.int _ i) => bif strT P T && decide (0 ≤ i) && decide (i < x.size) then k (.v (.int .u8 (bt x i))) else none
    | _, _ => none)
  | _ => (rhs P o s).bind k
/-- Does it only read? -/
def reads (o : Op) : Bool := match o with
  | .move _ | .pick .. | .build .. | .load .. | .nilCheck _ | .binOp .. | .unOp .. | .makeInterface .. | .slice .. | .fieldAddr .. | .field .. | .indexAddr .. | .index .. | .extract .. => true
  | .convert _ dst _ => (match P.underlying dst with | some (.slice _) => false | _ => true)
  | .call { callee := .builtin .len, .. } => true
  | _ => false
def storeAV (s : St) (T : TypeId) (a x : AV) : Option St := match a with
  | .box d off => (s.boxAt d).bind fun cs => (kinds P T).bind fun ks => (szT P T).bind fun n =>
    bif n == ks.length && x.cells.all AV.one && Nat.beq x.cells.length n && Nat.ble (off + n) cs.length && Nat.ble cs.length 1024 then
      (match x with
      | .row (some m) E l => bif m == sub d off then some (s.setBox d (cs.set off x)) else
        let s1 := (s.kill (sub d off)).tok (renF m (sub d off))
        (s1.boxAt d).map fun cs => s1.setBox d (cs.set off (.row (some (sub d off)) E l))
      | x => let s1 := s.tok (killsF d off (off + n))
        (s1.boxAt d).map fun cs => s1.setBox d (cs.take off ++ (cellsAt none d off ks x.cells ++ cs.drop (off + n)))) else none
  | _ => none
/-- A cell j of box e that is handed over as one of box d: its own token goes along. -/
def AV.give (e d j : Nat) : AV → AV
  | .row (some m) E l => .row (bif m == sub e j then some (sub d j) else none) E l
  | .box _ _ => .dead
  | x => x
def giveL (e d : Nat) : Nat → List AV → List AV
  | _, [] => []
  | j, c :: cs => c.give e d j :: giveL e d (j + 1) cs
/-- The types of a callee's parameters. -/
def parL (P : Program) (f : FuncId) (Ts : Array TypeId) : List TypeId := match P.funcs[f]? with | some fn => fn.params.toList | none => Ts.toList
def ptrOf (P : Program) (T : TypeId) : Option TypeId := match P.underlying T with | some (.pointer E) => some E | _ => none
/-- What a callee is given: its arguments; its boxes, by its parameters' numbers; which box here each is; the token that goes along. -/
structure Pass where
  xs : List AV
  bs : Bx
  ls : List (Option Nat)
  tk : Option Nat
/-- No slice is an empty row. -/
def nil1 : CK → AV → AV
  | .row E, .v (.slice none 0 0) => .row none E []
  | _, c => c
def nil2 : List CK → List AV → List AV
  | k :: ks, c :: cs => nil1 k c :: nil2 ks cs
  | _, cs => cs
def nilL (ks : Option (List CK)) (cs : List AV) : List AV := match ks with | some ks => nil2 ks cs | none => cs
def argsFor (take : Option Nat) (s : St) : List TypeId → List AV → Nat → Option Pass
  | [], [], _ => some ⟨[], [], [], none⟩
  | T :: Ts, x :: xs, i => (argsFor take s Ts xs (i + 1)).bind fun p => match x with
    | .box d off => (match ptrOf P T with
      | some E => (s.boxAt d).bind fun cs =>
        bif off == 0 && szT P E == some cs.length && Nat.ble cs.length 1024 && !p.ls.contains (some d) then
          some ⟨.box i 0 :: p.xs, some (giveL d i 0 cs) :: p.bs, some d :: p.ls, p.tk⟩ else none
      | none => none)
    | .row t E l => (match t with
      | some n => bif take == some i && Nat.blt n 1024 then some ⟨.row (some i) E l :: p.xs, none :: p.bs, none :: p.ls, some n⟩ else some ⟨.row none E l :: p.xs, none :: p.bs, none :: p.ls, p.tk⟩
      | none => some ⟨.row none E l :: p.xs, none :: p.bs, none :: p.ls, p.tk⟩)
    | .v (.slice none 0 0) => (match elemT P T with
      | some E => some ⟨.row (some i) E [] :: p.xs, none :: p.bs, none :: p.ls, p.tk⟩
      | none => none)
    | .v y => some ⟨.v y :: p.xs, none :: p.bs, none :: p.ls, p.tk⟩
    | .agg cs => some ⟨.agg ((nilL (kinds P T) cs).map AV.bare) :: p.xs, none :: p.bs, none :: p.ls, p.tk⟩
    | _ => none
  | _, _, _ => none
/-- Back from a call: boxes are written back. -/
def backS : Nat → List (Option Nat) → Bx → St → Option St
  | _, [], _, s => some s
  | i, none :: ls, _ :: bs, s => backS (i + 1) ls bs s
  | i, some d :: ls, some cs :: bs, s => (s.boxAt d).bind fun old => bif Nat.beq cs.length old.length then backS (i + 1) ls bs (s.setBox d (giveL i d 0 cs)) else none
  | _, _, _, _ => none
/-- The tokens that a call takes along are no longer here. -/
def lossOf (m : Nat) : Option Nat → Bool | some d => m / 1024 == d + 1 | none => false
def lostB (p : Pass) (dst : Option Nat) (m : Nat) : Bool := p.tk == some m || p.ls.any (lossOf m) || (match dst with | some d => m == d || m / 1024 == d + 1 | none => false)
def lostF (p : Pass) (dst : Option Nat) : Option Nat → Option Nat
  | some m => bif lostB p dst m then none else some m
  | none => none
def dstOk (p : Pass) : Option Nat → Bool | some d => Nat.blt d 1024 && !p.ls.contains (some d) | none => true
/-- Names for the tokens of a result. -/
def AV.name (m : Nat) : AV → AV | .row (some _) E l => .row (some m) E l | x => x
def nameL (d : Nat) : Nat → List AV → List AV
  | _, [] => []
  | j, c :: cs => c.name (sub d j) :: nameL d (j + 1) cs
def newTok (dst : Option Nat) (x : AV) : Option AV := match dst with
  | some d => (match x with
    | .tup vs => bif Nat.ble vs.length 1024 then some (.tup (nameL d 0 vs)) else none
    | x => some (x.name d))
  | none => some .dead
/-- A value without references needs no tokens. -/
def dstN (v : AV) (dst : Option Nat) : Option Nat := match v with | .v _ => none | _ => dst
/-- Is an append's element type one that is told here? -/
def appOk (Ts : Array TypeId) (E : TypeId) : Bool := match Ts[0]?, Ts[1]? with
  | some T, some U => elemT P T == some E && (match P.underlying U with | some (.slice _) | some .string => true | _ => false) &&
    (match kinds P E, P.info? E with
    | some ks, some i => i.size == ks.length && Nat.blt 0 ks.length && Nat.ble i.bytes 128 && (match i.zero with | some z => Nat.beq z.cells.size ks.length | none => false)
    | _, _ => false)
  | _, _ => false
def appendAV (Ts : Array TypeId) (xs : List AV) (s : St) (d : Nat) : Option St := match xs with
  | [.row (some n) E l, y] => bif appOk P Ts E then (match y with
    | .row _ E' m => bif E == E' && Nat.ble (l.length + m.length) fitsN then some (((s.kill n).kill d).put (some d) (.row (some d) E (l ++ m))) else none
    | .v (.slice none 0 0) => bif Nat.ble l.length fitsN then some (((s.kill n).kill d).put (some d) (.row (some d) E l)) else none
    | .v (.string x) => (match P.underlying E with
      | some (.int .u8) => bif Nat.ble (l.length + x.size) fitsN then some (((s.kill n).kill d).put (some d) (.row (some d) E (l ++ bytesTo x))) else none
      | _ => none)
    | _ => none) else none
  | _ => none
/-- The same, with what comes behind it: conditions come first. -/
def appendK {β : Type} (Ts : Array TypeId) (xs : List AV) (s : St) (d : Nat) (k : St → Option β) : Option β := match xs with
  | [.row (some n) E l, y] => bif appOk P Ts E then (match y with
    | .row _ E' m => bif E == E' && Nat.ble (l.length + m.length) fitsN then k (((s.kill n).kill d).put (some d) (.row (some d) E (l ++ m))) else none
    | .v (.slice none 0 0) => bif Nat.ble l.length fitsN then k (((s.kill n).kill d).put (some d) (.row (some d) E l)) else none
    | .v (.string x) => (match P.underlying E with
      | some (.int .u8) => bif Nat.ble (l.length + x.size) fitsN then k (((s.kill n).kill d).put (some d) (.row (some d) E (l ++ bytesTo x))) else none
      | _ => none)
    | _ => none) else none
  | _ => none
theorem appendK_eq {β : Type} (Ts : Array TypeId) (xs : List AV) (s : St) (d : Nat) (k : St → Option β) : appendK P Ts xs s d k = (appendAV P Ts xs s d).bind k := by
  have hb : ∀ (c : Bool) (x : St), (bif c then k x else none) = (bif c then some x else none : Option St).bind k := fun c x => by cases c <;> rfl
  have hb2 : ∀ (c : Bool) (x : Option St), (bif c then x.bind k else none) = (bif c then x else none).bind k := fun c x => by cases c <;> rfl
  unfold appendK appendAV
  split
  · rw [← hb2]
    congr 1
    split
    · exact hb _ _
    · exact hb _ _
    · split
      · exact hb _ _
      · rfl
    · rfl
  · rfl
def partsF (ks : List CK) : List (Nat × AV) → Nat → Option (List Dat)
  | [], _ => some []
  | (i, x) :: r, n => bif i == n then (pack ks x).bind fun d => (partsF ks r (n + 1)).bind fun l => some (d :: l) else none
/-- The others. -/
def evX {β : Type} (np : Nat) (takes : FuncId → Option Nat) (call : CallF) (thr : Value → Option β) (o : Oper) (s : St) (k : St → Option β) : Option β :=
  match o.op, o.dst with
  | .assign x, some d => k (s.assign P o.type d (s.ev x))
  | .alloc T, some d => (zeroCells P T).bind fun z => (kinds P T).bind fun ks => bif Nat.ble np d && Nat.ble ks.length 1024 && Nat.beq z.length ks.length && Nat.blt d s.t.length then k (s.newBox d (cellsAt (some T) d 0 ks z)) else none
  | .box T x, some d => (kinds P T).bind fun ks => bif Nat.ble np d && Nat.ble ks.length 1024 && Nat.beq (s.ev x).cells.length ks.length && (s.ev x).cells.all AV.one && Nat.blt d s.t.length then k (s.newBox d (cellsAt (some T) d 0 ks (s.ev x).cells)) else none
  | .buildSlice T n ps, some d => (elemT P T).bind fun E => (kinds P E).bind fun ks => (partsF ks (ps.toList.map fun (i, x) => (i, s.ev x)) 0).bind fun l =>
      bif Nat.beq l.length n && szT P E == some ks.length && (zeroCells P E).isSome && Nat.ble (n * ks.length) 16777216 && Nat.blt 0 ks.length && Nat.blt d s.t.length && ps.toList.all (fun p => (s.ev p.2).cells.all AV.one) then k ((s.kill d).put (some d) (.row (some d) E l)) else none
  | .convert src dst x, some d => (match s.ev x with
    | .v (.string x) => (match P.underlying src, P.underlying dst with
      | some .string, some (.slice E) => (match P.underlying E with
        | some (.int .u8) => bif Nat.ble x.size fitsN && szT P E == some 1 then k (s.put (some d) (.row none E (bytesTo x))) else none
        | _ => none)
      | _, _ => none)
    | _ => none)
  | .store T a x, none => (storeAV P s T (s.ev a) (s.ev x)).bind k
  | .panic x, _ => (match s.ev x with | .v (.iface T a) => thr (.iface T a) | _ => none)
  | .call { callee := .builtin .append, args := xs, argTypes := Ts }, some d => bif Nat.blt d s.t.length then appendK P Ts (xs.toList.map s.ev) s d k else none
  | .call { callee := .value (.func f), args := xs, argTypes := Ts }, dst =>
    bif Nat.ble xs.size 1024 then (argsFor P (takes f) s (parL P f Ts) (xs.toList.map s.ev) 0).bind fun p => bif dstOk p dst then
      (call f p.xs p.bs).bind fun q => bif q.1 then (match q.2 with
        | .thr v => thr v
        | .ret v bs => (backS 0 p.ls bs (s.tok (lostF p (dstN v dst)))).bind fun s => (newTok dst v).bind fun x => k (s.put dst x)) else none else none else none
  | _, _ => none
/-- In a region that draws its order a new slice's value is taken without the right to append to it. -/
def bsOp (o : Oper) : Bool := match o.op with | .buildSlice .. => true | .convert .. => true | _ => false
def rhsB (o : Oper) (s : St) : Option AV := match o.op, o.dst with
  | .buildSlice T n ps, some d => (elemT P T).bind fun E => (kinds P E).bind fun ks => (partsF ks (ps.toList.map fun (i, x) => (i, s.ev x)) 0).bind fun l =>
      bif Nat.beq l.length n && szT P E == some ks.length && (zeroCells P E).isSome && Nat.ble (n * ks.length) 16777216 && Nat.blt 0 ks.length && Nat.blt d s.t.length && ps.toList.all (fun p => (s.ev p.2).cells.all AV.one) then some (.row none E l) else none
  | .convert src dst x, some d => (match s.ev x with
    | .v (.string x) => (match P.underlying src, P.underlying dst with
      | some .string, some (.slice E) => (match P.underlying E with
        | some (.int .u8) => bif Nat.ble x.size fitsN && szT P E == some 1 then some (.row none E (bytesTo x)) else none
        | _ => none)
      | _, _ => none)
    | _ => none)
  | _, _ => none
def evOp {β : Type} (np : Nat) (dr : Bool) (takes : FuncId → Option Nat) (call : CallF) (thr : Value → Option β) (o : Oper) (s : St) (k : St → Option β) : Option β :=
  bif reads P o.op then rhsK P o s (fun x => k (s.put o.dst x)) else bif dr && bsOp o then (rhsB P o s).bind fun x => k (s.put o.dst x) else evX P np takes call thr o s k
end
/-! ### code -/
def opMask (x : Operand) : Nat := match x with | .tmp t => 2 ^ t | _ => 0
def useMask (o : Op) : Nat := o.operands.toList.foldl (fun m x => m ||| opMask x) 0
def liveOps : List Oper → Nat → Nat
  | [], out => out
  | o :: r, out => let l := liveOps r out
    let l := match o.dst, o.guard with | some d, none => l &&& (l ^^^ 2 ^ d) | _, _ => l
    l ||| useMask o.op
def lk (ex : List (Nat × Nat)) (id : Nat) : Nat := ((ex.find? fun p => p.1 == id).map (·.2)).getD 0
def liveC (ret : Nat) : Code → Nat → List (Nat × Nat) → Nat
  | .region _ ops _, out, _ => liveOps ops.toList out
  | .seq a b, out, ex => liveC ret a (liveC ret b out ex) ex
  | .cond c a b, out, ex => opMask c ||| (liveC ret a out ex ||| liveC ret b out ex)
  | .block id c, out, ex => liveC ret c out ((id, out) :: ex)
  | .loop c, _, ex => liveC ret c (liveC ret c (liveC ret c 0 ex) ex) ex
  | .exit id, _, ex => lk ex id
  | .ret, _, _ => ret
  | _, out, _ => out
inductive Ex where | normal | exit (id : Nat) | ret
  deriving DecidableEq, Inhabited
def AV.ref1 : AV → List Nat | .box d _ => [d] | _ => []
def AV.refs : AV → List Nat | .agg vs => vs.flatMap AV.ref1 | .tup vs => vs.flatMap AV.ref1 | x => x.ref1
def pruneT (mask : Nat) : Nat → List AV → List AV
  | _, [] => []
  | i, x :: r => (bif mask.testBit i then x else .dead) :: pruneT mask (i + 1) r
def pruneB (np : Nat) (u : List Nat) : Nat → Bx → Bx
  | _, [] => []
  | i, none :: r => none :: pruneB np u (i + 1) r
  | i, some cs :: r => (bif Nat.blt i np || u.contains i then some cs else none) :: pruneB np u (i + 1) r
def usedB (t : List AV) (b : Bx) : List Nat := t.flatMap AV.refs ++ (t.flatMap AV.refs).flatMap fun d => ((b.getD d none).getD []).flatMap AV.ref1
def St.prune (np mask : Nat) (s : St) : St := ⟨pruneT mask 0 s.t, pruneB np (usedB (pruneT mask 0 s.t) s.b) 0 s.b⟩
abbrev KC (β : Type) := Ex → St → Option β
def iter {β : Type} (body : St → KC β → Option β) : Nat → St → KC β → Option β
  | 0, _, _ => none
  | n + 1, s, k => body s (fun x s => match x with
    | .normal => iter body n s k
    | .exit id => k (.exit id) s
    | .ret => k .ret s)
section
variable (P : Program) (np : Nat) (takes : FuncId → Option Nat) (call : CallF) (ret n : Nat)
/-- What a guard's operation has told: nothing is known; it was passed over; a truth value. -/
def yieldB (s : St) (ops : List Oper) (j : Nat) : Option (Option Bool) := match (ops[j]?).bind (·.dst) with
  | some d => (match s.get d with | .v (.bool b) => some (some b) | .tup [] => some none | _ => none)
  | none => none
/-- Is an operation wanted? -/
def wantB (s : St) (ops : List Oper) (g : Option (Nat × Bool)) : Option Bool := match g with
  | none => some true
  | some (j, want) => (match yieldB s ops j with
    | some none => some false
    | some (some b) => some (b == want)
    | none => none)
def noPtr (P : Program) (f : FuncId) (Ts : Array TypeId) : Bool := (parL P f Ts).all fun T => (ptrOf P T).isNone
/-- One result, of one cell and without references. -/
def flatRes (f : FuncId) : Bool := match P.funcs[f]? with
  | some fn => fn.resultTypes.size == 1 && fn.resultTypes.toList.all fun T => match P.underlying T with | some (.int _) | some .bool | some .string => true | _ => false
  | none => false
/-- Operations that may touch nothing but their own temporaries. -/
def quietOp (o : Oper) : Bool := reads P o.op || (match o.op with
  | .call { callee := .value (.func f), argTypes := Ts, .. } => (takes f).isNone && noPtr P f Ts && flatRes P f
  | _ => false)
/-- The operations up to the pick that ends a guarded group. -/
def groupOf (tj : Nat) : List Oper → Option (List Oper × Oper × List Oper)
  | [] => none
  | o :: r => match o.op with
    | .pick (.tmp c) _ _ => bif c == tj then some ([], o, r) else (groupOf tj r).map fun (g, p, r) => (o :: g, p, r)
    | _ => (groupOf tj r).map fun (g, p, r) => (o :: g, p, r)
def forgetL (D : List Nat) : Nat → List AV → List AV
  | _, [] => []
  | i, x :: r => (bif D.contains i then .dead else x) :: forgetL D (i + 1) r
def forget (D : List Nat) (s : St) : St := ⟨forgetL D 0 s.t, s.b⟩
def dstsOf (g : List Oper) : List Nat := g.filterMap (·.dst)
def deadAll (g : List Oper) (s : St) : St := forget (dstsOf g) s
def asB : AV → Option Bool | .v (.bool b) => some b | _ => none
/-- A guarded group of quiet operations, and its pick. -/
def join (tj : Nat) (l : List Oper) : Option (List Oper × Oper × Operand × Operand × List Oper) := (groupOf tj l).bind fun (g, p, r) => match p.op with
  | .pick _ x y => bif g.all (quietOp P takes) && p.dst.isSome && g.all (fun o => o.dst != some tj) then some (g, p, x, y, r) else none
  | _ => none
/-- Calls that are handed nothing to write to, and tell a value without references. -/
def quietC (call : CallF) : CallF := fun f xs bs => bif bs.all Option.isNone then (match call f xs bs with
  | some (b, .ret (.v x) bs') => some (b, .ret (.v x) bs')
  | _ => none) else none
def tmpOf (ops : List Oper) (j : Nat) : Option Nat := (ops[j]?).bind (·.dst)
def evOps {β : Type} (dr : Bool) (takes : FuncId → Option Nat) (call : CallF) (thr : Value → Option β) (ops : List Oper) : Nat → List Oper → St → (St → Option β) → Option β
  | 0, _, _, _ => none
  | _ + 1, [], s, k => k s
  | m + 1, o :: r, s, k => match o.guard with
    | none => evOp P np dr takes call thr o s (fun s => evOps dr takes call thr ops m r s k)
    | some (j, want) => (match yieldB s ops j with
      | none => none
      | some none => evOps dr takes call thr ops m r (s.put o.dst (.tup [])) k
      | some (some b) => (match tmpOf ops j with
        | none => none
        | some tj => (match join P takes tj (o :: r) with
          | some (g, p, x, y, r') => (wantB (deadAll g s) ops p.guard).bind fun pw =>
              (bif b then evOps dr (fun _ => none) (quietC call) (fun _ => none) ops m g (s.put (some tj) (B true)) (fun s => asB (s.ev x)) else evOps dr (fun _ => none) (quietC call) (fun _ => none) ops m g (s.put (some tj) (B false)) (fun s => asB (s.ev y))).bind fun t =>
                evOps dr takes call thr ops m r' ((deadAll g s).put p.dst (bif pw then B t else .tup [])) k
          | none => bif b == want then evOp P np dr takes call thr o (s.put (some tj) (B want)) (fun s => evOps dr takes call thr ops m r s k) else evOps dr takes call thr ops m r ((s.put (some tj) (B !want)).put o.dst (.tup [])) k)))
/-- Which operations each one waits for, by what follows from what. -/
def maskOf (o : Oper) (ms : List Nat) : Nat := o.after.toList.foldl (fun m e => bif Region.binds .any e then m ||| (2 ^ e.on ||| ms.getD e.on 0) else m) 0
def masks : List Oper → List Nat → List Nat
  | [], ms => ms
  | o :: r, ms => masks r (ms ++ [maskOf o ms])
/-- Nobody comes behind a call in the text that may come ahead of it. -/
def thrOk (ops : List Oper) : Bool :=
  let ms := masks ops []
  (List.range ops.length).all fun k => match ops[k]? with
    | some o => (match o.op with
      | .call { callee := .value (.func _), .. } | .panic _ => (List.range ops.length).all fun j => Nat.ble j k || (ms.getD j 0).testBit k
      | _ => true)
    | none => true
def looks (ops : List Oper) (o : Oper) : List Nat := (o.op.operands.toList.filterMap fun | .tmp t => some t | _ => none) ++ (match o.guard with | some (j, _) => (tmpOf ops j).toList | none => [])
def wOp (P : Program) (o : Oper) : Bool := reads P o.op || bsOp o
def xOp (P : Program) (o : Oper) : Bool := match o.op with
  | .call { callee := .builtin .append, .. } => true
  | .call { callee := .value (.func f), argTypes := Ts, .. } => noPtr P f Ts
  | .assign _ => true
  | _ => false
def apartB (ops : List Oper) (x y : Oper) : Bool :=
  (match x.dst with | some d => !(looks ops y).contains d && y.dst != some d | none => true) && (match y.dst with | some d => !(looks ops x).contains d | none => true)
def pairOk (P : Program) (ops : List Oper) (x y : Oper) : Bool := apartB ops x y && (wOp P x && wOp P y || wOp P x && xOp P y || xOp P x && wOp P y)
def isThr (o : Oper) : Bool := match o.op with
  | .call { callee := .value (.func _), .. } | .panic _ => true
  | _ => false
/-- What an operation may write through: a call that is handed pointers, a store. -/
def ptrCall (P : Program) (o : Oper) : Option (List Operand) := match o.op with
  | .call { callee := .value (.func f), args := xs, argTypes := Ts } => bif noPtr P f Ts then none else some xs.toList
  | .store _ a _ => some [a]
  | _ => none
def loadOf (o : Oper) : Option Operand := match o.op with | .load _ a => some a | _ => none
def isStore (o : Oper) : Bool := match o.op with | .store .. => true | _ => false
/-- A load and a call that is handed a pointer. -/
def lcOf (P : Program) (x y : Oper) : Option (Operand × List Operand) := match loadOf x with
  | some a => (ptrCall P y).map fun xs => (a, xs)
  | none => (loadOf y).bind fun a => (ptrCall P x).map fun xs => (a, xs)
/-- Nobody from operation m on writes what o looks at. -/
def fixedAt (ops : List Oper) (m : Nat) (o : Oper) : Bool := (List.range ops.length).all fun k => Nat.blt k m || (match (ops[k]?).bind (·.dst) with | some d => !(looks ops o).contains d | none => true)
def thrAt (ops : List Oper) (k : Nat) : Bool := match ops[k]? with | some o => isThr o | none => false
def calm (P : Program) (ops : List Oper) : Bool := ops.all (fun o => wOp P o || xOp P o || (ptrCall P o).isSome || isStore o) && (List.range ops.length).all fun k => (List.range k).all fun m => !(thrAt ops k && thrAt ops m)
/-- Operation i, and j that stands behind it: either may come first, if the variables are not the same. -/
def dynW (P : Program) (x y : Oper) : Bool := wOp P x && (ptrCall P y).isSome || wOp P y && (ptrCall P x).isSome
def pairDyn (P : Program) (ops : List Oper) (i j : Nat) (x y : Oper) : Bool := apartB ops x y && dynW P x y && ((lcOf P x y).isNone || (fixedAt ops i x && fixedAt ops j y && calm P ops && (!(isStore x || isStore y) || ops.all fun o => !isThr o)))
/-- Of what the variables are to be looked at behind a region. -/
def needs (P : Program) (ops : List Oper) : List (Operand × List Operand) :=
  bif ops.any (fun o => (loadOf o).isSome) && ops.any (fun o => (ptrCall P o).isSome) then
    let ms := masks ops []
    (List.range ops.length).flatMap fun j => (List.range j).filterMap fun i => bif (ms.getD j 0).testBit i then none else (match ops[i]?, ops[j]? with
      | some x, some y => bif pairOk P ops x y then none else lcOf P x y
      | _, _ => none)
  else []
def farFrom (s : St) (d : Nat) : List Operand → Bool
  | [] => true
  | x :: xs => (match s.ev x with | .box e _ => !Nat.beq e d | .dead => false | _ => true) && farFrom s d xs
def aparts (s : St) (p : Operand × List Operand) : Bool := match s.ev p.1 with
  | .box d _ => farFrom s d p.2
  | .ro _ => true
  | _ => false
def endOk (P : Program) (ops : List Oper) (s : St) : Bool := (needs P ops).all (aparts s)
/-- A cond whose ways meet again. -/
def joins : Code → Bool | .cond .. => true | .seq _ b => joins b | .block _ _ => true | _ => false
def evC {β : Type} (thr : Value → Option β) : Code → Nat → List (Nat × Nat) → St → KC β → Option β
  | .skip, _, _, s, k => k .normal s
  | .region _ ops dr, _, _, s, k => evOps P np dr takes call (fun v => bif !dr || thrOk ops.toList then thr v else none) ops.toList (ops.size + 1) ops.toList s (fun s => bif !dr || endOk P ops.toList s then k .normal s else none)
  | .seq a b, out, ex, s, k => evC thr a (liveC ret b out ex) ex s (fun x s => match x with
    | .normal => evC thr b out ex (bif joins a then s.prune np (liveC ret b out ex) else s) k
    | .exit id => k (.exit id) s
    | .ret => k .ret s)
  | .cond c a b, out, ex, s, k => (match s.ev c with
    | .v (.bool c) => bif c then evC thr a out ex s k else evC thr b out ex s k
    | _ => none)
  | .block id c, out, ex, s, k => evC thr c out ((id, out) :: ex) s (fun x s => match x with
    | .exit j => k (bif j == id then .normal else .exit j) s
    | .normal => k .normal s
    | .ret => k .ret s)
  | .loop c, out, ex, s, k => iter (fun s k => evC thr c (liveC ret (.loop c) out ex) ex s (fun x s => match x with
    | .normal => k .normal (s.prune np (liveC ret (.loop c) out ex))
    | .exit id => k (.exit id) s
    | .ret => k .ret s)) n (s.prune np (liveC ret (.loop c) out ex)) k
  | .exit id, _, _, s, k => k (.exit id) s
  | .ret, _, _, s, k => k .ret s
  | _, _, _, _, _ => none
end
/-! ### functions -/
def retMask (rs : List ResultVar) : Nat := rs.foldl (fun m r => m ||| (match r with | .tmp t => 2 ^ t | .cell t _ => 2 ^ t)) 0
/-- Each token once; no boxes. -/
def claim (u : List Nat) (x : AV) : List Nat × AV := match x with
  | .row (some n) E l => bif u.contains n || !Nat.blt n 1024 then (u, .row none E l) else (n :: u, .row (some n) E l)
  | .agg cs => (u, .agg (cs.map AV.bare))
  | .tup _ => (u, .dead)
  | .box _ _ => (u, .dead)
  | x => (u, x)
def claimL : List Nat → List AV → List AV
  | _, [] => []
  | u, x :: r => (claim u x).2 :: claimL (claim u x).1 r
/-- The boxes that were given are given back. -/
def claimB : Nat → Bx → Bx → Bx
  | i, some _ :: bx, some cs :: r => some (giveL i i 0 cs) :: claimB (i + 1) bx r
  | i, _ :: bx, _ :: r => none :: claimB (i + 1) bx r
  | _, _, _ => []
def resVal (P : Program) (s : St) : ResultVar → Option AV
  | .tmp t => some (s.get t)
  | .cell t T => (s.cellsOf (s.get t)).bind fun cs => partAV P T cs 0
def resVals (P : Program) (s : St) : List ResultVar → Option (List AV)
  | [] => some []
  | r :: rs => (resVal P s r).bind fun x => (resVals P s rs).bind fun l => some (x :: l)
def outOf (P : Program) (fn : Func) (bx : Bx) (s : St) : Option Out := (resVals P s fn.results.toList).bind fun l =>
  bif Nat.ble bx.length s.b.length then some (.ret (match claimL [] l with | [x] => x | l => .tup l) (claimB 0 bx s.b)) else none
def entry (fn : Func) (xs : List AV) (bx : Bx) : St := ⟨xs ++ List.replicate (fn.ntmps - xs.length) .dead, bx ++ List.replicate (fn.ntmps - bx.length) none⟩
def evBody (P : Program) (takes : FuncId → Option Nat) (call : CallF) (n : Nat) (fn : Func) (xs : List AV) (bx : Bx) : Option Out := match fn.body with
  | some c => bif Nat.beq xs.length fn.params.size && Nat.beq bx.length fn.params.size && Nat.ble fn.params.size fn.ntmps then evC P fn.params.size takes call (retMask fn.results.toList) n (fun v => some (.thr v)) c (retMask fn.results.toList) [] (entry fn xs bx) (fun x s => match x with
    | .normal => outOf P fn bx s
    | .ret => outOf P fn bx s
    | .exit _ => none) else none
  | none => none
/-- fs: the functions that are evaluated; ext: those whose contracts are given. -/
def evF (P : Program) (takes : FuncId → Option Nat) (ext : CallF) (fs : List FuncId) : Nat → CallF
  | 0 => fun _ _ _ => none
  | n + 1 => fun f xs bx => match ext f xs bx with
    | some r => some r
    | none => bif fs.contains f then (match P.funcs[f]? with
      | some fn => (evBody P takes (evF P takes ext fs n) n fn xs bx).map fun o => (true, o)
      | none => none) else none
end Go.Proofs.YtckdgcpomkefpaaGreatDoor.En
