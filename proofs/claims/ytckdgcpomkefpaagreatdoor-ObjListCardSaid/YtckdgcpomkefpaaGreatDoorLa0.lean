/- Part 0 of a proof: what it needs of the program's functions as plain Lean functions, with the proof that the machine's calls come to them, and of plain laws; put together out of smaller texts. No conditions besides those that each statement names. -/
import Derived.Deep.DeepHandedRow
import Derived.Deep.DeepWitnessRowRef
import Derived.Deep.Draws
import Derived.KernelRfl
import Derived.Laws.AppendOwn
import Derived.Lib.ItoaNum
import Derived.Lib.LaidTab
import Derived.OpenShut
import Derived.ProofKit
import Derived.Shelf.Bits.Mul64
import Derived.Shelf.LaysC
import Derived.Shelf.LaysM
import Derived.Shelf.Small.Strs
import Derived.Shelf.Small.Utf8
import Derived.Shelf.Small.Wraps
import Derived.Shelf.Strconv.Atoi
import Derived.Shelf.Strconv.AtoiAll
import Derived.Shelf.Strconv.AtoiErrFast
import Derived.Shelf.Strconv.AtoiFail
import Derived.Shelf.Strconv.AtoiInnerAll
import Derived.Shelf.Strconv.AtoiLong
import Derived.Shelf.Strconv.Clone
import Derived.Shelf.Strconv.Itoa0
import Derived.Shelf.Strconv.Itoa1
import Derived.Shelf.Strconv.Itoa2
import Derived.Shelf.Strconv.Itoa3
import Derived.Shelf.Strconv.Lower
import Derived.Shelf.Strconv.ParseInt10
import Derived.Shelf.Strconv.ParseIntEmpty
import Derived.Shelf.Strconv.ParseUint10
import Derived.Shelf.Strconv.ParseUint10Any
import Derived.Shelf.Strconv.ParseUint10Empty
import Derived.Shelf.Strconv.RangeError
import Derived.Shelf.Strconv.SyntaxError
import Derived.Shelf.Strconv.ToError
import Derived.Shelf.Strconv.ToErrorRange
import Derived.Shelf.Strings.AsciiSet
import Derived.Shelf.Strings.Builder1
import Derived.Shelf.Strings.Builder2
import Derived.Shelf.Strings.BuilderF
import Derived.Shelf.Strings.BuilderK
import Derived.Shelf.Strings.Cut
import Derived.Shelf.Strings.Prefix
import Derived.Shelf.Strings.Repeat
import Derived.Shelf.Strings.Runes
import Derived.Shelf.Strings.Search1
import Derived.Shelf.Strings.Search2
import Derived.Shelf.Strings.Shaped
import Derived.Shelf.Strings.Trim
import Derived.Shelf.Unicode.DecodeSlow
import Derived.ShutString
import Derived.SizedLaws
import Derived.Stop.LaidErr
import Derived.Test.YtckdgcpomkefpaaGreatDoorCards
import Derived.Test.YtckdgcpomkefpaaGreatDoorProg
import Derived.Test.YtckdgcpomkefpaaGreatDoorTie
import Derived.WalkKit
import Derived.WalkSmall
section
namespace Go.Proofs.YtckdgcpomkefpaaGreatDoor.En
open Go
def LGn : Nat := max (max 2 3) (max 0 1) + 1
def ErrAt (w : World) (g : Nat) : Prop := ∃ ev, w.cell? ⟨g, 0, none⟩ = some ev ∧ (ev = .nilIface ∨ ∃ te pe, ev = .iface te pe)
structure GW (w : World) : Prop where
  pow : Lib.TabIs Tryz.prog w "internal/strconv.uint64pow10" .u64 Lib.pow10Tab
  len : ∃ m, w.cell? ⟨1, 0, none⟩ = some (.int .i64 m)
  errS : ErrAt w 2
  errR : ErrAt w 3
  size : LGn ≤ w.heap.size
theorem gPow : Tryz.prog.globalNamed "internal/strconv.uint64pow10" = some 0 := by kernel_rfl
theorem GW.keep {w w' : World} (h : GW w) (hb : ∀ β, β < LGn → w'.heap[β]? = w.heap[β]?) : GW w' := by
  obtain ⟨h1, ⟨m, h2⟩, ⟨es, hs1, hs2⟩, ⟨er, hr1, hr2⟩, h3⟩ := h
  refine ⟨?_, ⟨m, ?_⟩, ⟨es, ?_, hs2⟩, ⟨er, ?_, hr2⟩, ?_⟩
  · unfold Lib.TabIs World.var? at h1 ⊢
    simp only [gPow, Option.bind_some] at h1 ⊢
    rw [hb _ (by decide)]
    exact h1
  · rw [← h2]
    exact World.cell?_of_block (hb _ (show 1 < LGn by decide))
  · rw [← hs1]
    exact World.cell?_of_block (hb _ (show 2 < LGn by decide))
  · rw [← hr1]
    exact World.cell?_of_block (hb _ (show 3 < LGn by decide))
  · have hl : LGn - 1 < w.heap.size := Nat.lt_of_lt_of_le (by decide) h3
    have h4 : w.heap[LGn - 1]? = some w.heap[LGn - 1] := Array.getElem?_eq_getElem hl
    have h5 := hb (LGn - 1) (by decide)
    rw [h4] at h5
    have := (Array.getElem?_eq_some_iff.1 h5).1
    have : LGn = LGn - 1 + 1 := by decide
    omega
end Go.Proofs.YtckdgcpomkefpaaGreatDoor.En
end
section
namespace Go.Proofs
open Go.Shelf
def Tryz.lays169_ren : Go.Shelf.Ren := ⟨fun | 169 => 47 | n => n, fun | 70 => 77 | 9 => 9 | 0 => 0 | 72 => 79 | 37 => 57 | 127 => 108 | 3 => 3 | 5 => 5 | n => n, fun | n => n⟩
theorem Tryz.lays169 : Go.Proofs.Lays.n169 Tryz.prog Tryz.lays169_ren := {
  mixed := by kernel_rfl
  f169 := Tryz.func47.trans (congrArg some (by kernel_rfl))
  t0 := Tryz.underlying0
  a0 := Tryz.isAgg0
  z0 := Tryz.sizeOf0
  v0 := Tryz.zeroValue0
  t3 := Tryz.underlying3
  a3 := Tryz.isAgg3
  z3 := Tryz.sizeOf3
  v3 := Tryz.zeroValue3
  t9 := Tryz.underlying9
  a9 := Tryz.isAgg9
  z9 := Tryz.sizeOf9
  v9 := Tryz.zeroValue9
  t37 := Tryz.underlying57
  a37 := Tryz.isAgg57
  z37 := Tryz.sizeOf57
  v37 := Tryz.zeroValue57
  t70 := Tryz.underlying77
  a70 := Tryz.isAgg77
  z70 := Tryz.sizeOf77
  v70 := Tryz.zeroValue77
  t72 := Tryz.underlying79
  a72 := Tryz.isAgg79
  z72 := Tryz.sizeOf79
  v72 := Tryz.zeroValue79
  t127 := Tryz.underlying108
  a127 := Tryz.isAgg108
  z127 := Tryz.sizeOf108
  v127 := Tryz.zeroValue108 }
theorem Tryz.Builder_Extra_169 : Builder.Extra Tryz.prog Tryz.lays169_ren := {
  sizeBuilder := by kernel_rfl
  liesBuilder := by kernel_rfl
  t5 := Tryz.underlying5
  a5 := Tryz.isAgg5
  z5 := Tryz.sizeOf5
  v5 := Tryz.zeroValue5
  infoByte := by kernel_rfl
  cellsByte := by kernel_rfl
  sizeByte := by kernel_rfl
  neB5 := by decide }
def Tryz.lays161_ren : Go.Shelf.Ren := ⟨fun | 161 => 151 | 231 => 170 | 227 => 121 | 233 => 171 | 235 => 172 | 228 => 137 | 197 => 162 | 151 => 139 | 260 => 177 | 152 => 163 | 137 => 95 | 119 => 178 | 224 => 179 | 225 => 180 | 217 => 118 | 266 => 136 | n => n, fun | 9 => 9 | 4 => 4 | 3 => 3 | 5 => 5 | 117 => 134 | 116 => 133 | 0 => 0 | 124 => 137 | 105 => 153 | 21 => 21 | 119 => 195 | 46 => 118 | 139 => 198 | 138 => 197 | n => n, fun | 3 => 6 | 4 => 7 | n => n⟩
theorem Tryz.lays161 : Go.Proofs.Lays.n161 Tryz.prog Tryz.lays161_ren := {
  mixed := by kernel_rfl
  f119 := Tryz.func178.trans (congrArg some (by kernel_rfl))
  f137 := Tryz.func95.trans (congrArg some (by kernel_rfl))
  f151 := Tryz.func139.trans (congrArg some (by kernel_rfl))
  f152 := Tryz.func163.trans (congrArg some (by kernel_rfl))
  f161 := Tryz.func151.trans (congrArg some (by kernel_rfl))
  f197 := Tryz.func162.trans (congrArg some (by kernel_rfl))
  f217 := Tryz.func118.trans (congrArg some (by kernel_rfl))
  f224 := Tryz.func179.trans (congrArg some (by kernel_rfl))
  f225 := Tryz.func180.trans (congrArg some (by kernel_rfl))
  f227 := Tryz.func121.trans (congrArg some (by kernel_rfl))
  f228 := Tryz.func137.trans (congrArg some (by kernel_rfl))
  f231 := Tryz.func170.trans (congrArg some (by kernel_rfl))
  f233 := Tryz.func171.trans (congrArg some (by kernel_rfl))
  f235 := Tryz.func172.trans (congrArg some (by kernel_rfl))
  f260 := Tryz.func177.trans (congrArg some (by kernel_rfl))
  f266 := Tryz.func136.trans (congrArg some (by kernel_rfl))
  t0 := Tryz.underlying0
  a0 := Tryz.isAgg0
  z0 := Tryz.sizeOf0
  v0 := Tryz.zeroValue0
  t3 := Tryz.underlying3
  a3 := Tryz.isAgg3
  z3 := Tryz.sizeOf3
  v3 := Tryz.zeroValue3
  t4 := Tryz.underlying4
  a4 := Tryz.isAgg4
  z4 := Tryz.sizeOf4
  v4 := Tryz.zeroValue4
  t5 := Tryz.underlying5
  a5 := Tryz.isAgg5
  z5 := Tryz.sizeOf5
  v5 := Tryz.zeroValue5
  t9 := Tryz.underlying9
  a9 := Tryz.isAgg9
  z9 := Tryz.sizeOf9
  v9 := Tryz.zeroValue9
  t21 := Tryz.underlying21
  a21 := Tryz.isAgg21
  z21 := Tryz.sizeOf21
  v21 := Tryz.zeroValue21
  t46 := Tryz.underlying118
  a46 := Tryz.isAgg118
  z46 := Tryz.sizeOf118
  v46 := Tryz.zeroValue118
  t105 := Tryz.underlying153
  a105 := Tryz.isAgg153
  z105 := Tryz.sizeOf153
  v105 := Tryz.zeroValue153
  t116 := Tryz.underlying133
  a116 := Tryz.isAgg133
  z116 := Tryz.sizeOf133
  t117 := Tryz.underlying134
  a117 := Tryz.isAgg134
  z117 := Tryz.sizeOf134
  v117 := Tryz.zeroValue134
  t119 := Tryz.underlying195
  a119 := Tryz.isAgg195
  z119 := Tryz.sizeOf195
  t124 := Tryz.underlying137
  a124 := Tryz.isAgg137
  z124 := Tryz.sizeOf137
  v124 := Tryz.zeroValue137
  t138 := Tryz.underlying197
  a138 := Tryz.isAgg197
  z138 := Tryz.sizeOf197
  v138 := Tryz.zeroValue197
  t139 := Tryz.underlying198
  a139 := Tryz.isAgg198
  z139 := Tryz.sizeOf198
  v139 := Tryz.zeroValue198
  g3 := by kernel_rfl
  g4 := by kernel_rfl }
open Go.RowKit in
theorem Tryz.strings_TrimLeft_one (s : ByteArray) (c : UInt8) (hc : c.toNat < 128) (w : World) :
    Calls Tryz.prog 151 #[.string s, .string ⟨#[c]⟩] w fun e w' => e = .returned (.string ⟨(Lib.trimLeftB s.data.toList c).toArray⟩) ∧ w' = w := Any.strings_TrimLeft_one Tryz.lays161 s c hc w
def Tryz.lays162_ren : Go.Shelf.Ren := ⟨fun | 162 => 98 | 232 => 120 | 227 => 121 | 234 => 122 | 236 => 123 | 228 => 137 | 271 => 138 | 151 => 139 | 120 => 161 | 197 => 162 | 152 => 163 | 260 => 177 | 137 => 95 | 119 => 178 | 224 => 179 | 225 => 180 | 217 => 118 | 266 => 136 | n => n, fun | 9 => 9 | 4 => 4 | 3 => 3 | 5 => 5 | 117 => 134 | 116 => 133 | 0 => 0 | 124 => 137 | 21 => 21 | 105 => 153 | 46 => 118 | 119 => 195 | 139 => 198 | 138 => 197 | n => n, fun | 3 => 6 | 4 => 7 | n => n⟩
theorem Tryz.lays162 : Go.Proofs.Lays.n162 Tryz.prog Tryz.lays162_ren := {
  mixed := by kernel_rfl
  f119 := Tryz.func178.trans (congrArg some (by kernel_rfl))
  f120 := Tryz.func161.trans (congrArg some (by kernel_rfl))
  f137 := Tryz.func95.trans (congrArg some (by kernel_rfl))
  f151 := Tryz.func139.trans (congrArg some (by kernel_rfl))
  f152 := Tryz.func163.trans (congrArg some (by kernel_rfl))
  f162 := Tryz.func98.trans (congrArg some (by kernel_rfl))
  f197 := Tryz.func162.trans (congrArg some (by kernel_rfl))
  f217 := Tryz.func118.trans (congrArg some (by kernel_rfl))
  f224 := Tryz.func179.trans (congrArg some (by kernel_rfl))
  f225 := Tryz.func180.trans (congrArg some (by kernel_rfl))
  f227 := Tryz.func121.trans (congrArg some (by kernel_rfl))
  f228 := Tryz.func137.trans (congrArg some (by kernel_rfl))
  f232 := Tryz.func120.trans (congrArg some (by kernel_rfl))
  f234 := Tryz.func122.trans (congrArg some (by kernel_rfl))
  f236 := Tryz.func123.trans (congrArg some (by kernel_rfl))
  f260 := Tryz.func177.trans (congrArg some (by kernel_rfl))
  f266 := Tryz.func136.trans (congrArg some (by kernel_rfl))
  f271 := Tryz.func138.trans (congrArg some (by kernel_rfl))
  t0 := Tryz.underlying0
  a0 := Tryz.isAgg0
  z0 := Tryz.sizeOf0
  v0 := Tryz.zeroValue0
  t3 := Tryz.underlying3
  a3 := Tryz.isAgg3
  z3 := Tryz.sizeOf3
  v3 := Tryz.zeroValue3
  t4 := Tryz.underlying4
  a4 := Tryz.isAgg4
  z4 := Tryz.sizeOf4
  v4 := Tryz.zeroValue4
  t5 := Tryz.underlying5
  a5 := Tryz.isAgg5
  z5 := Tryz.sizeOf5
  v5 := Tryz.zeroValue5
  t9 := Tryz.underlying9
  a9 := Tryz.isAgg9
  z9 := Tryz.sizeOf9
  v9 := Tryz.zeroValue9
  t21 := Tryz.underlying21
  a21 := Tryz.isAgg21
  z21 := Tryz.sizeOf21
  v21 := Tryz.zeroValue21
  t46 := Tryz.underlying118
  a46 := Tryz.isAgg118
  z46 := Tryz.sizeOf118
  v46 := Tryz.zeroValue118
  t105 := Tryz.underlying153
  a105 := Tryz.isAgg153
  z105 := Tryz.sizeOf153
  v105 := Tryz.zeroValue153
  t116 := Tryz.underlying133
  a116 := Tryz.isAgg133
  z116 := Tryz.sizeOf133
  t117 := Tryz.underlying134
  a117 := Tryz.isAgg134
  z117 := Tryz.sizeOf134
  v117 := Tryz.zeroValue134
  t119 := Tryz.underlying195
  a119 := Tryz.isAgg195
  z119 := Tryz.sizeOf195
  t124 := Tryz.underlying137
  a124 := Tryz.isAgg137
  z124 := Tryz.sizeOf137
  v124 := Tryz.zeroValue137
  t138 := Tryz.underlying197
  a138 := Tryz.isAgg197
  z138 := Tryz.sizeOf197
  v138 := Tryz.zeroValue197
  t139 := Tryz.underlying198
  a139 := Tryz.isAgg198
  z139 := Tryz.sizeOf198
  v139 := Tryz.zeroValue198
  g3 := by kernel_rfl
  g4 := by kernel_rfl }
open Go.RowKit in
theorem Tryz.strings_TrimRight_one (s : ByteArray) (c : UInt8) (hc : c.toNat < 128) (w : World) (hs : s.size ≤ 9223372036854775807) :
    Calls Tryz.prog 98 #[.string s, .string ⟨#[c]⟩] w fun e w' => e = .returned (.string ⟨(Lib.trimRightB s.data.toList c).toArray⟩) ∧ w' = w := Any.strings_TrimRight_one Tryz.lays162 s c hc w hs
def Tryz.lays160_ren : Go.Shelf.Ren := ⟨fun | 160 => 173 | 232 => 120 | 231 => 170 | 227 => 121 | 234 => 122 | 233 => 171 | 236 => 123 | 235 => 172 | 228 => 137 | 271 => 138 | 151 => 139 | 197 => 162 | 120 => 161 | 152 => 163 | 260 => 177 | 137 => 95 | 119 => 178 | 224 => 179 | 225 => 180 | 217 => 118 | 266 => 136 | n => n, fun | 9 => 9 | 4 => 4 | 3 => 3 | 5 => 5 | 117 => 134 | 116 => 133 | 0 => 0 | 124 => 137 | 21 => 21 | 105 => 153 | 46 => 118 | 119 => 195 | 139 => 198 | 138 => 197 | n => n, fun | 3 => 6 | 4 => 7 | n => n⟩
theorem Tryz.lays160 : Go.Proofs.Lays.n160 Tryz.prog Tryz.lays160_ren := {
  mixed := by kernel_rfl
  f119 := Tryz.func178.trans (congrArg some (by kernel_rfl))
  f120 := Tryz.func161.trans (congrArg some (by kernel_rfl))
  f137 := Tryz.func95.trans (congrArg some (by kernel_rfl))
  f151 := Tryz.func139.trans (congrArg some (by kernel_rfl))
  f152 := Tryz.func163.trans (congrArg some (by kernel_rfl))
  f160 := Tryz.func173.trans (congrArg some (by kernel_rfl))
  f197 := Tryz.func162.trans (congrArg some (by kernel_rfl))
  f217 := Tryz.func118.trans (congrArg some (by kernel_rfl))
  f224 := Tryz.func179.trans (congrArg some (by kernel_rfl))
  f225 := Tryz.func180.trans (congrArg some (by kernel_rfl))
  f227 := Tryz.func121.trans (congrArg some (by kernel_rfl))
  f228 := Tryz.func137.trans (congrArg some (by kernel_rfl))
  f231 := Tryz.func170.trans (congrArg some (by kernel_rfl))
  f232 := Tryz.func120.trans (congrArg some (by kernel_rfl))
  f233 := Tryz.func171.trans (congrArg some (by kernel_rfl))
  f234 := Tryz.func122.trans (congrArg some (by kernel_rfl))
  f235 := Tryz.func172.trans (congrArg some (by kernel_rfl))
  f236 := Tryz.func123.trans (congrArg some (by kernel_rfl))
  f260 := Tryz.func177.trans (congrArg some (by kernel_rfl))
  f266 := Tryz.func136.trans (congrArg some (by kernel_rfl))
  f271 := Tryz.func138.trans (congrArg some (by kernel_rfl))
  t0 := Tryz.underlying0
  a0 := Tryz.isAgg0
  z0 := Tryz.sizeOf0
  v0 := Tryz.zeroValue0
  t3 := Tryz.underlying3
  a3 := Tryz.isAgg3
  z3 := Tryz.sizeOf3
  v3 := Tryz.zeroValue3
  t4 := Tryz.underlying4
  a4 := Tryz.isAgg4
  z4 := Tryz.sizeOf4
  v4 := Tryz.zeroValue4
  t5 := Tryz.underlying5
  a5 := Tryz.isAgg5
  z5 := Tryz.sizeOf5
  v5 := Tryz.zeroValue5
  t9 := Tryz.underlying9
  a9 := Tryz.isAgg9
  z9 := Tryz.sizeOf9
  v9 := Tryz.zeroValue9
  t21 := Tryz.underlying21
  a21 := Tryz.isAgg21
  z21 := Tryz.sizeOf21
  v21 := Tryz.zeroValue21
  t46 := Tryz.underlying118
  a46 := Tryz.isAgg118
  z46 := Tryz.sizeOf118
  v46 := Tryz.zeroValue118
  t105 := Tryz.underlying153
  a105 := Tryz.isAgg153
  z105 := Tryz.sizeOf153
  v105 := Tryz.zeroValue153
  t116 := Tryz.underlying133
  a116 := Tryz.isAgg133
  z116 := Tryz.sizeOf133
  t117 := Tryz.underlying134
  a117 := Tryz.isAgg134
  z117 := Tryz.sizeOf134
  v117 := Tryz.zeroValue134
  t119 := Tryz.underlying195
  a119 := Tryz.isAgg195
  z119 := Tryz.sizeOf195
  t124 := Tryz.underlying137
  a124 := Tryz.isAgg137
  z124 := Tryz.sizeOf137
  v124 := Tryz.zeroValue137
  t138 := Tryz.underlying197
  a138 := Tryz.isAgg197
  z138 := Tryz.sizeOf197
  v138 := Tryz.zeroValue197
  t139 := Tryz.underlying198
  a139 := Tryz.isAgg198
  z139 := Tryz.sizeOf198
  v139 := Tryz.zeroValue198
  g3 := by kernel_rfl
  g4 := by kernel_rfl }
open Go.RowKit in
theorem Tryz.strings_Trim_one (s : ByteArray) (c : UInt8) (hc : c.toNat < 128) (w : World) (hs : s.size ≤ 9223372036854775807) :
    Calls Tryz.prog 173 #[.string s, .string ⟨#[c]⟩] w fun e w' => e = .returned (.string ⟨(Lib.trimB s.data.toList c).toArray⟩) ∧ (w' = w ∨ w' = w.drew) := Any.strings_Trim_one Tryz.lays160 s c hc w hs
def Tryz.lays137_ren : Go.Shelf.Ren := ⟨fun | 137 => 95 | 217 => 118 | 266 => 136 | n => n, fun | 9 => 9 | 5 => 5 | 3 => 3 | n => n, fun | n => n⟩
theorem Tryz.lays137 : Go.Proofs.Lays.n137 Tryz.prog Tryz.lays137_ren := {
  mixed := by kernel_rfl
  f137 := Tryz.func95.trans (congrArg some (by kernel_rfl))
  f217 := Tryz.func118.trans (congrArg some (by kernel_rfl))
  f266 := Tryz.func136.trans (congrArg some (by kernel_rfl))
  t3 := Tryz.underlying3
  a3 := Tryz.isAgg3
  z3 := Tryz.sizeOf3
  v3 := Tryz.zeroValue3
  t5 := Tryz.underlying5
  a5 := Tryz.isAgg5
  z5 := Tryz.sizeOf5
  v5 := Tryz.zeroValue5
  t9 := Tryz.underlying9
  a9 := Tryz.isAgg9
  z9 := Tryz.sizeOf9
  v9 := Tryz.zeroValue9 }
open Go.RowKit in
theorem Tryz.strings_IndexByte (s : ByteArray) (c : Int) (w : World) :
    Calls Tryz.prog 95 #[.string s, .int .u8 c] w fun e w' => e = .returned (.int .i64 (Lib.indexByte s.data.toList c.toNat.toUInt8)) ∧ w' = w := Any.strings_IndexByte Tryz.lays137 s c w
def Tryz.lays103_ren : Go.Shelf.Ren := ⟨fun | 103 => 148 | 210 => 168 | 206 => 126 | n => n, fun | 9 => 9 | 4 => 4 | 24 => 71 | 3 => 3 | n => n, fun | n => n⟩
theorem Tryz.lays103 : Go.Proofs.Lays.n103 Tryz.prog Tryz.lays103_ren := {
  mixed := by kernel_rfl
  f103 := Tryz.func148.trans (congrArg some (by kernel_rfl))
  f206 := Tryz.func126.trans (congrArg some (by kernel_rfl))
  f210 := Tryz.func168.trans (congrArg some (by kernel_rfl))
  t3 := Tryz.underlying3
  a3 := Tryz.isAgg3
  z3 := Tryz.sizeOf3
  v3 := Tryz.zeroValue3
  t4 := Tryz.underlying4
  a4 := Tryz.isAgg4
  z4 := Tryz.sizeOf4
  v4 := Tryz.zeroValue4
  t9 := Tryz.underlying9
  a9 := Tryz.isAgg9
  z9 := Tryz.sizeOf9
  v9 := Tryz.zeroValue9
  t24 := Tryz.underlying71
  a24 := Tryz.isAgg71
  z24 := Tryz.sizeOf71
  v24 := Tryz.zeroValue71 }
open Go.RowKit in
theorem Tryz.strings_CutPrefix (s p : ByteArray) (w : World) :
    Calls Tryz.prog 148 #[.string s, .string p] w fun e w' => e = .returned (.tuple #[.string ⟨(Lib.trimPrefix s.data.toList p.data.toList).toArray⟩, .bool (Lib.hasPrefix s.data.toList p.data.toList)]) ∧ w' = w := Any.strings_CutPrefix Tryz.lays103 s p w
def Tryz.laysM171_ren : Go.Shelf.Ren := ⟨fun | 171 => 58 | 243 => 94 | 246 => 117 | 283 => 132 | 284 => 133 | 285 => 134 | 286 => 135 | 129 => 157 | 317 => 156 | 318 => 158 | 319 => 159 | 320 => 160 | 337 => 175 | 338 => 176 | n => n, fun | 3 => 3 | 9 => 9 | 2 => 2 | 4 => 4 | 171 => 147 | 0 => 0 | 53 => 148 | 37 => 57 | 5 => 5 | 173 => 151 | 212 => 177 | 51 => 156 | 20 => 20 | 213 => 178 | 46 => 118 | 232 => 193 | 233 => 194 | n => n, fun | 17 => 0 | 18 => 4 | 19 => 5 | n => n⟩
theorem Tryz.laysM171 : Go.Proofs.LaysM.n171 Tryz.prog Tryz.laysM171_ren := {
  mixed := by kernel_rfl
  f129 := Tryz.func157.trans (congrArg some (by kernel_rfl))
  f171 := Tryz.func58.trans (congrArg some (by kernel_rfl))
  f243 := Tryz.func94.trans (congrArg some (by kernel_rfl))
  f246 := Tryz.func117.trans (congrArg some (by kernel_rfl))
  f283 := Tryz.func132.trans (congrArg some (by kernel_rfl))
  f284 := Tryz.func133.trans (congrArg some (by kernel_rfl))
  f285 := Tryz.func134.trans (congrArg some (by kernel_rfl))
  f286 := Tryz.func135.trans (congrArg some (by kernel_rfl))
  f317 := Tryz.func156.trans (congrArg some (by kernel_rfl))
  f318 := Tryz.func158.trans (congrArg some (by kernel_rfl))
  f319 := Tryz.func159.trans (congrArg some (by kernel_rfl))
  f320 := Tryz.func160.trans (congrArg some (by kernel_rfl))
  f337 := Tryz.func175.trans (congrArg some (by kernel_rfl))
  f338 := Tryz.func176.trans (congrArg some (by kernel_rfl))
  t0 := Tryz.underlying0
  a0 := Tryz.isAgg0
  z0 := Tryz.sizeOf0
  v0 := Tryz.zeroValue0
  t2 := Tryz.underlying2
  a2 := Tryz.isAgg2
  z2 := Tryz.sizeOf2
  v2 := Tryz.zeroValue2
  t3 := Tryz.underlying3
  a3 := Tryz.isAgg3
  z3 := Tryz.sizeOf3
  v3 := Tryz.zeroValue3
  t4 := Tryz.underlying4
  a4 := Tryz.isAgg4
  z4 := Tryz.sizeOf4
  v4 := Tryz.zeroValue4
  t5 := Tryz.underlying5
  a5 := Tryz.isAgg5
  z5 := Tryz.sizeOf5
  v5 := Tryz.zeroValue5
  t9 := Tryz.underlying9
  a9 := Tryz.isAgg9
  z9 := Tryz.sizeOf9
  v9 := Tryz.zeroValue9
  t20 := Tryz.underlying20
  a20 := Tryz.isAgg20
  z20 := Tryz.sizeOf20
  v20 := Tryz.zeroValue20
  t37 := Tryz.underlying57
  a37 := Tryz.isAgg57
  z37 := Tryz.sizeOf57
  v37 := Tryz.zeroValue57
  t46 := Tryz.underlying118
  a46 := Tryz.isAgg118
  z46 := Tryz.sizeOf118
  v46 := Tryz.zeroValue118
  t51 := Tryz.underlying156
  a51 := Tryz.isAgg156
  z51 := Tryz.sizeOf156
  v51 := Tryz.zeroValue156
  t53 := Tryz.underlying148
  a53 := Tryz.isAgg148
  z53 := Tryz.sizeOf148
  v53 := Tryz.zeroValue148
  t171 := Tryz.underlying147
  a171 := Tryz.isAgg147
  z171 := Tryz.sizeOf147
  v171 := Tryz.zeroValue147
  t173 := Tryz.underlying151
  a173 := Tryz.isAgg151
  z173 := Tryz.sizeOf151
  v173 := Tryz.zeroValue151
  t212 := Tryz.underlying177
  a212 := Tryz.isAgg177
  z212 := Tryz.sizeOf177
  v212 := Tryz.zeroValue177
  t213 := Tryz.underlying178
  a213 := Tryz.isAgg178
  z213 := Tryz.sizeOf178
  t232 := Tryz.underlying193
  a232 := Tryz.isAgg193
  z232 := Tryz.sizeOf193
  v232 := Tryz.zeroValue193
  t233 := Tryz.underlying194
  a233 := Tryz.isAgg194
  z233 := Tryz.sizeOf194
  v233 := Tryz.zeroValue194
  g17 := by kernel_rfl
  g18 := by kernel_rfl
  g19 := by kernel_rfl
  i0 := by kernel_rfl
  i2 := by kernel_rfl
  i3 := by kernel_rfl
  i4 := by kernel_rfl
  i5 := by kernel_rfl
  i9 := by kernel_rfl
  i20 := by kernel_rfl
  i37 := by kernel_rfl
  i46 := by kernel_rfl
  i51 := by kernel_rfl
  i53 := by kernel_rfl
  i171 := by kernel_rfl
  i173 := by kernel_rfl
  i212 := by kernel_rfl
  i232 := by kernel_rfl
  i233 := by kernel_rfl
  m17 := by kernel_rfl
  m18 := by kernel_rfl
  m19 := by kernel_rfl }
open Go.RowKit Go.Sort Go.Lib in
theorem Tryz.strconv_Itoa (n : Int) (h0 : -9223372036854775808 ≤ n) (h1 : n ≤ 9223372036854775807) (w : World) (htab : Lib.TabIs Tryz.prog w "internal/strconv.uint64pow10" .u64 Lib.pow10Tab) :
    Calls Tryz.prog 58 #[.int .i64 n] w fun e w' => e = .returned (.string ⟨(Lib.itoa n).toArray⟩) ∧ ∃ k os, w' = grow (w.drewN k) os := Any.strconv_Itoa Tryz.laysM171 n h0 h1 w htab
def Tryz.laysC172_ren : Go.Shelf.Ren := ⟨fun | 172 => 108 | 244 => 128 | 245 => 129 | 247 => 143 | 279 => 144 | 280 => 145 | 281 => 146 | 282 => 147 | 287 => 165 | 316 => 166 | 171 => 58 | 205 => 167 | 321 => 181 | 322 => 182 | 243 => 94 | 246 => 117 | 283 => 132 | 284 => 133 | 285 => 134 | 286 => 135 | 129 => 157 | 317 => 156 | 318 => 158 | 319 => 159 | 320 => 160 | 337 => 175 | 338 => 176 | n => n, fun | 9 => 9 | 3 => 3 | 75 => 101 | 76 => 102 | 4 => 4 | 5 => 5 | 167 => 161 | 37 => 57 | 0 => 0 | 85 => 162 | 2 => 2 | 168 => 164 | 53 => 148 | 175 => 182 | 46 => 118 | 210 => 185 | 127 => 108 | 145 => 192 | 143 => 190 | 21 => 21 | 171 => 147 | 173 => 151 | 212 => 177 | 51 => 156 | 20 => 20 | 213 => 178 | 232 => 193 | 233 => 194 | 80 => 82 | n => n, fun | 15 => 2 | 16 => 3 | 17 => 0 | 18 => 4 | 19 => 5 | n => n⟩
theorem Tryz.laysC172 : Go.Proofs.LaysC.n172 Tryz.prog Tryz.laysC172_ren := {
  mixed := by kernel_rfl
  f129 := Tryz.func157.trans (congrArg some (by kernel_rfl))
  f171 := Tryz.func58.trans (congrArg some (by kernel_rfl))
  f172 := Tryz.func108.trans (congrArg some (by kernel_rfl))
  f205 := Tryz.func167.trans (congrArg some (by kernel_rfl))
  f243 := Tryz.func94.trans (congrArg some (by kernel_rfl))
  f244 := Tryz.func128.trans (congrArg some (by kernel_rfl))
  f245 := Tryz.func129.trans (congrArg some (by kernel_rfl))
  f246 := Tryz.func117.trans (congrArg some (by kernel_rfl))
  f247 := Tryz.func143.trans (congrArg some (by kernel_rfl))
  f279 := Tryz.func144.trans (congrArg some (by kernel_rfl))
  f280 := Tryz.func145.trans (congrArg some (by kernel_rfl))
  f281 := Tryz.func146.trans (congrArg some (by kernel_rfl))
  f282 := Tryz.func147.trans (congrArg some (by kernel_rfl))
  f283 := Tryz.func132.trans (congrArg some (by kernel_rfl))
  f284 := Tryz.func133.trans (congrArg some (by kernel_rfl))
  f285 := Tryz.func134.trans (congrArg some (by kernel_rfl))
  f286 := Tryz.func135.trans (congrArg some (by kernel_rfl))
  f287 := Tryz.func165.trans (congrArg some (by kernel_rfl))
  f316 := Tryz.func166.trans (congrArg some (by kernel_rfl))
  f317 := Tryz.func156.trans (congrArg some (by kernel_rfl))
  f318 := Tryz.func158.trans (congrArg some (by kernel_rfl))
  f319 := Tryz.func159.trans (congrArg some (by kernel_rfl))
  f320 := Tryz.func160.trans (congrArg some (by kernel_rfl))
  f321 := Tryz.func181.trans (congrArg some (by kernel_rfl))
  f322 := Tryz.func182.trans (congrArg some (by kernel_rfl))
  f337 := Tryz.func175.trans (congrArg some (by kernel_rfl))
  f338 := Tryz.func176.trans (congrArg some (by kernel_rfl))
  t0 := Tryz.underlying0
  a0 := Tryz.isAgg0
  z0 := Tryz.sizeOf0
  v0 := Tryz.zeroValue0
  t2 := Tryz.underlying2
  a2 := Tryz.isAgg2
  z2 := Tryz.sizeOf2
  v2 := Tryz.zeroValue2
  t3 := Tryz.underlying3
  a3 := Tryz.isAgg3
  z3 := Tryz.sizeOf3
  v3 := Tryz.zeroValue3
  t4 := Tryz.underlying4
  a4 := Tryz.isAgg4
  z4 := Tryz.sizeOf4
  v4 := Tryz.zeroValue4
  t5 := Tryz.underlying5
  a5 := Tryz.isAgg5
  z5 := Tryz.sizeOf5
  v5 := Tryz.zeroValue5
  t9 := Tryz.underlying9
  a9 := Tryz.isAgg9
  z9 := Tryz.sizeOf9
  v9 := Tryz.zeroValue9
  t20 := Tryz.underlying20
  a20 := Tryz.isAgg20
  z20 := Tryz.sizeOf20
  v20 := Tryz.zeroValue20
  t21 := Tryz.underlying21
  a21 := Tryz.isAgg21
  z21 := Tryz.sizeOf21
  v21 := Tryz.zeroValue21
  t37 := Tryz.underlying57
  a37 := Tryz.isAgg57
  z37 := Tryz.sizeOf57
  v37 := Tryz.zeroValue57
  t46 := Tryz.underlying118
  a46 := Tryz.isAgg118
  z46 := Tryz.sizeOf118
  v46 := Tryz.zeroValue118
  t51 := Tryz.underlying156
  a51 := Tryz.isAgg156
  z51 := Tryz.sizeOf156
  v51 := Tryz.zeroValue156
  t53 := Tryz.underlying148
  a53 := Tryz.isAgg148
  z53 := Tryz.sizeOf148
  v53 := Tryz.zeroValue148
  t75 := Tryz.underlying101
  a75 := Tryz.isAgg101
  z75 := Tryz.sizeOf101
  v75 := Tryz.zeroValue101
  t76 := Tryz.underlying102
  a76 := Tryz.isAgg102
  z76 := Tryz.sizeOf102
  v76 := Tryz.zeroValue102
  t85 := Tryz.underlying162
  a85 := Tryz.isAgg162
  z85 := Tryz.sizeOf162
  v85 := Tryz.zeroValue162
  t127 := Tryz.underlying108
  a127 := Tryz.isAgg108
  z127 := Tryz.sizeOf108
  v127 := Tryz.zeroValue108
  t143 := Tryz.underlying190
  a143 := Tryz.isAgg190
  z143 := Tryz.sizeOf190
  v143 := Tryz.zeroValue190
  t145 := Tryz.underlying192
  a145 := Tryz.isAgg192
  z145 := Tryz.sizeOf192
  v145 := Tryz.zeroValue192
  t167 := Tryz.underlying161
  a167 := Tryz.isAgg161
  z167 := Tryz.sizeOf161
  v167 := Tryz.zeroValue161
  t168 := Tryz.underlying164
  a168 := Tryz.isAgg164
  z168 := Tryz.sizeOf164
  v168 := Tryz.zeroValue164
  t171 := Tryz.underlying147
  a171 := Tryz.isAgg147
  z171 := Tryz.sizeOf147
  v171 := Tryz.zeroValue147
  t173 := Tryz.underlying151
  a173 := Tryz.isAgg151
  z173 := Tryz.sizeOf151
  v173 := Tryz.zeroValue151
  t175 := Tryz.underlying182
  a175 := Tryz.isAgg182
  z175 := Tryz.sizeOf182
  v175 := Tryz.zeroValue182
  t210 := Tryz.underlying185
  a210 := Tryz.isAgg185
  z210 := Tryz.sizeOf185
  v210 := Tryz.zeroValue185
  t212 := Tryz.underlying177
  a212 := Tryz.isAgg177
  z212 := Tryz.sizeOf177
  v212 := Tryz.zeroValue177
  t213 := Tryz.underlying178
  a213 := Tryz.isAgg178
  z213 := Tryz.sizeOf178
  t232 := Tryz.underlying193
  a232 := Tryz.isAgg193
  z232 := Tryz.sizeOf193
  v232 := Tryz.zeroValue193
  t233 := Tryz.underlying194
  a233 := Tryz.isAgg194
  z233 := Tryz.sizeOf194
  v233 := Tryz.zeroValue194
  g15 := by kernel_rfl
  g16 := by kernel_rfl
  g17 := by kernel_rfl
  g18 := by kernel_rfl
  g19 := by kernel_rfl
  t80 := Tryz.underlying82
  a80 := Tryz.isAgg82
  z80 := Tryz.sizeOf82
  v80 := Tryz.zeroValue82
  i0 := by kernel_rfl
  i2 := by kernel_rfl
  i3 := by kernel_rfl
  i4 := by kernel_rfl
  i5 := by kernel_rfl
  i9 := by kernel_rfl
  i20 := by kernel_rfl
  i21 := by kernel_rfl
  i37 := by kernel_rfl
  i46 := by kernel_rfl
  i51 := by kernel_rfl
  i53 := by kernel_rfl
  i75 := by kernel_rfl
  i76 := by kernel_rfl
  i80 := by kernel_rfl
  i85 := by kernel_rfl
  i127 := by kernel_rfl
  i143 := by kernel_rfl
  i145 := by kernel_rfl
  i167 := by kernel_rfl
  i168 := by kernel_rfl
  i171 := by kernel_rfl
  i173 := by kernel_rfl
  i175 := by kernel_rfl
  i210 := by kernel_rfl
  i212 := by kernel_rfl
  i232 := by kernel_rfl
  i233 := by kernel_rfl
  m15 := by kernel_rfl
  m16 := by kernel_rfl
  m17 := by kernel_rfl
  m18 := by kernel_rfl
  m19 := by kernel_rfl
  c0 := by kernel_rfl
  c2 := by kernel_rfl
  c3 := by kernel_rfl
  c4 := by kernel_rfl
  c5 := by kernel_rfl
  c9 := by kernel_rfl
  c20 := by kernel_rfl
  c21 := by kernel_rfl
  c37 := by kernel_rfl
  c46 := by kernel_rfl
  c51 := by kernel_rfl
  c53 := by kernel_rfl
  c75 := by kernel_rfl
  c76 := by kernel_rfl
  c80 := by kernel_rfl
  c85 := by kernel_rfl
  c127 := by kernel_rfl
  c143 := by kernel_rfl
  c145 := by kernel_rfl
  c167 := by kernel_rfl
  c168 := by kernel_rfl
  c171 := by kernel_rfl
  c173 := by kernel_rfl
  c175 := by kernel_rfl
  c210 := by kernel_rfl
  c212 := by kernel_rfl
  c213 := by kernel_rfl
  c232 := by kernel_rfl
  c233 := by kernel_rfl }
open Go.RowKit in
theorem Tryz.strconv_Atoi_ok (s : ByteArray) (hmax : s.size ≤ 9223372036854775806) (v : Int) (h : Lib.atoiAll s.data.toList = .ok v) (w : World) :
    Calls Tryz.prog 108 #[.string s] w fun e w' => e = .returned (.tuple #[.int .i64 v, .nilIface]) ∧ (w' = w ∨ ∃ t, w' = Lib.bytesWorld w 5 t) := Any.strconv_Atoi_ok Tryz.laysC172 s hmax v h w
open Go.RowKit in
theorem Tryz.strconv_Atoi_syntax (s : ByteArray) (hlim : s.size ≤ 281474976710656) (h : Lib.atoiAll s.data.toList = .«syntax») (ev : Value) (w : World) (hv : w.cell? ⟨2, 0, none⟩ = some ev) (hev : ev = .nilIface ∨ ∃ te pe, ev = .iface te pe) :
    Calls Tryz.prog 108 #[.string s] w fun e w' => ∃ N, e = .returned (.tuple #[.int .i64 (0), .iface 164 (.pointer (some ⟨N, 0, none⟩))]) ∧ w.heap.size ≤ N ∧ w'.heap[N]? = some (.cells #[.string ⟨#[65, 116, 111, 105]⟩, .string s, ev] 185 (0, 0)) ∧ Below w.heap.size w w' := Any.strconv_Atoi_syntax Tryz.laysC172 s hlim h ev w hv hev
open Go.RowKit in
theorem Tryz.strconv_Atoi_range (s : ByteArray) (hlim : s.size ≤ 281474976710656) (h : Lib.atoiAll s.data.toList = .range) (ev : Value) (w : World) (hv : w.cell? ⟨3, 0, none⟩ = some ev) (hev : ev = .nilIface ∨ ∃ te pe, ev = .iface te pe) :
    Calls Tryz.prog 108 #[.string s] w fun e w' => ∃ N, e = .returned (.tuple #[.int .i64 (Lib.atoiSat s.data.toList), .iface 164 (.pointer (some ⟨N, 0, none⟩))]) ∧ w.heap.size ≤ N ∧ w'.heap[N]? = some (.cells #[.string ⟨#[65, 116, 111, 105]⟩, .string s, ev] 185 (0, 0)) ∧ Below w.heap.size w w' := Any.strconv_Atoi_range Tryz.laysC172 s hlim h ev w hv hev
def Tryz.lays145_ren : Go.Shelf.Ren := ⟨fun | 145 => 149 | 220 => 169 | 219 => 183 | 217 => 118 | 225 => 180 | 224 => 179 | 267 => 184 | 266 => 136 | 314 => 185 | n => n, fun | 9 => 9 | 4 => 4 | 59 => 168 | 3 => 3 | 5 => 5 | 46 => 118 | 146 => 157 | 51 => 156 | n => n, fun | 1 => 1 | n => n⟩
theorem Tryz.lays145 : Go.Proofs.Lays.n145 Tryz.prog Tryz.lays145_ren := {
  mixed := by kernel_rfl
  f145 := Tryz.func149.trans (congrArg some (by kernel_rfl))
  f217 := Tryz.func118.trans (congrArg some (by kernel_rfl))
  f219 := Tryz.func183.trans (congrArg some (by kernel_rfl))
  f220 := Tryz.func169.trans (congrArg some (by kernel_rfl))
  f224 := Tryz.func179.trans (congrArg some (by kernel_rfl))
  f225 := Tryz.func180.trans (congrArg some (by kernel_rfl))
  f266 := Tryz.func136.trans (congrArg some (by kernel_rfl))
  f267 := Tryz.func184.trans (congrArg some (by kernel_rfl))
  f314 := Tryz.func185.trans (congrArg some (by kernel_rfl))
  t3 := Tryz.underlying3
  a3 := Tryz.isAgg3
  z3 := Tryz.sizeOf3
  v3 := Tryz.zeroValue3
  t4 := Tryz.underlying4
  a4 := Tryz.isAgg4
  z4 := Tryz.sizeOf4
  v4 := Tryz.zeroValue4
  t5 := Tryz.underlying5
  a5 := Tryz.isAgg5
  z5 := Tryz.sizeOf5
  v5 := Tryz.zeroValue5
  t9 := Tryz.underlying9
  a9 := Tryz.isAgg9
  z9 := Tryz.sizeOf9
  v9 := Tryz.zeroValue9
  t46 := Tryz.underlying118
  a46 := Tryz.isAgg118
  z46 := Tryz.sizeOf118
  v46 := Tryz.zeroValue118
  t51 := Tryz.underlying156
  a51 := Tryz.isAgg156
  z51 := Tryz.sizeOf156
  v51 := Tryz.zeroValue156
  t59 := Tryz.underlying168
  a59 := Tryz.isAgg168
  z59 := Tryz.sizeOf168
  v59 := Tryz.zeroValue168
  t146 := Tryz.underlying157
  a146 := Tryz.isAgg157
  z146 := Tryz.sizeOf157
  v146 := Tryz.zeroValue157
  g1 := by kernel_rfl }
open Go.RowKit Go.Lib in
theorem Tryz.strings_Cut (s sep : ByteArray) (m : Int) (w : World) (hs : s.size < 4294967281) (hm : w.cell? ⟨1, 0, none⟩ = some (.int .i64 m)) :
    Calls Tryz.prog 149 #[.string s, .string sep] w fun e w' => e = .returned (.tuple #[.string ⟨(Lib.cut s.data.toList sep.data.toList).1.toArray⟩, .string ⟨(Lib.cut s.data.toList sep.data.toList).2.1.toArray⟩, .bool (Lib.cut s.data.toList sep.data.toList).2.2]) ∧ ∃ n, w' = w.drewN n := Any.strings_Cut Tryz.lays145 s sep m w hs hm
def Tryz.laysM145_ren : Go.Shelf.Ren := ⟨fun | 145 => 149 | 220 => 169 | 219 => 183 | 217 => 118 | 225 => 180 | 224 => 179 | 267 => 184 | 266 => 136 | 314 => 185 | n => n, fun | 9 => 9 | 4 => 4 | 59 => 168 | 3 => 3 | 5 => 5 | 46 => 118 | 146 => 157 | 51 => 156 | n => n, fun | 1 => 1 | n => n⟩
theorem Tryz.laysM145 : Go.Proofs.LaysM.n145 Tryz.prog Tryz.laysM145_ren := {
  mixed := by kernel_rfl
  f145 := Tryz.func149.trans (congrArg some (by kernel_rfl))
  f217 := Tryz.func118.trans (congrArg some (by kernel_rfl))
  f219 := Tryz.func183.trans (congrArg some (by kernel_rfl))
  f220 := Tryz.func169.trans (congrArg some (by kernel_rfl))
  f224 := Tryz.func179.trans (congrArg some (by kernel_rfl))
  f225 := Tryz.func180.trans (congrArg some (by kernel_rfl))
  f266 := Tryz.func136.trans (congrArg some (by kernel_rfl))
  f267 := Tryz.func184.trans (congrArg some (by kernel_rfl))
  f314 := Tryz.func185.trans (congrArg some (by kernel_rfl))
  t3 := Tryz.underlying3
  a3 := Tryz.isAgg3
  z3 := Tryz.sizeOf3
  v3 := Tryz.zeroValue3
  t4 := Tryz.underlying4
  a4 := Tryz.isAgg4
  z4 := Tryz.sizeOf4
  v4 := Tryz.zeroValue4
  t5 := Tryz.underlying5
  a5 := Tryz.isAgg5
  z5 := Tryz.sizeOf5
  v5 := Tryz.zeroValue5
  t9 := Tryz.underlying9
  a9 := Tryz.isAgg9
  z9 := Tryz.sizeOf9
  v9 := Tryz.zeroValue9
  t46 := Tryz.underlying118
  a46 := Tryz.isAgg118
  z46 := Tryz.sizeOf118
  v46 := Tryz.zeroValue118
  t51 := Tryz.underlying156
  a51 := Tryz.isAgg156
  z51 := Tryz.sizeOf156
  v51 := Tryz.zeroValue156
  t59 := Tryz.underlying168
  a59 := Tryz.isAgg168
  z59 := Tryz.sizeOf168
  v59 := Tryz.zeroValue168
  t146 := Tryz.underlying157
  a146 := Tryz.isAgg157
  z146 := Tryz.sizeOf157
  v146 := Tryz.zeroValue157
  g1 := by kernel_rfl
  i3 := by kernel_rfl
  i4 := by kernel_rfl
  i5 := by kernel_rfl
  i9 := by kernel_rfl
  i46 := by kernel_rfl
  i51 := by kernel_rfl
  i59 := by kernel_rfl
  i146 := by kernel_rfl
  m1 := by kernel_rfl
  s1_3 := fun w h => Go.Proofs.cell_of_shapedOpen_int (zero := #[.int .i64 0]) (t := 3) h (of_decide_eq_true (by kernel_rfl)) (by kernel_rfl) rfl (by kernel_rfl) (by kernel_rfl) Tryz.underlying3 }
def Tryz.lays105_ren : Go.Shelf.Ren := ⟨fun | 105 => 99 | 212 => 124 | 99 => 103 | 165 => 125 | 166 => 66 | 170 => 46 | 169 => 47 | 263 => 140 | 264 => 141 | 206 => 126 | 240 => 96 | 241 => 142 | 276 => 119 | 277 => 164 | n => n, fun | 9 => 9 | 3 => 3 | 4 => 4 | 20 => 20 | 0 => 0 | 46 => 118 | 109 => 138 | 5 => 5 | 72 => 79 | 76 => 102 | 51 => 156 | 146 => 157 | 53 => 148 | 148 => 159 | 70 => 77 | 37 => 57 | 75 => 101 | 127 => 108 | 164 => 129 | 80 => 82 | n => n, fun | n => n⟩
theorem Tryz.lays105 : Go.Proofs.Lays.n105 Tryz.prog Tryz.lays105_ren := {
  mixed := by kernel_rfl
  f99 := Tryz.func103.trans (congrArg some (by kernel_rfl))
  f105 := Tryz.func99.trans (congrArg some (by kernel_rfl))
  f165 := Tryz.func125.trans (congrArg some (by kernel_rfl))
  f166 := Tryz.func66.trans (congrArg some (by kernel_rfl))
  f169 := Tryz.func47.trans (congrArg some (by kernel_rfl))
  f170 := Tryz.func46.trans (congrArg some (by kernel_rfl))
  f206 := Tryz.func126.trans (congrArg some (by kernel_rfl))
  f212 := Tryz.func124.trans (congrArg some (by kernel_rfl))
  f240 := Tryz.func96.trans (congrArg some (by kernel_rfl))
  f241 := Tryz.func142.trans (congrArg some (by kernel_rfl))
  f263 := Tryz.func140.trans (congrArg some (by kernel_rfl))
  f264 := Tryz.func141.trans (congrArg some (by kernel_rfl))
  f276 := Tryz.func119.trans (congrArg some (by kernel_rfl))
  f277 := Tryz.func164.trans (congrArg some (by kernel_rfl))
  t0 := Tryz.underlying0
  a0 := Tryz.isAgg0
  z0 := Tryz.sizeOf0
  v0 := Tryz.zeroValue0
  t3 := Tryz.underlying3
  a3 := Tryz.isAgg3
  z3 := Tryz.sizeOf3
  v3 := Tryz.zeroValue3
  t4 := Tryz.underlying4
  a4 := Tryz.isAgg4
  z4 := Tryz.sizeOf4
  v4 := Tryz.zeroValue4
  t5 := Tryz.underlying5
  a5 := Tryz.isAgg5
  z5 := Tryz.sizeOf5
  v5 := Tryz.zeroValue5
  t9 := Tryz.underlying9
  a9 := Tryz.isAgg9
  z9 := Tryz.sizeOf9
  v9 := Tryz.zeroValue9
  t20 := Tryz.underlying20
  a20 := Tryz.isAgg20
  z20 := Tryz.sizeOf20
  v20 := Tryz.zeroValue20
  t37 := Tryz.underlying57
  a37 := Tryz.isAgg57
  z37 := Tryz.sizeOf57
  v37 := Tryz.zeroValue57
  t46 := Tryz.underlying118
  a46 := Tryz.isAgg118
  z46 := Tryz.sizeOf118
  v46 := Tryz.zeroValue118
  t51 := Tryz.underlying156
  a51 := Tryz.isAgg156
  z51 := Tryz.sizeOf156
  v51 := Tryz.zeroValue156
  t53 := Tryz.underlying148
  a53 := Tryz.isAgg148
  z53 := Tryz.sizeOf148
  v53 := Tryz.zeroValue148
  t70 := Tryz.underlying77
  a70 := Tryz.isAgg77
  z70 := Tryz.sizeOf77
  v70 := Tryz.zeroValue77
  t72 := Tryz.underlying79
  a72 := Tryz.isAgg79
  z72 := Tryz.sizeOf79
  v72 := Tryz.zeroValue79
  t75 := Tryz.underlying101
  a75 := Tryz.isAgg101
  z75 := Tryz.sizeOf101
  v75 := Tryz.zeroValue101
  t76 := Tryz.underlying102
  a76 := Tryz.isAgg102
  z76 := Tryz.sizeOf102
  v76 := Tryz.zeroValue102
  t109 := Tryz.underlying138
  a109 := Tryz.isAgg138
  z109 := Tryz.sizeOf138
  v109 := Tryz.zeroValue138
  t127 := Tryz.underlying108
  a127 := Tryz.isAgg108
  z127 := Tryz.sizeOf108
  v127 := Tryz.zeroValue108
  t146 := Tryz.underlying157
  a146 := Tryz.isAgg157
  z146 := Tryz.sizeOf157
  v146 := Tryz.zeroValue157
  t148 := Tryz.underlying159
  a148 := Tryz.isAgg159
  z148 := Tryz.sizeOf159
  v148 := Tryz.zeroValue159
  t164 := Tryz.underlying129
  a164 := Tryz.isAgg129
  z164 := Tryz.sizeOf129
  v164 := Tryz.zeroValue129 }
theorem Tryz.Builder_Extra_105 : Builder.Extra Tryz.prog Tryz.lays105_ren := {
  sizeBuilder := by kernel_rfl
  liesBuilder := by kernel_rfl
  t5 := Tryz.underlying5
  a5 := Tryz.isAgg5
  z5 := Tryz.sizeOf5
  v5 := Tryz.zeroValue5
  infoByte := by kernel_rfl
  cellsByte := by kernel_rfl
  sizeByte := by kernel_rfl
  neB5 := by decide }
open Go.RowKit Go.Lib in
theorem Tryz.strings_Repeat (s : ByteArray) (c : Nat) (w : World) (hc : c ≤ 9223372036854775807) (hlen : s.size * c ≤ 140737488355328) :
    Calls Tryz.prog 99 #[.string s, .int .i64 c] w fun e w' => e = .returned (.string ⟨(Lib.repeatL s.data.toList c).toArray⟩) ∧ Below w.heap.size w w' := Any.strings_Repeat Tryz.lays105 Tryz.Builder_Extra_105 s c w hc hlen
end Go.Proofs
end
section
namespace Go.Proofs.YtckdgcpomkefpaaGreatDoor.Row
open Go.ChangeShapes Go.WideShapes Go.ChangeAt Go.RowKit
theorem own : ownKnob Tryz.prog.godebug = none := by kernel_rfl
theorem gPowType : (Tryz.prog.globals[0]?).map (·.type) = some 177 := by kernel_rfl
theorem cellsA : Tryz.prog.cellsOf 177 = 20 := by kernel_rfl
theorem cellsU : Tryz.prog.cellsOf 148 = 1 := by kernel_rfl
theorem underA : Tryz.prog.underlying 177 = some (.array 20 148) := by kernel_rfl
theorem underU : Tryz.prog.underlying 148 = some (.int .u64) := by kernel_rfl
def laidL : List (String × DataW Unit) := Rows.objGetsRow.laid
theorem pow_of {W : World} (h : laidMetH Tryz.prog laidL W) : Lib.TabIs Tryz.prog W "internal/strconv.uint64pow10" .u64 Lib.pow10Tab := by
  have h' : laidMet Tryz.prog laidL W := h
  exact Lib.tabIs_of_head En.gPow gPowType underA underU cellsU cellsA (laidMet.tail (laidMet.tail h'))
theorem gS : Tryz.prog.globalNamed "strconv.ErrSyntax" = some 2 := by kernel_rfl
theorem gR : Tryz.prog.globalNamed "strconv.ErrRange" = some 3 := by kernel_rfl
theorem gSType : (Tryz.prog.globals[2]?).map (·.type) = some 101 := by kernel_rfl
theorem gRType : (Tryz.prog.globals[3]?).map (·.type) = some 101 := by kernel_rfl
theorem starE : "*" ++ "errors.errorString" = "*errors.errorString" := by decide
theorem rowE (u : TypeId) (h : Tryz.prog.typeName? 3 u = some "*errors.errorString") : u = 190 :=
  typeName_ptr_named (nm := "errors.errorString") (by rw [starE]; kernel_rfl) (by kernel_rfl) (by decide) u (by rw [starE]; exact h)
theorem cellsE : Tryz.prog.cellsOf 192 = 1 := by kernel_rfl
theorem cellsS : Tryz.prog.cellsOf 9 = 1 := by kernel_rfl
theorem err_of {n : String} {text : List UInt8} {r : List (String × DataW Unit)} {W : World} {g : Nat} (h : laidMet Tryz.prog ((n, .iface "*errors.errorString" (.ptr (.agg [.lit (.string text)]))) :: r) W)
    (hg : Tryz.prog.globalNamed n = some g) (ht : (Tryz.prog.globals[g]?).map (·.type) = some 101) : En.ErrAt W g := by
  obtain ⟨a0, s0, hv0, _⟩ := laid_sentinel h hg ht Tryz.underlying101 rowE Tryz.underlying190 Tryz.underlying192 rfl rfl Tryz.underlying9 cellsE cellsS
  exact ⟨_, by simpa using World.var?_cell hg hv0 0, .inr ⟨_, _, rfl⟩⟩
theorem gw_of {W : World} (h : laidMetH Tryz.prog laidL W) (hs : W.ShapedOpen Tryz.prog) : En.GW W := by
  obtain ⟨m, hm⟩ := Tryz.laysM145.s1_3 W hs
  have h' : laidMet Tryz.prog laidL W := h
  have h4 := laidMet.tail (laidMet.tail (laidMet.tail (laidMet.tail h')))
  have hR := err_of h4 gR gRType
  have hS := err_of (laidMet.tail h4) gS gSType
  obtain ⟨ev, hc, _⟩ := hR
  exact ⟨pow_of h, ⟨m, hm⟩, hS, err_of h4 gR gRType, World.block_lt_of_cell? W _ hc⟩
def setRow (w : World) (g : Nat) (cs : List Value) : World := { w with heap := w.heap.modify g fun
      | .cells _ t frozen => .cells cs.toArray t frozen
      | o => o }
def nums (k : IntKind) (l : List Nat) : List Value := l.map fun n : Nat => .int k n
def b32 : List Nat := [0, 1, 28, 2, 29, 14, 24, 3, 30, 22, 20, 15, 25, 17, 4, 8, 31, 27, 13, 23, 21, 19, 16, 7, 26, 12, 18, 6, 11, 5, 10, 9]
def b64 : List Nat := [0, 1, 56, 2, 57, 49, 28, 3, 61, 58, 42, 50, 38, 29, 17, 4, 62, 47, 59, 36, 45, 43, 51, 22, 53, 39, 33, 30, 24, 18, 12, 5, 63, 55, 48, 27, 60, 41, 37, 16, 46, 35, 44, 21, 52, 32, 23, 11, 54, 26, 40, 15, 34, 20, 31, 10, 25, 14, 19, 9, 13, 8, 7, 6]
def acc : List Nat := [128, 191, 160, 191, 128, 159, 144, 191, 128, 143, 0, 0, 0, 0, 0, 0, 0, 0, 0, 0, 0, 0, 0, 0, 0, 0, 0, 0, 0, 0, 0, 0]
def bytesV (l : List UInt8) : ByteArray := ⟨l.toArray⟩
noncomputable def errW (w : World) (g : Nat) (l : List UInt8) : World := { setRow w g [.iface 190 (.pointer (some ⟨w.heap.size, 0, none⟩))] with heap := (setRow w g [.iface 190 (.pointer (some ⟨w.heap.size, 0, none⟩))]).heap.push (.cells #[.string (bytesV l)] 192 (0, 0)) }
noncomputable def laidWorld (os : Os) : World :=
  errW (errW (setRow (setRow (setRow (setRow (setRow (World.holding Tryz.prog os ⟨#[], #[], []⟩) 0 (Lib.pow10Tab.map fun n => .int .u64 n)) 6 (nums .u8 Go.Pinned.utf8FirstZ)) 7 (nums .u8 acc)) 4 (nums .u8 b32)) 5 (nums .u8 b64))
    3 [118, 97, 108, 117, 101, 32, 111, 117, 116, 32, 111, 102, 32, 114, 97, 110, 103, 101]) 2 [105, 110, 118, 97, 108, 105, 100, 32, 115, 121, 110, 116, 97, 120]
set_option maxRecDepth 100000 in
theorem laid_met (os : Os) : laidMet Tryz.prog laidL (laidWorld os) :=
  laidMet_of_run' 8 (by kernel_rfl) (by kernel_rfl)
end Go.Proofs.YtckdgcpomkefpaaGreatDoor.Row
end
section
set_option linter.unusedVariables false
namespace Go.Proofs.YtckdgcpomkefpaaGreatDoor.En
open Go
inductive Dat where
  | int (n : Int) | bool (b : Bool) | str (s : ByteArray) | rows (l : List Dat) | agg (l : List Dat)
  deriving Inhabited
def Dat.at (d : Dat) (j : Nat) : Dat := match d with | .agg l => l.getD j (.int 0) | d => d
def Dat.toI : Dat → Int | .int n => n | _ => 0
def Dat.toB : Dat → Bool | .bool b => b | _ => false
def Dat.toS : Dat → ByteArray | .str s => s | _ => ⟨#[]⟩
def Dat.toL : Dat → List Dat | .rows l => l | _ => []
inductive CK where
  | int (k : IntKind) | bool | str | row (E : TypeId) | self | other
  deriving Inhabited
inductive AV where
  | v (x : Value)
  | row (t : Option Nat) (E : TypeId) (l : List Dat)
  | agg (cs : List AV)
  | tup (vs : List AV)
  | box (d off : Nat)
  | ro (cs : List AV)
  | self (T : TypeId)
  /-- A function, what it is bound to and what it has caught: plain values and variables in memory. -/
  | fn (f : FuncId) (xs cs : List AV)
  /-- An interface value that is not nil. -/
  | err
  | dead
  deriving Inhabited
abbrev Bx := List (Option (List AV))
inductive Out where
  | ret (v : AV) (bx : Bx)
  | thr (v : Value)
  /-- One or the other. -/
  | alt (b : Bool) (x y : Out)
def Out.flat : Out → Out
  | .alt b x y => bif b then x.flat else y.flat
  | .ret v bx => .ret v bx
  | .thr v => .thr v
def outK {β : Type} (thr : Value → β) (ret : AV → Bx → β) : Out → β
  | .thr v => thr v
  | .ret v bs => ret v bs
  | .alt b x y => bif b then outK thr ret x else outK thr ret y
theorem outK_flat {β : Type} (thr : Value → β) (ret : AV → Bx → β) : ∀ o : Out, outK thr ret o = outK thr ret o.flat
  | .thr v => rfl
  | .ret v bs => rfl
  | .alt b x y => by
    cases b
    · exact outK_flat thr ret y
    · exact outK_flat thr ret x
theorem Out.flat_cases : ∀ o : Out, (∃ v bs, o.flat = .ret v bs) ∨ ∃ v, o.flat = .thr v
  | .thr v => .inr ⟨v, rfl⟩
  | .ret v bs => .inl ⟨v, bs, rfl⟩
  | .alt b x y => by
    cases b
    · exact y.flat_cases
    · exact x.flat_cases
abbrev CallF := FuncId → List AV → Bx → Option (Bool × Out)
structure St where
  t : List AV
  b : Bx
def I (n : Int) : AV := .v (.int .i64 n)
def B (b : Bool) : AV := .v (.bool b)
def S (s : ByteArray) : AV := .v (.string s)
def sub (d j : Nat) : Nat := (d + 1) * 1024 + j
section
variable (P : Program)
def kindsF : Nat → TypeId → Option (List CK)
  | 0, _ => none
  | n + 1, T => match P.underlying T with
    | some (.int k) => some [.int k]
    | some .bool => some [.bool]
    | some .string => some [.str]
    | some (.slice E) => some [.row E]
    | some (.struct fs) => (fs.toList.map fun f => (match P.underlying f.type with
        | some (.pointer E) => some [bif E == T then CK.self else CK.other]
        | _ => kindsF n f.type)).foldr (fun a b => a.bind fun x => b.bind fun y => some (x ++ y)) (some [])
    | some (.array _ _) => none
    | some _ => some [.other]
    | none => none
def kinds (T : TypeId) : Option (List CK) := kindsF P 9 T
def aggD : TypeDesc → Bool | .struct _ | .array _ _ => true | _ => false
def aggT (T : TypeId) : Option Bool := (P.underlying T).map aggD
def szT (T : TypeId) : Option Nat := (P.info? T).map (·.size)
def elemT (T : TypeId) : Option TypeId := match P.underlying T with | some (.slice E) => some E | _ => none
def expC (d : Dat) (k : CK) (j : Nat) : AV := match k with
  | .int k => .v (.int k (d.at j).toI)
  | .bool => .v (.bool (d.at j).toB)
  | .str => .v (.string (d.at j).toS)
  | .row E => .row none E (d.at j).toL
  | _ => .dead
def expand (d : Dat) : List CK → Nat → List AV
  | [], _ => []
  | k :: ks, j => expC d k j :: expand d ks (j + 1)
def packC : CK → AV → Option Dat
  | .int k, .v (.int k' n) => if k = k' then some (.int n) else none
  | .bool, .v (.bool b) => some (.bool b)
  | .str, .v (.string s) => some (.str s)
  | .row E, .row _ E' l => if E = E' then some (.rows l) else none
  | .row _, .v (.slice none 0 0) => some (.rows [])
  | _, _ => none
def packL : List CK → List AV → Option (List Dat)
  | [], [] => some []
  | k :: ks, a :: r => (packC k a).bind fun d => (packL ks r).bind fun l => some (d :: l)
  | _, _ => none
def pack (ks : List CK) (x : AV) : Option Dat := match x with
  | .agg cs => (packL ks cs).bind fun l => some (.agg l)
  | x => (match ks with | [k] => packC k x | _ => none)
def cellAt (o : Option TypeId) (d j : Nat) (k : CK) (c : AV) : AV := match c with
  | .v (.slice none 0 0) => (match k with | .row E => .row (some (sub d j)) E [] | _ => .v (.slice none 0 0))
  | .v (.pointer none) => (match k with | .self => (match o with | some T => .self T | none => .v (.pointer none)) | _ => .v (.pointer none))
  | .row _ E l => .row none E l
  | .v x => .v x
  | .self _ => .dead
  | .err => .err
  | .dead => .dead
  | .ro cs => .ro cs
  | .box e f => .box e f
  | .fn f a b => .fn f a b
  | .agg cs => .agg cs
  | .tup cs => .tup cs
def cellsAt (o : Option TypeId) (d : Nat) : Nat → List CK → List AV → List AV
  | j, k :: ks, c :: cs => cellAt o d j k c :: cellsAt o d (j + 1) ks cs
  | _, _, _ => []
end
def AV.tok1 (f : Option Nat → Option Nat) : AV → AV | .row t E l => .row (f t) E l | x => x
def AV.tok2 (f : Option Nat → Option Nat) : AV → AV | .agg cs => .agg (cs.map (AV.tok1 f)) | x => x.tok1 f
def AV.tok (f : Option Nat → Option Nat) : AV → AV | .tup vs => .tup (vs.map (AV.tok2 f)) | x => x.tok2 f
def AV.nobox0 (d : Nat) : AV → AV | .box e o => bif e == d then .dead else .box e o | x => x
def AV.nobox1 (d : Nat) : AV → AV | .box e o => bif e == d then .dead else .box e o | .fn f xs cs => .fn f (xs.map (AV.nobox0 d)) (cs.map (AV.nobox0 d)) | x => x
def AV.nobox2 (d : Nat) : AV → AV | .agg vs => .agg (vs.map (AV.nobox1 d)) | x => x.nobox1 d
def AV.nobox (d : Nat) : AV → AV | .tup vs => .tup (vs.map (AV.nobox2 d)) | x => x.nobox2 d
def killF (n : Nat) : Option Nat → Option Nat | some m => bif m == n then none else some m | none => none
def killsF (d lo hi : Nat) : Option Nat → Option Nat | some m => bif m / 1024 == d + 1 && Nat.ble lo (m % 1024) && Nat.blt (m % 1024) hi then none else some m | none => none
def renF (n m : Nat) : Option Nat → Option Nat | some k => bif k == n then some m else some k | none => none
namespace St
def tok (s : St) (f : Option Nat → Option Nat) : St := ⟨s.t.map (AV.tok f), s.b.map (Option.map (List.map (AV.tok1 f)))⟩
def kill (s : St) (n : Nat) : St := s.tok (killF n)
def get (s : St) (n : Nat) : AV := s.t.getD n .dead
def put (s : St) (d : Option Nat) (x : AV) : St := match d with | some d => ⟨s.t.set d x, s.b⟩ | none => s
def ofV : Value → AV
  | .agg cs => .agg (cs.toList.map .v)
  | .tuple _ => .dead
  | x => .v x
def ev (s : St) : Operand → AV
  | .tmp t => s.get t
  | .const x => ofV x
  | .func f => .v (.func (.func f) #[] #[])
  | .global _ => .dead
def boxAt (s : St) (d : Nat) : Option (List AV) := s.b.getD d none
def setBox (s : St) (d : Nat) (cs : List AV) : St := ⟨s.t, s.b.set d (some cs)⟩
def newBox (s : St) (d : Nat) (cs : List AV) : St :=
  let s := s.tok (killsF d 0 1024)
  ⟨(s.t.map (AV.nobox d)).set d (.box d 0), (s.b.map (Option.map (List.map (AV.nobox1 d)))).set d (some (cs.map (AV.nobox1 d)))⟩
def assign (P : Program) (s : St) (T : TypeId) (d : Nat) (x : AV) : St := match x with
  | .row (some n) E l => bif n == d then s.put (some d) x else ((s.kill d).tok (renF n d)).put (some d) (.row (some d) E l)
  | .v (.slice none 0 0) => (match elemT P T with
    | some E => (s.kill d).put (some d) (.row (some d) E [])
    | none => s.put (some d) x)
  | x => s.put (some d) x
end St
section
variable (P : Program)
def pureOp (op : BinOp) (x y : Value) : Option Value := match x, y with
  | .int k a, .int k' b => (match op with
    | .shl => bif decide (b < 0) then none else some (.int k (k.wrap (a * 2 ^ (min b.toNat k.bits))))
    | .shr => bif decide (b < 0) then none else some (.int k (a.fdiv (2 ^ (min b.toNat k.bits))))
    | op => if k = k' then (match op with
      | .add => some (.int k (k.wrap (a + b)))
      | .sub => some (.int k (k.wrap (a - b)))
      | .mul => some (.int k (k.wrap (a * b)))
      | .quo => bif decide (b = 0) then none else some (.int k (k.wrap (a.tdiv b)))
      | .rem => bif decide (b = 0) then none else some (.int k (a.tmod b))
      | .and => some (.int k (k.wrap (BitVec.ofInt k.bits a &&& BitVec.ofInt k.bits b).toNat))
      | .or => some (.int k (k.wrap (BitVec.ofInt k.bits a ||| BitVec.ofInt k.bits b).toNat))
      | .eql => some (.bool (a == b))
      | .neq => some (.bool (a != b))
      | .lss => some (.bool (decide (a < b)))
      | .leq => some (.bool (decide (a ≤ b)))
      | .gtr => some (.bool (decide (a > b)))
      | .geq => some (.bool (decide (a ≥ b)))
      | _ => none) else none)
  | .string a, .string b => (match op with
    | .add => bif decide (a.size + b.size ≤ 4611686018427387904) then some (.string (a ++ b)) else none
    | .eql => some (.bool (a.toList == b.toList))
    | .neq => some (.bool (!(a.toList == b.toList)))
    | _ => none)
  | .bool a, .bool b => (match op with
    | .eql => some (.bool (a == b))
    | .neq => some (.bool (!(a == b)))
    | _ => none)
  | .nilIface, .nilIface => (match op with
    | .eql => some (.bool true)
    | .neq => some (.bool false)
    | _ => none)
  | .iface _ _, .nilIface => (match op with
    | .eql => some (.bool false)
    | .neq => some (.bool true)
    | _ => none)
  | _, _ => none
def ifaceT (T : TypeId) : Bool := match P.underlying T with | some (.interface _) => true | _ => false
def constO : Operand → Bool | .const _ => true | _ => false
def boolOk (T : TypeId) (y : Operand) (x : Value) : Bool := match x with | .bool _ => (match P.underlying T with | some .bool => true | _ => false) | .nilIface => ifaceT P T && constO y | .iface _ _ => ifaceT P T | _ => true
def errCmp (op : BinOp) (T : TypeId) (y : Operand) : Option AV := bif ifaceT P T && constO y then (match op with | .eql => some (B false) | .neq => some (B true) | _ => none) else none
def unOpV (op : UnOp) (x : Value) : Option Value := match op, x with
  | .neg, .int k n => some (.int k (k.wrap (0 - n)))
  | .not, .bool b => some (.bool !b)
  | _, _ => none
def convV (src dst : TypeId) (x : Value) : Option Value := match x with
  | .int _ n => (match P.underlying src, P.underlying dst with
    | some _, some (.int k) => some (.int k (k.wrap n))
    | _, _ => none)
  | .string s => (match P.underlying src, P.underlying dst with
    | some _, some .string => some (.string s)
    | _, _ => none)
  | .slice none 0 0 => (match P.underlying src, P.underlying dst with
    | some (.slice E), some .string => (match P.underlying E with | some (.int .u8) => some (.string ⟨#[]⟩) | _ => none)
    | _, _ => none)
  | _ => none
def bytesOf (l : List Dat) : ByteArray := ⟨(l.map fun d => UInt8.ofNat (d.at 0).toI.toNat).toArray⟩
def bytesTo (s : ByteArray) : List Dat := s.data.toList.map fun b => .int b.toNat
def idx (l : List Dat) (i : Int) : Option Dat := bif decide (0 ≤ i) then l[i.toNat]? else none
def bt (s : ByteArray) (i : Int) : Int := (s.data.getD i.toNat 0).toNat
def strT (T : TypeId) : Bool := match P.underlying T with | some .string => true | _ => false
def fieldOf (T : TypeId) (f : Nat) : Option (Nat × TypeId) := match P.underlying T with
  | some (.struct fs) => (fs[f]?).map fun f => (f.offset, f.type)
  | _ => none
def AV.flat : AV → Bool | .agg _ => false | .tup _ => false | _ => true
def AV.noTup : AV → Bool | .tup _ => false | _ => true
def partAV (T : TypeId) (cs : List AV) (off : Nat) : Option AV :=
  (aggT P T).bind fun ag => bif ag then (szT P T).bind fun n => bif Nat.ble (off + n) cs.length then some (.agg ((cs.drop off).take n)) else none
  else (cs[off]?).bind fun c => bif c.flat then some c else none
def AV.cells : AV → List AV | .agg cs => cs | x => [x]
def AV.one : AV → Bool | .v _ => true | .row .. => true | .box .. => true | .ro _ => true | .fn .. => true | _ => false
def fillAV : List AV → List (Nat × Nat × AV) → Option (List AV)
  | cs, [] => some cs
  | cs, (off, n, x) :: r => bif Nat.beq x.cells.length n && Nat.ble (off + n) cs.length && x.cells.all AV.one then fillAV (cs.take off ++ (x.cells ++ cs.drop (off + n))) r else none
def oneV : Value → Bool | .agg _ => false | .tuple _ => false | _ => true
def zeroCells (T : TypeId) : Option (List AV) := ((P.info? T).bind (·.zero)).bind fun z => bif z.cells.toList.all oneV then some (z.cells.toList.map AV.v) else none
abbrev u8Id : TypeId := 5
def plainAV : Value → Option AV
  | .agg cs => bif cs.toList.all oneV then some (.agg (cs.toList.map AV.v)) else none
  | v => bif oneV v then some (.v v) else none
def zeroAV (T : TypeId) : Option AV := ((P.info? T).bind (·.zero)).bind plainAV
def assertAV (T : TypeId) (ok : Bool) (x : Value) : Option AV := match P.underlying T with
  | none => none
  | some (.interface _) => none
  | some _ => (match x with
    | .iface t v => bif Nat.beq t T then (plainAV v).map fun y => bif ok then .tup [y, B true] else y
      else bif ok then (zeroAV P T).map fun y => .tup [y, B false] else none
    | .nilIface => bif ok then (zeroAV P T).map fun y => .tup [y, B false] else none
    | _ => none)
def fitsN : Nat := 1099511627776
def AV.bare : AV → AV
  | .row _ E l => .row none E l
  | .box _ _ => .dead
  | .fn _ _ _ => .dead
  | x => x
def AV.held : AV → Bool | .v _ => true | .box .. => true | _ => false
def AV.deself : AV → AV | .self _ => .dead | x => x
def St.cellsOf (s : St) : AV → Option (List AV)
  | .box d off => (s.boxAt d).map fun cs => (cs.drop off).map AV.deself
  | .ro cs => some (cs.map AV.bare)
  | _ => none
def bound (s : St) (o : Option Operand) (d : Nat) : Option Int := match o with
  | none => some d
  | some o => (match s.ev o with | .v (.int _ n) => some n | _ => none)
def fieldsOk (T : TypeId) : Bool := match P.underlying T with
  | some (.struct fs) => fs.toList.all fun f => (szT P f.type).isSome
  | _ => false
def partsAV (s : St) (T : TypeId) : List (Nat × Operand) → Option (List (Nat × Nat × AV))
  | [] => some []
  | (i, x) :: r => (fieldOf P T i).bind fun (off, U) => (szT P U).bind fun n => (partsAV s T r).bind fun l => some ((off, n, s.ev x) :: l)
def plainL : List AV → Option (List Value)
  | [] => some []
  | .v x :: r => (plainL r).bind fun l => some (x :: l)
  | _ => none
def rhs (o : Oper) (s : St) : Option AV :=
  match o.op with
  | .move x => some (s.ev x)
  | .pick c a b => (match s.ev c with
    | .v (.bool c) => (match s.ev a, s.ev b with
      | .v (.bool x), .v (.bool y) => some (B (bif c then x else y))
      | x, y => some (bif c then x else y))
    | _ => none)
  | .build T ps => (zeroCells P T).bind fun z =>
      bif fieldsOk P T then (partsAV P s T ps.toList).bind fun l => (fillAV z l).bind fun cs => some (.agg cs) else none
  | .load T a => (s.cellsOf (s.ev a)).bind fun cs => partAV P T cs 0
  | .nilCheck x => (match s.ev x with | .box d off => some (.box d off) | .ro cs => some (.ro cs) | _ => none)
  | .binOp op T x y _ => (match s.ev x, s.ev y with | .v a, .v b => bif boolOk P T y a then (pureOp op a b).map AV.v else none | .err, .v .nilIface => errCmp P op T y | _, _ => none)
  | .unOp op _ x => (match s.ev x with | .v a => (unOpV op a).map AV.v | _ => none)
  | .convert src dst x => (match s.ev x with
    | .row _ E l => (match P.underlying src, P.underlying dst with
      | some (.slice E'), some .string => (match P.underlying E' with
        | some (.int .u8) => bif E == E' then some (S (bytesOf l)) else none
        | _ => none)
      | _, _ => none)
    | .v a => (convV P src dst a).map AV.v
    | _ => none)
  | .makeInterface T x => (match P.underlying T with
    | some (.interface _) => none
    | none => none
    | _ => (match s.ev x with
      | .v a => some (.v (.iface T a))
      | .agg cs => (plainL cs).bind fun l => some (.v (.iface T (.agg l.toArray)))
      | _ => none))
  | .slice T x lo hi none => (match s.ev x with
    | .v (.string x) => (bound s hi x.size).bind fun h => (bound s lo 0).bind fun l =>
      bif strT P T && decide (0 ≤ h) && decide (h ≤ x.size) && decide (0 ≤ l) && decide (l ≤ h) then some (S (x.extract l.toNat h.toNat)) else none
    | .row _ E x => (bound s hi x.length).bind fun h => (bound s lo 0).bind fun l => (kinds P E).bind fun ks =>
      bif elemT P T == some E && szT P E == some ks.length && decide (0 ≤ h) && decide (h ≤ x.length) && decide (0 ≤ l) && decide (l ≤ h) then some (.row none E ((x.take h.toNat).drop l.toNat)) else none
    | _ => none)
  | .fieldAddr T x f => (fieldOf P T f).bind fun (off, U) => (szT P U).bind fun n => bif n == 0 then none else
    (match s.ev x with | .box d o => some (.box d (o + off)) | .ro cs => some (.ro (cs.drop off)) | _ => none)
  | .field T x f => (fieldOf P T f).bind fun (off, U) => (match s.ev x with | .agg cs => partAV P U cs off | _ => none)
  | .indexAddr T x i => (match s.ev x, s.ev i with
    | .row _ E l, .v (.int _ i) => bif elemT P T == some E then (kinds P E).bind fun ks => bif szT P E == some ks.length then (idx l i).bind fun d => some (.ro (expand d ks 0)) else none else none
    | _, _ => none)
  | .index T x i => (match s.ev x, s.ev i with
    | .v (.string x), .v (.int _ i) => bif strT P T && decide (0 ≤ i) && decide (i < x.size) then some (.v (.int .u8 (bt x i))) else none
    | _, _ => none)
  | .extract x i => (match s.ev x with | .tup vs => (vs[i]?).bind fun c => bif c.noTup then some c else none | _ => none)
  | .makeFunc (.func f) xs cs => bif (xs.toList.map s.ev).all AV.held && (cs.toList.map s.ev).all AV.held then some (.fn f (xs.toList.map s.ev) (cs.toList.map s.ev)) else none
  | .call { callee := .builtin .len, args := xs, argTypes := Ts } => (match xs.toList, Ts[0]? with
    | [x], some T => (match s.ev x with
      | .row _ _ l => bif (elemT P T).isSome then some (I l.length) else none
      | .v (.string x) => bif strT P T then some (I x.size) else none
      | .v (.slice none 0 0) => bif (elemT P T).isSome then some (I 0) else none
      | _ => none)
    | _, _ => none)
  | .typeAssert x _ T ok => (match s.ev x with | .v x => assertAV P T ok x | _ => none)
  | _ => none
def pureK {β : Type} (op : BinOp) (x y : Value) (k : Value → Option β) : Option β := match x, y with
  | .int i a, .int j b => (match op with
    | .shl => bif decide (b < 0) then none else k (.int i (i.wrap (a * 2 ^ (min b.toNat i.bits))))
    | .shr => bif decide (b < 0) then none else k (.int i (a.fdiv (2 ^ (min b.toNat i.bits))))
    | .quo => if i = j then (bif decide (b = 0) then none else k (.int i (i.wrap (a.tdiv b)))) else none
    | .rem => if i = j then (bif decide (b = 0) then none else k (.int i (a.tmod b))) else none
    | op => (pureOp op (.int i a) (.int j b)).bind k)
  | .string a, .string b => (match op with
    | .add => bif decide (a.size + b.size ≤ 4611686018427387904) then k (.string (a ++ b)) else none
    | op => (pureOp op (.string a) (.string b)).bind k)
  | x, y => (pureOp op x y).bind k
def rhsK {β : Type} (o : Oper) (s : St) (k : AV → Option β) : Option β := match o.op with
  | .binOp op T x y _ => (match s.ev x, s.ev y with | .v a, .v b => bif boolOk P T y a then pureK op a b (fun v => k (.v v)) else none | .err, .v .nilIface => (errCmp P op T y).bind k | _, _ => none)
  | .slice T x lo hi none => (match s.ev x with
    | .v (.string x) => (bound s hi x.size).bind fun h => (bound s lo 0).bind fun l =>
      bif strT P T && decide (0 ≤ h) && decide (h ≤ x.size) && decide (0 ≤ l) && decide (l ≤ h) then k (S (x.extract l.toNat h.toNat)) else none
    | .row _ E x => (bound s hi x.length).bind fun h => (bound s lo 0).bind fun l => (kinds P E).bind fun ks =>
      bif elemT P T == some E && szT P E == some ks.length && decide (0 ≤ h) && decide (h ≤ x.length) && decide (0 ≤ l) && decide (l ≤ h) then k (.row none E ((x.take h.toNat).drop l.toNat)) else none
    | _ => none)
  | .indexAddr T x i => (match s.ev x, s.ev i with
    | .row _ E l, .v (.int _ i) => bif elemT P T == some E then (kinds P E).bind fun ks => bif szT P E == some ks.length then (idx l i).bind fun d => k (.ro (expand d ks 0)) else none else none
    | _, _ => none)
  | .index T x i => (match s.ev x, s.ev i with
    | .v (.string x), .v (.int _ i) => bif strT P T && decide (0 ≤ i) && decide (i < x.size) then k (.v (.int .u8 (bt x i))) else none
    | _, _ => none)
  | _ => (rhs P o s).bind k
def reads (o : Op) : Bool := match o with
  | .move _ | .pick .. | .build .. | .load .. | .nilCheck _ | .binOp .. | .unOp .. | .makeInterface .. | .typeAssert .. | .slice .. | .fieldAddr .. | .field .. | .indexAddr .. | .index .. | .extract .. | .makeFunc .. => true
  | .convert _ dst _ => (match P.underlying dst with | some (.slice _) => false | _ => true)
  | .call { callee := .builtin .len, .. } => true
  | _ => false
def uniqT : List Nat → List AV → List AV
  | _, [] => []
  | u, c :: r => (match c with
    | .row (some n) E l => bif u.contains n then .row none E l :: uniqT u r else .row (some n) E l :: uniqT (n :: u) r
    | c => c :: uniqT u r)
def findT : List AV → Nat → Nat → Option Nat
  | [], _, _ => none
  | c :: r, j, m => (match c with
    | .row (some n) _ _ => bif n == m then some j else findT r (j + 1) m
    | _ => findT r (j + 1) m)
def moveF (d off hi : Nat) (cs : List AV) : Option Nat → Option Nat
  | some m => (match findT cs off m with | some j => some (sub d j) | none => killsF d off hi (some m))
  | none => none
def AV.into (d j : Nat) (c : AV) (z : AV) : AV := match c with | .row (some _) E l => .row (some (sub d j)) E l | _ => z
def intoL (d : Nat) : Nat → List AV → List AV → List AV
  | j, c :: cs, z :: zs => c.into d j z :: intoL d (j + 1) cs zs
  | _, _, _ => []
def storeAV (s : St) (T : TypeId) (a x : AV) : Option St := match a with
  | .box d off => (s.boxAt d).bind fun cs => (kinds P T).bind fun ks => (szT P T).bind fun n =>
    bif n == ks.length && x.cells.all AV.one && Nat.beq x.cells.length n && Nat.ble (off + n) cs.length && Nat.ble cs.length 1024 then
      (match x with
      | .row (some m) E l => bif m == sub d off then some (s.setBox d (cs.set off x)) else
        let s1 := (s.kill (sub d off)).tok (renF m (sub d off))
        (s1.boxAt d).map fun cs => s1.setBox d (cs.set off (.row (some (sub d off)) E l))
      | x => let s1 := s.tok (moveF d off (off + n) (uniqT [] x.cells))
        (s1.boxAt d).map fun cs => s1.setBox d (cs.take off ++ (intoL d off (uniqT [] x.cells) (cellsAt none d off ks x.cells) ++ cs.drop (off + n)))) else none
  | _ => none
def AV.give (e d j : Nat) : AV → AV
  | .row (some m) E l => .row (bif m == sub e j then some (sub d j) else none) E l
  | .box _ _ => .dead
  | .fn _ _ _ => .dead
  | x => x
def giveL (e d : Nat) : Nat → List AV → List AV
  | _, [] => []
  | j, c :: cs => c.give e d j :: giveL e d (j + 1) cs
def parL (P : Program) (f : FuncId) (Ts : Array TypeId) : List TypeId := match P.funcs[f]? with | some fn => fn.params.toList | none => Ts.toList
def ptrOf (P : Program) (T : TypeId) : Option TypeId := match P.underlying T with | some (.pointer E) => some E | _ => none
structure Pass where
  xs : List AV
  bs : Bx
  ls : List (Option Nat)
  tk : Option Nat
def nil1 : CK → AV → AV
  | .row E, .v (.slice none 0 0) => .row none E []
  | _, c => c
def nil2 : List CK → List AV → List AV
  | k :: ks, c :: cs => nil1 k c :: nil2 ks cs
  | _, cs => cs
def nilL (ks : Option (List CK)) (cs : List AV) : List AV := match ks with | some ks => nil2 ks cs | none => cs
def argsFor (take : Option Nat) (s : St) : List TypeId → List AV → Nat → Option Pass
  | [], [], _ => some ⟨[], [], [], none⟩
  | T :: Ts, x :: xs, i => (argsFor take s Ts xs (i + 1)).bind fun p => match x with
    | .box d off => (match ptrOf P T with
      | some E => (s.boxAt d).bind fun cs =>
        bif off == 0 && szT P E == some cs.length && Nat.ble cs.length 1024 && !p.ls.contains (some d) then
          some ⟨.box i 0 :: p.xs, some (giveL d i 0 cs) :: p.bs, some d :: p.ls, p.tk⟩ else none
      | none => none)
    | .row t E l => (match t with
      | some n => bif take == some i && Nat.blt n 1024 then some ⟨.row (some i) E l :: p.xs, none :: p.bs, none :: p.ls, some n⟩ else some ⟨.row none E l :: p.xs, none :: p.bs, none :: p.ls, p.tk⟩
      | none => some ⟨.row none E l :: p.xs, none :: p.bs, none :: p.ls, p.tk⟩)
    | .v (.slice none 0 0) => (match elemT P T with
      | some E => some ⟨.row (some i) E [] :: p.xs, none :: p.bs, none :: p.ls, p.tk⟩
      | none => none)
    | .v y => some ⟨.v y :: p.xs, none :: p.bs, none :: p.ls, p.tk⟩
    | .agg cs => some ⟨.agg ((nilL (kinds P T) cs).map AV.bare) :: p.xs, none :: p.bs, none :: p.ls, p.tk⟩
    | _ => none
  | _, _, _ => none
def backS : Nat → List (Option Nat) → Bx → St → Option St
  | _, [], _, s => some s
  | i, none :: ls, _ :: bs, s => backS (i + 1) ls bs s
  | i, some d :: ls, some cs :: bs, s => (s.boxAt d).bind fun old => bif Nat.beq cs.length old.length then backS (i + 1) ls bs (s.setBox d (giveL i d 0 cs)) else none
  | _, _, _, _ => none
def lossOf (m : Nat) : Option Nat → Bool | some d => m / 1024 == d + 1 | none => false
def lostB (p : Pass) (dst : Option Nat) (m : Nat) : Bool := p.tk == some m || p.ls.any (lossOf m) || (match dst with | some d => m == d || m / 1024 == d + 1 | none => false)
def lostF (p : Pass) (dst : Option Nat) : Option Nat → Option Nat
  | some m => bif lostB p dst m then none else some m
  | none => none
def dstOk (p : Pass) : Option Nat → Bool | some d => Nat.blt d 1024 && !p.ls.contains (some d) | none => true
def AV.name (m : Nat) : AV → AV | .row (some _) E l => .row (some m) E l | x => x
def nameL (d : Nat) : Nat → List AV → List AV
  | _, [] => []
  | j, c :: cs => c.name (sub d j) :: nameL d (j + 1) cs
def newTok (dst : Option Nat) (x : AV) : Option AV := match dst with
  | some d => (match x with
    | .tup vs => bif Nat.ble vs.length 1024 then some (.tup (nameL d 0 vs)) else none
    | .agg vs => bif Nat.ble vs.length 1024 then some (.agg (nameL d 0 vs)) else none
    | x => some (x.name d))
  | none => some .dead
def dstN (v : AV) (dst : Option Nat) : Option Nat := match v with | .v _ => none | _ => dst
def appOk (Ts : Array TypeId) (E : TypeId) : Bool := match Ts[0]?, Ts[1]? with
  | some T, some U => elemT P T == some E && (match P.underlying U with | some (.slice _) | some .string => true | _ => false) &&
    (match kinds P E, P.info? E with
    | some ks, some i => i.size == ks.length && Nat.blt 0 ks.length && Nat.ble i.bytes 128 && (match i.zero with | some z => Nat.beq z.cells.size ks.length | none => false)
    | _, _ => false)
  | _, _ => false
def appendAV (Ts : Array TypeId) (xs : List AV) (s : St) (d : Nat) : Option St := match xs with
  | [.row (some n) E l, y] => bif appOk P Ts E then (match y with
    | .row _ E' m => bif E == E' && Nat.ble (l.length + m.length) fitsN then some (((s.kill n).kill d).put (some d) (.row (some d) E (l ++ m))) else none
    | .v (.slice none 0 0) => bif Nat.ble l.length fitsN then some (((s.kill n).kill d).put (some d) (.row (some d) E l)) else none
    | .v (.string x) => (match P.underlying E with
      | some (.int .u8) => bif Nat.ble (l.length + x.size) fitsN then some (((s.kill n).kill d).put (some d) (.row (some d) E (l ++ bytesTo x))) else none
      | _ => none)
    | _ => none) else none
  | [.v (.slice none 0 0), .row _ E' m] => (match (Ts[0]?).bind (elemT P) with
    | some E => bif appOk P Ts E then (bif E == E' && Nat.ble m.length fitsN then some ((s.kill d).put (some d) (.row (some d) E m)) else none) else none
    | none => none)
  | _ => none
def appendK {β : Type} (Ts : Array TypeId) (xs : List AV) (s : St) (d : Nat) (k : St → Option β) : Option β := match xs with
  | [.row (some n) E l, y] => bif appOk P Ts E then (match y with
    | .row _ E' m => bif E == E' && Nat.ble (l.length + m.length) fitsN then k (((s.kill n).kill d).put (some d) (.row (some d) E (l ++ m))) else none
    | .v (.slice none 0 0) => bif Nat.ble l.length fitsN then k (((s.kill n).kill d).put (some d) (.row (some d) E l)) else none
    | .v (.string x) => (match P.underlying E with
      | some (.int .u8) => bif Nat.ble (l.length + x.size) fitsN then k (((s.kill n).kill d).put (some d) (.row (some d) E (l ++ bytesTo x))) else none
      | _ => none)
    | _ => none) else none
  | [.v (.slice none 0 0), .row _ E' m] => (match (Ts[0]?).bind (elemT P) with
    | some E => bif appOk P Ts E then (bif E == E' && Nat.ble m.length fitsN then k ((s.kill d).put (some d) (.row (some d) E m)) else none) else none
    | none => none)
  | _ => none
theorem appendK_eq {β : Type} (Ts : Array TypeId) (xs : List AV) (s : St) (d : Nat) (k : St → Option β) : appendK P Ts xs s d k = (appendAV P Ts xs s d).bind k := by
  have hb : ∀ (c : Bool) (x : St), (bif c then k x else none) = (bif c then some x else none : Option St).bind k := fun c x => by cases c <;> rfl
  have hb2 : ∀ (c : Bool) (x : Option St), (bif c then x.bind k else none) = (bif c then x else none).bind k := fun c x => by cases c <;> rfl
  unfold appendK appendAV
  split
  · rw [← hb2]
    congr 1
    split
    · exact hb _ _
    · exact hb _ _
    · split
      · exact hb _ _
      · rfl
    · rfl
  · split
    · rw [← hb2, ← hb]
    · rfl
  · rfl
def u8T (T E : TypeId) : Bool := match P.underlying T with
  | some (.slice E') => E' == E && (Nat.beq E u8Id && (match P.underlying E with | some (.int .u8) => true | _ => false))
  | _ => false
def partsF (ks : List CK) : List (Nat × AV) → Nat → Option (List Dat)
  | [], _ => some []
  | (i, x) :: r, n => bif i == n then (pack ks x).bind fun d => (partsF ks r (n + 1)).bind fun l => some (d :: l) else none
def callK {β : Type} (takes : FuncId → Option Nat) (call : CallF) (thr : Value → Option β) (f : FuncId) (Ts : Array TypeId) (xs : List AV) (dst : Option Tmp) (s : St) (k : St → Option β) : Option β :=
  bif Nat.ble xs.length 1024 then (argsFor P (takes f) s (parL P f Ts) xs 0).bind fun p => bif dstOk p dst then
      (call f p.xs p.bs).bind fun q => bif q.1 then outK thr (fun v bs => (backS 0 p.ls bs (s.tok (lostF p (dstN v dst)))).bind fun s => (newTok dst v).bind fun x => k (s.put dst x)) q.2 else none else none else none
def evX {β : Type} (np : Nat) (takes : FuncId → Option Nat) (call : CallF) (thr : Value → Option β) (o : Oper) (s : St) (k : St → Option β) : Option β :=
  match o.op, o.dst with
  | .assign x, some d => k (s.assign P o.type d (s.ev x))
  | .alloc T, some d => (zeroCells P T).bind fun z => (kinds P T).bind fun ks => bif Nat.ble np d && Nat.ble ks.length 1024 && Nat.beq z.length ks.length && Nat.blt d s.t.length && !Nat.beq T u8Id then k (s.newBox d (cellsAt (some T) d 0 ks z)) else none
  | .box T x, some d => (kinds P T).bind fun ks => bif Nat.ble np d && Nat.ble ks.length 1024 && Nat.beq (s.ev x).cells.length ks.length && (s.ev x).cells.all AV.one && Nat.blt d s.t.length && !Nat.beq T u8Id then k (s.newBox d (cellsAt (some T) d 0 ks (s.ev x).cells)) else none
  | .buildSlice T n ps, some d => (elemT P T).bind fun E => (kinds P E).bind fun ks => (partsF ks (ps.toList.map fun (i, x) => (i, s.ev x)) 0).bind fun l =>
      bif Nat.beq l.length n && szT P E == some ks.length && (zeroCells P E).isSome && Nat.ble (n * ks.length) 16777216 && Nat.blt 0 ks.length && Nat.blt d s.t.length && ps.toList.all (fun p => (s.ev p.2).cells.all AV.one) then k ((s.kill d).put (some d) (.row (some d) E l)) else none
  | .convert src dst x, some d => (match s.ev x with
    | .v (.string x) => (match P.underlying src, P.underlying dst with
      | some .string, some (.slice E) => (match P.underlying E with
        | some (.int .u8) => bif Nat.ble x.size fitsN && szT P E == some 1 then k ((s.kill d).put (some d) (.row (some d) E (bytesTo x))) else none
        | _ => none)
      | _, _ => none)
    | .row (some n) E l => bif u8T P dst E && src == dst && Nat.blt 0 l.length then k (s.assign P dst d (.row (some n) E l)) else none
    | _ => none)
  | .store T a x, none => (storeAV P s T (s.ev a) (s.ev x)).bind k
  | .panic x, _ => (match s.ev x with | .v (.iface T a) => thr (.iface T a) | _ => none)
  | .call { callee := .builtin .append, args := xs, argTypes := Ts }, some d => bif Nat.blt d s.t.length then appendK P Ts (xs.toList.map s.ev) s d k else none
  | .call { callee := .value (.func f), args := xs, argTypes := Ts }, dst => callK P takes call thr f Ts (xs.toList.map s.ev) dst s k
  | .call { callee := .value (.tmp t), args := xs, argTypes := Ts }, dst => (match s.get t with
    | .fn f ys cs => callK P takes call thr f Ts (ys ++ (xs.toList.map s.ev ++ cs)) dst s k
    | _ => none)
  | _, _ => none
def bsOp (o : Oper) : Bool := match o.op with | .buildSlice .. => true | .convert .. => true | _ => false
def rhsB (o : Oper) (s : St) : Option AV := match o.op, o.dst with
  | .buildSlice T n ps, some d => (elemT P T).bind fun E => (kinds P E).bind fun ks => (partsF ks (ps.toList.map fun (i, x) => (i, s.ev x)) 0).bind fun l =>
      bif Nat.beq l.length n && szT P E == some ks.length && (zeroCells P E).isSome && Nat.ble (n * ks.length) 16777216 && Nat.blt 0 ks.length && Nat.blt d s.t.length && ps.toList.all (fun p => (s.ev p.2).cells.all AV.one) then some (.row none E l) else none
  | .convert src dst x, some d => (match s.ev x with
    | .v (.string x) => (match P.underlying src, P.underlying dst with
      | some .string, some (.slice E) => (match P.underlying E with
        | some (.int .u8) => bif Nat.ble x.size fitsN && szT P E == some 1 then some (.row none E (bytesTo x)) else none
        | _ => none)
      | _, _ => none)
    | _ => none)
  | _, _ => none
def evOp {β : Type} (np : Nat) (dr : Bool) (takes : FuncId → Option Nat) (call : CallF) (thr : Value → Option β) (o : Oper) (s : St) (k : St → Option β) : Option β :=
  bif reads P o.op then rhsK P o s (fun x => k (s.put o.dst x)) else bif dr && bsOp o then (rhsB P o s).bind fun x => k (s.put o.dst x) else evX P np takes call thr o s k
end
def opMask (x : Operand) : Nat := match x with | .tmp t => 2 ^ t | _ => 0
def useMask (o : Op) : Nat := o.operands.toList.foldl (fun m x => m ||| opMask x) 0
def liveOps : List Oper → Nat → Nat
  | [], out => out
  | o :: r, out => let l := liveOps r out
    let l := match o.dst, o.guard with | some d, none => l &&& (l ^^^ 2 ^ d) | _, _ => l
    l ||| useMask o.op
def lk (ex : List (Nat × Nat)) (id : Nat) : Nat := ((ex.find? fun p => p.1 == id).map (·.2)).getD 0
def liveC (ret : Nat) : Code → Nat → List (Nat × Nat) → Nat
  | .region _ ops _, out, _ => liveOps ops.toList out
  | .seq a b, out, ex => liveC ret a (liveC ret b out ex) ex
  | .cond c a b, out, ex => opMask c ||| (liveC ret a out ex ||| liveC ret b out ex)
  | .block id c, out, ex => liveC ret c out ((id, out) :: ex)
  | .loop c, _, ex => liveC ret c (liveC ret c (liveC ret c 0 ex) ex) ex
  | .exit id, _, ex => lk ex id
  | .ret, _, _ => ret
  | _, out, _ => out
inductive Ex where | normal | exit (id : Nat) | ret
  deriving DecidableEq, Inhabited
def AV.ref0 : AV → List Nat | .box d _ => [d] | _ => []
def AV.ref1 : AV → List Nat | .box d _ => [d] | .fn _ xs cs => xs.flatMap AV.ref0 ++ cs.flatMap AV.ref0 | _ => []
def AV.refs : AV → List Nat | .agg vs => vs.flatMap AV.ref1 | .tup vs => vs.flatMap AV.ref1 | x => x.ref1
def pruneT (mask : Nat) : Nat → List AV → List AV
  | _, [] => []
  | i, x :: r => (bif mask.testBit i then x else .dead) :: pruneT mask (i + 1) r
def pruneB (np : Nat) (u : List Nat) : Nat → Bx → Bx
  | _, [] => []
  | i, none :: r => none :: pruneB np u (i + 1) r
  | i, some cs :: r => (bif Nat.blt i np || u.contains i then some cs else none) :: pruneB np u (i + 1) r
def usedB (t : List AV) (b : Bx) : List Nat := t.flatMap AV.refs ++ (t.flatMap AV.refs).flatMap fun d => ((b.getD d none).getD []).flatMap AV.ref1
def St.prune (np mask : Nat) (s : St) : St := ⟨pruneT mask 0 s.t, pruneB np (usedB (pruneT mask 0 s.t) s.b) 0 s.b⟩
abbrev KC (β : Type) := Ex → St → Option β
def iter {β : Type} (body : St → KC β → Option β) : Nat → St → KC β → Option β
  | 0, _, _ => none
  | n + 1, s, k => body s (fun x s => match x with
    | .normal => iter body n s k
    | .exit id => k (.exit id) s
    | .ret => k .ret s)
section
variable (P : Program) (np : Nat) (takes : FuncId → Option Nat) (call : CallF) (ret n : Nat)
def yieldB (s : St) (ops : List Oper) (j : Nat) : Option (Option Bool) := match (ops[j]?).bind (·.dst) with
  | some d => (match s.get d with | .v (.bool b) => some (some b) | .tup [] => some none | _ => none)
  | none => none
def wantB (s : St) (ops : List Oper) (g : Option (Nat × Bool)) : Option Bool := match g with
  | none => some true
  | some (j, want) => (match yieldB s ops j with
    | some none => some false
    | some (some b) => some (b == want)
    | none => none)
def noPtr (P : Program) (f : FuncId) (Ts : Array TypeId) : Bool := (parL P f Ts).all fun T => (ptrOf P T).isNone
def flatRes (f : FuncId) : Bool := match P.funcs[f]? with
  | some fn => fn.resultTypes.size == 1 && fn.resultTypes.toList.all fun T => match P.underlying T with | some (.int _) | some .bool | some .string => true | _ => false
  | none => false
def quietOp (o : Oper) : Bool := reads P o.op || (match o.op with
  | .call { callee := .value (.func f), argTypes := Ts, .. } => (takes f).isNone && noPtr P f Ts && flatRes P f
  | _ => false)
def groupOf (tj : Nat) : List Oper → Option (List Oper × Oper × List Oper)
  | [] => none
  | o :: r => match o.op with
    | .pick (.tmp c) _ _ => bif c == tj then some ([], o, r) else (groupOf tj r).map fun (g, p, r) => (o :: g, p, r)
    | _ => (groupOf tj r).map fun (g, p, r) => (o :: g, p, r)
def forgetL (D : List Nat) : Nat → List AV → List AV
  | _, [] => []
  | i, x :: r => (bif D.contains i then .dead else x) :: forgetL D (i + 1) r
def forget (D : List Nat) (s : St) : St := ⟨forgetL D 0 s.t, s.b⟩
def dstsOf (g : List Oper) : List Nat := g.filterMap (·.dst)
def deadAll (g : List Oper) (s : St) : St := forget (dstsOf g) s
def asB : AV → Option Bool | .v (.bool b) => some b | _ => none
def join (tj : Nat) (l : List Oper) : Option (List Oper × Oper × Operand × Operand × List Oper) := (groupOf tj l).bind fun (g, p, r) => match p.op with
  | .pick _ x y => bif g.all (quietOp P takes) && p.dst.isSome && g.all (fun o => o.dst != some tj) then some (g, p, x, y, r) else none
  | _ => none
def quietC (call : CallF) : CallF := fun f xs bs => bif bs.all Option.isNone then (match call f xs bs with
  | some (b, .ret (.v x) bs') => some (b, .ret (.v x) bs')
  | _ => none) else none
def tmpOf (ops : List Oper) (j : Nat) : Option Nat := (ops[j]?).bind (·.dst)
def evOps {β : Type} (dr : Bool) (takes : FuncId → Option Nat) (call : CallF) (thr : Value → Option β) (ops : List Oper) : Nat → List Oper → St → (St → Option β) → Option β
  | 0, _, _, _ => none
  | _ + 1, [], s, k => k s
  | m + 1, o :: r, s, k => match o.guard with
    | none => evOp P np dr takes call thr o s (fun s => evOps dr takes call thr ops m r s k)
    | some (j, want) => (match yieldB s ops j with
      | none => none
      | some none => evOps dr takes call thr ops m r (s.put o.dst (.tup [])) k
      | some (some b) => (match tmpOf ops j with
        | none => none
        | some tj => (match join P takes tj (o :: r) with
          | some (g, p, x, y, r') => (wantB (deadAll g s) ops p.guard).bind fun pw =>
              (bif b then evOps dr (fun _ => none) (quietC call) (fun _ => none) ops m g (s.put (some tj) (B true)) (fun s => asB (s.ev x)) else evOps dr (fun _ => none) (quietC call) (fun _ => none) ops m g (s.put (some tj) (B false)) (fun s => asB (s.ev y))).bind fun t =>
                evOps dr takes call thr ops m r' ((deadAll g s).put p.dst (bif pw then B t else .tup [])) k
          | none => bif b == want then evOp P np dr takes call thr o (s.put (some tj) (B want)) (fun s => evOps dr takes call thr ops m r s k) else evOps dr takes call thr ops m r ((s.put (some tj) (B !want)).put o.dst (.tup [])) k)))
def maskOf (o : Oper) (ms : List Nat) : Nat := o.after.toList.foldl (fun m e => bif Region.binds .any e then m ||| (2 ^ e.on ||| ms.getD e.on 0) else m) 0
def masks : List Oper → List Nat → List Nat
  | [], ms => ms
  | o :: r, ms => masks r (ms ++ [maskOf o ms])
def thrOk (ops : List Oper) : Bool :=
  let ms := masks ops []
  (List.range ops.length).all fun k => match ops[k]? with
    | some o => (match o.op with
      | .call { callee := .value (.func _), .. } | .call { callee := .value (.tmp _), .. } | .panic _ => (List.range ops.length).all fun j => Nat.ble j k || (ms.getD j 0).testBit k
      | _ => true)
    | none => true
def looks (ops : List Oper) (o : Oper) : List Nat := (o.op.operands.toList.filterMap fun | .tmp t => some t | _ => none) ++ (match o.guard with | some (j, _) => (tmpOf ops j).toList | none => [])
def wOp (P : Program) (o : Oper) : Bool := reads P o.op || bsOp o
def xOp (P : Program) (o : Oper) : Bool := match o.op with
  | .call { callee := .builtin .append, .. } => true
  | .call { callee := .value (.func f), argTypes := Ts, .. } => noPtr P f Ts
  | .assign _ => true
  | _ => false
def apartB (ops : List Oper) (x y : Oper) : Bool :=
  (match x.dst with | some d => !(looks ops y).contains d && y.dst != some d | none => true) && (match y.dst with | some d => !(looks ops x).contains d | none => true)
def pairOk (P : Program) (ops : List Oper) (x y : Oper) : Bool := apartB ops x y && (wOp P x && wOp P y || wOp P x && xOp P y || xOp P x && wOp P y)
def isThr (o : Oper) : Bool := match o.op with
  | .call { callee := .value (.func _), .. } | .call { callee := .value (.tmp _), .. } | .panic _ => true
  | _ => false
def ptrCall (P : Program) (o : Oper) : Option (List Operand) := match o.op with
  | .call { callee := .value (.func f), args := xs, argTypes := Ts } => bif noPtr P f Ts then none else some xs.toList
  | .store _ a _ => some [a]
  | _ => none
def loadOf (o : Oper) : Option Operand := match o.op with | .load _ a => some a | _ => none
def isStore (o : Oper) : Bool := match o.op with | .store .. => true | _ => false
def lcOf (P : Program) (x y : Oper) : Option (Operand × List Operand) := match loadOf x with
  | some a => (ptrCall P y).map fun xs => (a, xs)
  | none => (loadOf y).bind fun a => (ptrCall P x).map fun xs => (a, xs)
def fixedAt (ops : List Oper) (m : Nat) (o : Oper) : Bool := (List.range ops.length).all fun k => Nat.blt k m || (match (ops[k]?).bind (·.dst) with | some d => !(looks ops o).contains d | none => true)
def thrAt (ops : List Oper) (k : Nat) : Bool := match ops[k]? with | some o => isThr o | none => false
def calm (P : Program) (ops : List Oper) : Bool := ops.all (fun o => wOp P o || xOp P o || (ptrCall P o).isSome || isStore o) && (List.range ops.length).all fun k => (List.range k).all fun m => !(thrAt ops k && thrAt ops m)
def dynW (P : Program) (x y : Oper) : Bool := wOp P x && (ptrCall P y).isSome || wOp P y && (ptrCall P x).isSome
def pairDyn (P : Program) (ops : List Oper) (i j : Nat) (x y : Oper) : Bool := apartB ops x y && dynW P x y && ((lcOf P x y).isNone || (fixedAt ops i x && fixedAt ops j y && calm P ops && (!(isStore x || isStore y) || ops.all fun o => !isThr o)))
def needs (P : Program) (ops : List Oper) : List (Operand × List Operand) :=
  bif ops.any (fun o => (loadOf o).isSome) && ops.any (fun o => (ptrCall P o).isSome) then
    let ms := masks ops []
    (List.range ops.length).flatMap fun j => (List.range j).filterMap fun i => bif (ms.getD j 0).testBit i then none else (match ops[i]?, ops[j]? with
      | some x, some y => bif pairOk P ops x y then none else lcOf P x y
      | _, _ => none)
  else []
def farFrom (s : St) (d : Nat) : List Operand → Bool
  | [] => true
  | x :: xs => (match s.ev x with | .box e _ => !Nat.beq e d | .dead => false | .fn .. => false | _ => true) && farFrom s d xs
def aparts (s : St) (p : Operand × List Operand) : Bool := match s.ev p.1 with
  | .box d _ => farFrom s d p.2
  | .ro _ => true
  | _ => false
def endOk (P : Program) (ops : List Oper) (s : St) : Bool := (needs P ops).all (aparts s)
def isAlloc (o : Oper) : Bool := match o.op with | .alloc _ => true | _ => false
def nopped (o : Oper) : Oper := bif isAlloc o then { o with dst := none, op := .move (.const (.bool false)), guard := none } else o
def manyAlloc (ops : List Oper) : Bool := Nat.blt 1 (ops.countP isAlloc)
def allocDs (ops : List Oper) : List Nat := ops.filterMap fun o => bif isAlloc o then o.dst else none
def frC (d : Nat) : AV → Bool
  | .box e _ => !Nat.beq e d
  | .row (some m) _ _ => !Nat.beq (m / 1024) (d + 1)
  | .fn _ xs cs => (xs ++ cs).all fun x => match x with | .box e _ => !Nat.beq e d | _ => true
  | _ => true
def frB (d : Nat) : AV → Bool
  | .agg vs => vs.all (frC d)
  | x => frC d x
def frA (d : Nat) : AV → Bool
  | .tup vs => vs.all (frB d)
  | x => frB d x
def St.fresh (s : St) (d : Nat) : Bool := s.t.all (frA d) && s.b.all fun o => match o with | some cs => cs.all (frC d) | none => true
def St.addBox (s : St) (d : Nat) (cs : List AV) : St := ⟨s.t.set d (.box d 0), s.b.set d (some cs)⟩
def allocsS (P : Program) (np : Nat) (ds : List Nat) : List Oper → St → Option St
  | [], s => some s
  | o :: r, s => match o.op, o.dst with
    | .alloc T, some d => (zeroCells P T).bind fun z => (kinds P T).bind fun ks => bif Nat.ble np d && Nat.ble ks.length 1024 && Nat.beq z.length ks.length && Nat.blt d s.t.length && !Nat.beq T u8Id && !(allocDs r).contains d &&
        (((cellsAt (some T) d 0 ks z).map (AV.nobox1 d)).all fun c => ds.all fun e => Nat.beq e d || frC e c) then allocsS P np ds r (s.addBox d ((cellsAt (some T) d 0 ks z).map (AV.nobox1 d))) else none
    | _, _ => allocsS P np ds r s
def joins : Code → Bool | .cond .. => true | .seq _ b => joins b | .block _ _ => true | _ => false
def evC {β : Type} (thr : St → Value → Option β) : Code → Nat → List (Nat × Nat) → St → KC β → Option β
  | .skip, _, _, s, k => k .normal s
  | .region _ ops dr, _, _, s, k => bif dr && manyAlloc ops.toList then
      (bif (allocDs ops.toList).all s.fresh then (allocsS P np (allocDs ops.toList) ops.toList s).bind fun s1 => evOps P np dr takes call (fun v => bif !dr || thrOk (ops.toList.map nopped) then thr (forget (dstsOf ops.toList) s) v else none) (ops.toList.map nopped) (ops.size + 1) (ops.toList.map nopped) s1 (fun s => bif !dr || endOk P (ops.toList.map nopped) s then k .normal s else none) else none)
    else evOps P np dr takes call (fun v => bif !dr || thrOk ops.toList then thr (forget (dstsOf ops.toList) s) v else none) ops.toList (ops.size + 1) ops.toList s (fun s => bif !dr || endOk P ops.toList s then k .normal s else none)
  | .seq a b, out, ex, s, k => evC thr a (liveC ret b out ex) ex s (fun x s => match x with
    | .normal => evC thr b out ex (bif joins a then s.prune np (liveC ret b out ex) else s) k
    | .exit id => k (.exit id) s
    | .ret => k .ret s)
  | .cond c a b, out, ex, s, k => (match s.ev c with
    | .v (.bool c) => bif c then evC thr a out ex s k else evC thr b out ex s k
    | _ => none)
  | .block id c, out, ex, s, k => evC thr c out ((id, out) :: ex) s (fun x s => match x with
    | .exit j => k (bif j == id then .normal else .exit j) s
    | .normal => k .normal s
    | .ret => k .ret s)
  | .loop c, out, ex, s, k => iter (fun s k => evC thr c (liveC ret (.loop c) out ex) ex s (fun x s => match x with
    | .normal => k .normal (s.prune np (liveC ret (.loop c) out ex))
    | .exit id => k (.exit id) s
    | .ret => k .ret s)) n (s.prune np (liveC ret (.loop c) out ex)) k
  | .exit id, _, _, s, k => k (.exit id) s
  | .ret, _, _, s, k => k .ret s
  | _, _, _, _, _ => none
end
def retMask (rs : List ResultVar) : Nat := rs.foldl (fun m r => m ||| (match r with | .tmp t => 2 ^ t | .cell t _ => 2 ^ t)) 0
def claim (u : List Nat) (x : AV) : List Nat × AV := match x with
  | .row (some n) E l => bif u.contains n || !Nat.blt n 1024 then (u, .row none E l) else (n :: u, .row (some n) E l)
  | .agg cs => (u, .agg (cs.map AV.bare))
  | .tup _ => (u, .dead)
  | .box _ _ => (u, .dead)
  | .fn _ _ _ => (u, .dead)
  | x => (u, x)
def claimL : List Nat → List AV → List AV
  | _, [] => []
  | u, x :: r => (claim u x).2 :: claimL (claim u x).1 r
def claimA (sh : List Bool) : List Nat → List AV → List AV
  | _, [] => []
  | u, c :: r => (match c with
    | .row (some n) E l => bif u.contains n || (!(Nat.blt n 1024) && sh.getD (n / 1024 - 1) false) then .row none E l :: claimA sh u r else .row (some n) E l :: claimA sh (n :: u) r
    | c => c.bare :: claimA sh u r)
def claimR (sh : List Bool) (l : List AV) : AV := match l with
  | [.agg cs] => .agg (claimA sh [] cs)
  | l => (match claimL [] l with | [x] => x | l => .tup l)
def claimB : Nat → Bx → Bx → Bx
  | i, some _ :: bx, some cs :: r => some (giveL i i 0 cs) :: claimB (i + 1) bx r
  | i, _ :: bx, _ :: r => none :: claimB (i + 1) bx r
  | _, _, _ => []
def resVal (P : Program) (s : St) : ResultVar → Option AV
  | .tmp t => some (s.get t)
  | .cell t T => (s.cellsOf (s.get t)).bind fun cs => partAV P T cs 0
def resVals (P : Program) (s : St) : List ResultVar → Option (List AV)
  | [] => some []
  | r :: rs => (resVal P s r).bind fun x => (resVals P s rs).bind fun l => some (x :: l)
def AV.frz : AV → AV | .row _ E l => .row none E l | .v x => .v x | _ => .dead
def keptB : List Bool → Bx → Bool
  | true :: bx, o :: r => o.isSome && keptB bx r
  | false :: bx, _ :: r => keptB bx r
  | [], _ => true
  | _, [] => false
def frzX (sh : List Bool) (s : St) : AV → AV
  | .box d off => (match s.boxAt d with
    | some cs => bif !(sh.getD d false) && keptB sh s.b then .ro ((cs.drop off).map AV.frz) else .box d off
    | none => .box d off)
  | x => x
def outOf (P : Program) (fn : Func) (bx : Bx) (s : St) : Option Out := (resVals P s fn.results.toList).bind fun l =>
  bif Nat.ble bx.length s.b.length then some (.ret (claimR (bx.map Option.isSome) (l.map (frzX (bx.map Option.isSome) s))) (claimB 0 bx s.b)) else none
def entry (fn : Func) (xs : List AV) (bx : Bx) : St := ⟨xs ++ List.replicate (fn.ntmps - xs.length) .dead, bx ++ List.replicate (fn.ntmps - bx.length) none⟩
def evBody (P : Program) (takes : FuncId → Option Nat) (call : CallF) (n : Nat) (fn : Func) (xs : List AV) (bx : Bx) : Option Out := match fn.body with
  | some c => bif Nat.beq xs.length fn.params.size && Nat.beq bx.length fn.params.size && Nat.ble fn.params.size fn.ntmps then evC P fn.params.size takes call (retMask fn.results.toList) n (fun _ v => some (.thr v)) c (retMask fn.results.toList) [] (entry fn xs bx) (fun x s => match x with
    | .normal => outOf P fn bx s
    | .ret => outOf P fn bx s
    | .exit _ => none) else none
  | none => none
def evF (P : Program) (takes : FuncId → Option Nat) (ext : CallF) (fs : List FuncId) : Nat → CallF
  | 0 => fun _ _ _ => none
  | n + 1 => fun f xs bx => match ext f xs bx with
    | some r => some r
    | none => bif fs.contains f then (match P.funcs[f]? with
      | some fn => (evBody P takes (evF P takes ext fs n) n fn xs bx).map fun o => (true, o)
      | none => none) else none
end Go.Proofs.YtckdgcpomkefpaaGreatDoor.En
end
section
set_option linter.unusedVariables false
set_option linter.unusedSimpArgs false
namespace Go.Proofs.YtckdgcpomkefpaaGreatDoor.En
open Go
structure Gh where
  G : Nat → Nat → Prop
  tk : Nat → Option (Value × TypeId)
  bx : Nat → Option Nat
def scal (k : CK) (d : Dat) (v : Value) : Prop := match k with
  | .int k => v = .int k d.toI
  | .bool => v = .bool d.toB
  | .str => v = .string d.toS
  | _ => True
inductive RepRow (P : Program) (G : Nat → Nat → Prop) (w : World) : TypeId → List Dat → Value → Prop
  | nil (E : TypeId) (A : Option Addr) (cap : Nat) : RepRow P G w E [] (.slice A 0 cap)
  | mk (E : TypeId) (l : List Dat) (β off cap : Nat) (ks : List CK) (vals : Nat → Nat → Value) (hk : kinds P E = some ks) (hlen : l.length ≤ cap)
      (hc : ∀ i j, i < l.length → j < ks.length → G β (off + i * ks.length + j) ∧ w.cell? ⟨β, off + i * ks.length + j, none⟩ = some (vals i j) ∧ (vals i j).oneCell' = true)
      (hs : ∀ i j d k, l[i]? = some d → ks[j]? = some k → scal k (d.at j) (vals i j))
      (hr : ∀ i j d E', l[i]? = some d → ks[j]? = some (.row E') → RepRow P G w E' (d.at j).toL (vals i j)) : RepRow P G w E l (.slice (some ⟨β, off, none⟩) l.length cap)
theorem RepRow.mono {P : Program} {G G' : Nat → Nat → Prop} {w w' : World} {E : TypeId} {l : List Dat} {v : Value} (h : RepRow P G w E l v)
    (hG : ∀ β j, G β j → G' β j ∧ w'.cell? ⟨β, j, none⟩ = w.cell? ⟨β, j, none⟩) : RepRow P G' w' E l v := by
  induction h with
  | nil E A cap => exact .nil E A cap
  | mk E l β off cap ks vals hk hlen hc hs hr ih =>
    exact .mk E l β off cap ks vals hk hlen (fun i j hi hj => ⟨(hG _ _ (hc i j hi hj).1).1, ((hG _ _ (hc i j hi hj).1).2).trans (hc i j hi hj).2.1, (hc i j hi hj).2.2⟩) hs ih
theorem RepRow.slice {P : Program} {G : Nat → Nat → Prop} {w : World} {E : TypeId} {l : List Dat} {v : Value} (h : RepRow P G w E l v) : ∃ A cap, v = .slice A l.length cap := by
  cases h with
  | nil E A cap => exact ⟨A, cap, rfl⟩
  | mk E l β off cap ks vals hk hlen hc hs hr => exact ⟨_, _, rfl⟩
theorem RepRow.one {P : Program} {G : Nat → Nat → Prop} {w : World} {E : TypeId} {l : List Dat} {v : Value} (h : RepRow P G w E l v) : v.oneCell' = true := by
  obtain ⟨A, cap, rfl⟩ := h.slice; rfl
section
variable (P : Program) (g : Gh) (w : World)
def Rep0 : AV → Value → Prop
  | .v x, v => v = x ∧ x.oneCell' = true
  | .row t E l, v => t = none ∧ RepRow P g.G w E l v
  | .dead, v => v.oneCell' = true
  | _, _ => False
def Rep1 : AV → Value → Prop
  | .v x, v => v = x ∧ x.oneCell' = true
  | .box d off, v => ∃ β, g.bx d = some β ∧ v = .pointer (some ⟨β, off, none⟩)
  | .dead, v => v.oneCell' = true
  | _, _ => False
def RepC : AV → Value → Prop
  | .v x, v => v = x ∧ x.oneCell' = true
  | .row t E l, v => RepRow P g.G w E l v ∧ ∀ n, t = some n → g.tk n = some (v, E)
  | .box d off, v => ∃ β, g.bx d = some β ∧ v = .pointer (some ⟨β, off, none⟩)
  | .ro cs, v => ∃ β o, v = .pointer (some ⟨β, o, none⟩) ∧ ∀ j c, cs[j]? = some c → ∃ u, w.cell? ⟨β, o + j, none⟩ = some u ∧ g.G β (o + j) ∧ Rep0 P g w c u
  | .fn f xs cs, v => ∃ us ws : Array Value, v = .func (.func f) us ws ∧ us.size = xs.length ∧ ws.size = cs.length ∧ (∀ (j : Nat) c, xs[j]? = some c → ∃ u, us[j]? = some u ∧ Rep1 g c u) ∧ ∀ (j : Nat) c, cs[j]? = some c → ∃ u, ws[j]? = some u ∧ Rep1 g c u
  | .err, v => ∃ T x, v = .iface T x
  | .dead, v => v.oneCell' = true
  | _, _ => False
def RepB (T : TypeId) (β j : Nat) : AV → Value → Prop
  | .self T', u => T' = T ∧ (u = .pointer none ∨ u = .pointer (some ⟨β, j, none⟩))
  | c, u => RepC P g w c u
def RepT : AV → Value → Prop
  | .agg cs, v => ∃ vs : Array Value, v = .agg vs ∧ vs.size = cs.length ∧ ∀ (j : Nat) c, cs[j]? = some c → ∃ u, vs[j]? = some u ∧ RepC P g w c u
  | .dead, _ => True
  | x, v => RepC P g w x v
def RepS : AV → Value → Prop
  | .tup xs, v => ∃ vs : Array Value, v = .tuple vs ∧ vs.size = xs.length ∧ ∀ (j : Nat) x, xs[j]? = some x → ∃ u, vs[j]? = some u ∧ RepT P g w x u
  | x, v => RepT P g w x v
def fzOk (fz : Nat × Nat) (n : Nat) : Prop := fz.1 = fz.2 ∨ n ≤ fz.1
def Own (v : Value) (E : TypeId) : Prop := v = .slice none 0 0 ∨ ∃ (β n cap : Nat) (us : Array Value) (ks : List CK) (fz : Nat × Nat), v = .slice (some ⟨β, 0, none⟩) n cap ∧ w.heap[β]? = some (.cells us E fz) ∧
  kinds P E = some ks ∧ n ≤ cap ∧ cap ≤ maxLen ∧ us.size = cap * ks.length ∧ (∀ j, n * ks.length ≤ j → ¬ g.G β j) ∧ fzOk fz us.size
def TyOk (β : Nat) : Prop := ∃ us T fz, w.heap[β]? = some (.cells us T fz) ∧ T ≠ u8Id
structure Mem (b : Bx) : Prop where
  gsz : ∀ β j, g.G β j → β < w.heap.size
  box : ∀ d cs, b[d]? = some (some cs) → ∃ (β : Nat) (us : Array Value) (T : TypeId), g.bx d = some β ∧ w.heap[β]? = some (.cells us T (0, 0)) ∧ us.size = cs.length ∧
    (∀ j, ¬ g.G β j) ∧ ∀ (j : Nat) c, cs[j]? = some c → ∃ u, us[j]? = some u ∧ RepB P g w T β j c u
  apart : ∀ d d' β cs cs', b[d]? = some (some cs) → b[d']? = some (some cs') → g.bx d = some β → g.bx d' = some β → d = d'
  own : ∀ n v E, g.tk n = some (v, E) → Own P g w v E
  tkap : ∀ n m v v' E E' β, g.tk n = some (v, E) → g.tk m = some (v', E') → v.ownBlock = some β → v'.ownBlock = some β → n = m
  tkbx : ∀ n v E β d cs, g.tk n = some (v, E) → v.ownBlock = some β → b[d]? = some (some cs) → g.bx d = some β → False
  ty : ∀ d cs β, b[d]? = some (some cs) → g.bx d = some β → TyOk w β
end
structure Fr (T : Nat → Nat → Prop) (w w' : World) : Prop where
  os : w'.os = w.os
  tape : w'.tape = w.tape
  output : w'.output = w.output
  size : w.heap.size ≤ w'.heap.size
  blk : ∀ β o, w.heap[β]? = some o → w'.heap[β]? = some o ∨ ∃ c E fz c' fz', o = .cells c E fz ∧ w'.heap[β]? = some (.cells c' E fz') ∧ c'.size = c.size ∧ (∀ j, ¬ T β j → c'[j]? = c[j]?) ∧ (fz' = fz ∨ (∃ j, T β j) ∧ E = u8Id) ∧ ∀ (j : Nat) u, c'[j]? = some u → c[j]? = some u ∨ u.oneCell' = true
theorem Fr.refl (T : Nat → Nat → Prop) (w : World) : Fr T w w := ⟨rfl, rfl, rfl, Nat.le_refl _, fun _ _ h => .inl h⟩
theorem Fr.trans {T T' T'' : Nat → Nat → Prop} {a b c : World} (h : Fr T a b) (k : Fr T' b c) (h1 : ∀ β j, β < a.heap.size → T β j → T'' β j) (h2 : ∀ β j, β < a.heap.size → T' β j → T'' β j) : Fr T'' a c := by
  refine ⟨k.os.trans h.os, k.tape.trans h.tape, k.output.trans h.output, Nat.le_trans h.size k.size, fun β o ho => ?_⟩
  have hlt : β < a.heap.size := (Array.getElem?_eq_some_iff.1 ho).1
  rcases h.blk β o ho with e | ⟨c1, E, fz, c1', fz1, rfl, e, hsz, hc, hz, h1c⟩
  · rcases k.blk β o e with e' | ⟨c2, E, fz, c2', fz2, rfl, e', hsz', hc', hz', h2c⟩
    · exact .inl e'
    · exact .inr ⟨c2, E, fz, c2', fz2, rfl, e', hsz', fun j hj => hc' j fun t => hj (h2 β j hlt t), hz'.imp id fun ⟨⟨j, t⟩, q⟩ => ⟨⟨j, h2 β j hlt t⟩, q⟩, h2c⟩
  · rcases k.blk β _ e with e' | ⟨c2, E', fz', c2', fz2, e2, e', hsz', hc', hz', h2c⟩
    · exact .inr ⟨c1, E, fz, c1', fz1, rfl, e', hsz, fun j hj => hc j fun t => hj (h1 β j hlt t), hz.imp id fun ⟨⟨j, t⟩, q⟩ => ⟨⟨j, h1 β j hlt t⟩, q⟩, h1c⟩
    · injection e2 with e2 e3 e4
      subst e2 e3 e4
      refine .inr ⟨c1, E, fz, c2', fz2, rfl, e', hsz'.trans hsz, fun j hj => (hc' j fun t => hj (h2 β j hlt t)).trans (hc j fun t => hj (h1 β j hlt t)), ?_, fun j u hu => (h2c j u hu).elim (fun q => h1c j u q) .inr⟩
      rcases hz' with hz' | ⟨⟨j, t⟩, q⟩
      · rcases hz with hz | ⟨⟨j, t⟩, q⟩
        · exact .inl (hz'.trans hz)
        · exact .inr ⟨⟨j, h1 β j hlt t⟩, q⟩
      · exact .inr ⟨⟨j, h2 β j hlt t⟩, q⟩
theorem Fr.mono {T T' : Nat → Nat → Prop} {a b : World} (h : Fr T a b) (h1 : ∀ β j, β < a.heap.size → T β j → T' β j) : Fr T' a b := h.trans (Fr.refl T b) h1 h1
theorem Fr.cell {T : Nat → Nat → Prop} {a b : World} (h : Fr T a b) {β j : Nat} (hlt : β < a.heap.size) (hT : ¬ T β j) : b.cell? ⟨β, j, none⟩ = a.cell? ⟨β, j, none⟩ := by
  obtain ⟨o, ho⟩ : ∃ o, a.heap[β]? = some o := ⟨a.heap[β], Array.getElem?_eq_getElem hlt⟩
  rcases h.blk β o ho with e | ⟨c1, E, fz, c1', fz1, rfl, e, hsz, hc, hz, _⟩
  · exact World.cell?_of_block (a := ⟨β, j, none⟩) (by rw [e, ho])
  · simp [World.cell?, ho, e, hc j hT]
theorem Fr.same {T : Nat → Nat → Prop} {a b : World} (h : Fr T a b) {β : Nat} (hlt : β < a.heap.size) (hT : ∀ j, ¬ T β j) : b.heap[β]? = a.heap[β]? := by
  obtain ⟨o, ho⟩ : ∃ o, a.heap[β]? = some o := ⟨a.heap[β], Array.getElem?_eq_getElem hlt⟩
  rcases h.blk β o ho with e | ⟨c1, E, fz, c1', fz1, rfl, e, hsz, hc, hz, _⟩
  · rw [e, ho]
  · have : c1' = c1 := Array.ext_getElem? fun j => hc j (hT j)
    have hz : fz1 = fz := hz.elim id fun ⟨⟨j, t⟩, _⟩ => (hT j t).elim
    rw [e, ho, this, hz]
theorem TyOk.mono {T : Nat → Nat → Prop} {w w' : World} {β : Nat} (h : TyOk w β) (hf : Fr T w w') : TyOk w' β := by
  obtain ⟨us, U, fz, h1, h2⟩ := h
  rcases hf.blk β _ h1 with e | ⟨c, E, fz1, c', fz', e1, e2, _⟩
  · exact ⟨us, U, fz, e, h2⟩
  · cases e1
    exact ⟨c', U, fz', e2, h2⟩
theorem TyOk.same {w w' : World} {β : Nat} (h : TyOk w β) (hf : w'.heap[β]? = w.heap[β]?) : TyOk w' β := by
  obtain ⟨us, U, fz, h1, h2⟩ := h
  exact ⟨us, U, fz, hf.trans h1, h2⟩
theorem Fr.below {w w' : World} (h : Fr (fun _ _ => False) w w') : Go.RowKit.Below w.heap.size w w' :=
  ⟨h.os, h.tape, h.output, h.size, fun k hk => h.same hk fun _ t => t⟩
theorem Fr.of_below {w w' : World} {B : Nat} (h : Go.RowKit.Below B w w') (hB : w.heap.size ≤ B) : Fr (fun _ _ => False) w w' :=
  ⟨h.os, h.tape, h.output, h.size, fun β o ho => .inl (by rw [h.block β (Nat.lt_of_lt_of_le (Array.getElem?_eq_some_iff.1 ho).1 hB)]; exact ho)⟩
theorem Fr.alloc (w : World) (o : Obj) : Fr (fun _ _ => False) w (w.alloc o) := Fr.of_below ((Go.RowKit.Below.refl _ _).alloc (Nat.le_refl _) _) (Nat.le_refl _)
theorem Fr.drew (w : World) : Fr (fun _ _ => False) w w.drew := Fr.of_below (Go.RowKit.Below.refl w.heap.size w).drew (Nat.le_refl _)
structure Fx where
  w0 : World
  G : Nat → Nat → Prop
  TB : Nat → Prop
  BB : Nat → Prop
  bx : Nat → Option Nat
  np : Nat
  ds : List Deferred
  lg : ∀ β, β < LGn → (∀ j, G β j) ∧ ¬ BB β
  lp : GW w0
def Fx.T (F : Fx) (β j : Nat) : Prop := F.BB β ∨ (F.TB β ∧ ¬ F.G β j)
structure Inv (P : Program) (F : Fx) (g : Gh) (s : St) (a : Act) (w : World) : Prop where
  mem : Mem P g w s.b
  blen : s.b.length = s.t.length
  len : a.tmps.size = s.t.length
  tm : ∀ (i : Nat) x, s.t[i]? = some x → ∃ v, a.tmps[i]? = some v ∧ RepS P g w x v
  dfr : a.defers = F.ds
  fr : Fr F.T F.w0 w
  g0 : ∀ β j, F.G β j → g.G β j
  gfr : ∀ β j, g.G β j → β < F.w0.heap.size → F.G β j ∨ F.TB β
  tb : ∀ n v E β, g.tk n = some (v, E) → v.ownBlock = some β → F.w0.heap.size ≤ β ∨ F.TB β
  bb : ∀ d cs β, s.b[d]? = some (some cs) → g.bx d = some β → F.w0.heap.size ≤ β ∨ F.BB β
  pbx : ∀ i, i < F.np → F.bx i ≠ none → g.bx i = F.bx i
structure Laid (g : Gh) (w : World) : Prop where
  G : ∀ β, β < LGn → ∀ j, g.G β j
  P : GW w
theorem Inv.laid {P : Program} {F : Fx} {g : Gh} {s : St} {a : Act} {w : World} (h : Inv P F g s a w) : Laid g w :=
  ⟨fun β hβ j => h.g0 β j ((F.lg β hβ).1 j), F.lp.keep fun β hβ => h.fr.same (Nat.lt_of_lt_of_le hβ F.lp.size) fun j t => t.elim (F.lg β hβ).2 fun q => q.2 ((F.lg β hβ).1 j)⟩
section
variable {P : Program} {g g' : Gh} {w w' : World}
structure Gh.Le (g g' : Gh) (w w' : World) : Prop where
  G : ∀ β j, g.G β j → g'.G β j ∧ w'.cell? ⟨β, j, none⟩ = w.cell? ⟨β, j, none⟩
  tk : ∀ n v, g.tk n = some v → g'.tk n = some v
  bx : ∀ d β, g.bx d = some β → g'.bx d = some β
theorem Rep0.mono (h : g.Le g' w w') {x : AV} {v : Value} (hx : Rep0 P g w x v) : Rep0 P g' w' x v := by
  cases x <;> simp only [Rep0] at hx ⊢ <;> first | exact hx | exact ⟨hx.1, hx.2.mono h.G⟩
theorem Rep1.mono (h : g.Le g' w w') {x : AV} {v : Value} (hx : Rep1 g x v) : Rep1 g' x v := by
  cases x <;> simp only [Rep1] at hx ⊢
  case v => exact hx
  case box => obtain ⟨β, hb, hv⟩ := hx; exact ⟨β, h.bx _ _ hb, hv⟩
  case dead => exact hx
theorem RepC.mono (h : g.Le g' w w') {x : AV} {v : Value} (hx : RepC P g w x v) : RepC P g' w' x v := by
  cases x <;> simp only [RepC] at hx ⊢
  case v => exact hx
  case row => exact ⟨hx.1.mono h.G, fun n hn => h.tk _ _ (hx.2 n hn)⟩
  case box => obtain ⟨β, hb, hv⟩ := hx; exact ⟨β, h.bx _ _ hb, hv⟩
  case ro =>
    obtain ⟨β, o, hv, hc⟩ := hx
    refine ⟨β, o, hv, fun j c hj => ?_⟩
    obtain ⟨u, h1, h2, h3⟩ := hc j c hj
    exact ⟨u, ((h.G _ _ h2).2).trans h1, (h.G _ _ h2).1, h3.mono h⟩
  case fn =>
    obtain ⟨us, ws, e1, e2, e3, e4, e5⟩ := hx
    exact ⟨us, ws, e1, e2, e3, fun j c hj => let ⟨u, a, b⟩ := e4 j c hj; ⟨u, a, b.mono h⟩, fun j c hj => let ⟨u, a, b⟩ := e5 j c hj; ⟨u, a, b.mono h⟩⟩
  case err => exact hx
  case dead => exact hx
theorem RepB.eq {T : TypeId} {β j : Nat} {x : AV} {v : Value} (h : ∀ T', x ≠ .self T') : RepB P g w T β j x v = RepC P g w x v := by
  cases x <;> first | rfl | exact absurd rfl (h _)
theorem RepT.eq {x : AV} {v : Value} (h : ∀ cs, x ≠ .agg cs) (h2 : x ≠ .dead) : RepT P g w x v = RepC P g w x v := by
  cases x <;> first | rfl | exact absurd rfl (h _) | exact absurd rfl h2
theorem RepS.eq {x : AV} {v : Value} (h : ∀ cs, x ≠ .tup cs) : RepS P g w x v = RepT P g w x v := by
  cases x <;> first | rfl | exact absurd rfl (h _)
theorem RepB.mono (h : g.Le g' w w') {T : TypeId} {β j : Nat} {x : AV} {v : Value} (hx : RepB P g w T β j x v) : RepB P g' w' T β j x v := by
  by_cases hs : ∃ T', x = .self T'
  · obtain ⟨T', rfl⟩ := hs; exact hx
  · rw [RepB.eq (fun T' e => hs ⟨T', e⟩)] at hx ⊢; exact hx.mono h
theorem RepT.mono (h : g.Le g' w w') {x : AV} {v : Value} (hx : RepT P g w x v) : RepT P g' w' x v := by
  by_cases hd : x = .dead
  · subst hd; exact trivial
  by_cases ha : ∃ cs, x = .agg cs
  · obtain ⟨cs, rfl⟩ := ha
    obtain ⟨vs, h1, h2, h3⟩ := hx
    exact ⟨vs, h1, h2, fun j c hj => let ⟨u, a, b⟩ := h3 j c hj; ⟨u, a, b.mono h⟩⟩
  · rw [RepT.eq (fun cs e => ha ⟨cs, e⟩) hd] at hx ⊢; exact hx.mono h
theorem RepS.mono (h : g.Le g' w w') {x : AV} {v : Value} (hx : RepS P g w x v) : RepS P g' w' x v := by
  by_cases ha : ∃ cs, x = .tup cs
  · obtain ⟨cs, rfl⟩ := ha
    obtain ⟨vs, h1, h2, h3⟩ := hx
    exact ⟨vs, h1, h2, fun j c hj => let ⟨u, a, b⟩ := h3 j c hj; ⟨u, a, b.mono h⟩⟩
  · rw [RepS.eq (fun cs e => ha ⟨cs, e⟩)] at hx ⊢; exact hx.mono h
theorem RepC.one {x : AV} {v : Value} (hx : RepC P g w x v) : v.oneCell' = true := by
  cases x <;> simp only [RepC] at hx
  case v => rw [hx.1]; exact hx.2
  case row => exact hx.1.one
  case box => obtain ⟨β, _, rfl⟩ := hx; rfl
  case ro => obtain ⟨β, o, rfl, _⟩ := hx; rfl
  case fn => obtain ⟨us, ws, rfl, _⟩ := hx; rfl
  case err => obtain ⟨T, x, rfl⟩ := hx; rfl
  case dead => exact hx
theorem RepB.one {T : TypeId} {β j : Nat} {x : AV} {v : Value} (hx : RepB P g w T β j x v) : v.oneCell' = true := by
  by_cases hs : ∃ T', x = .self T'
  · obtain ⟨T', rfl⟩ := hs
    obtain ⟨_, rfl | rfl⟩ := hx <;> rfl
  · rw [RepB.eq (fun T' e => hs ⟨T', e⟩)] at hx; exact hx.one
theorem RepC.T {x : AV} {v : Value} (hx : RepC P g w x v) : RepT P g w x v := by
  cases x <;> first | exact trivial | exact hx.elim | skip
  all_goals (rw [RepT.eq (fun cs e => by cases e) (fun e => by cases e)]; exact hx)
theorem RepT.S {x : AV} {v : Value} (hx : RepT P g w x v) : RepS P g w x v := by
  by_cases ha : ∃ cs, x = .tup cs
  · obtain ⟨cs, rfl⟩ := ha
    exact False.elim (show RepC P g w (.tup cs) v from hx)
  · rw [RepS.eq (fun cs e => ha ⟨cs, e⟩)]; exact hx
theorem RepC.S {x : AV} {v : Value} (hx : RepC P g w x v) : RepS P g w x v := hx.T.S
theorem RepB.of {T : TypeId} {β j : Nat} {x : AV} {v : Value} (hx : RepC P g w x v) : RepB P g w T β j x v := by
  by_cases hs : ∃ T', x = .self T'
  · obtain ⟨T', rfl⟩ := hs; exact hx.elim
  · rw [RepB.eq (fun T' e => hs ⟨T', e⟩)]; exact hx
theorem RepS.one {x : AV} {v : Value} (hx : RepS P g w x v) (h : x.one = true) : RepC P g w x v := by
  rw [RepS.eq (fun cs e => by subst e; simp [AV.one] at h), RepT.eq (fun cs e => by subst e; simp [AV.one] at h) (fun e => by subst e; simp [AV.one] at h)] at hx
  exact hx
end
end Go.Proofs.YtckdgcpomkefpaaGreatDoor.En
end
section
set_option linter.unusedVariables false
set_option linter.unusedSimpArgs false
namespace Go.Proofs.YtckdgcpomkefpaaGreatDoor.En
open Go
section
variable {P : Program} {F : Fx} {g : Gh} {s : St} {a : Act} {w : World}
theorem Mem.wk {b b' : Bx} {g' : Gh} (h : Mem P g w b) (hG : g'.G = g.G)
    (hb : ∀ (d : Nat) cs', b'[d]? = some (some cs') → ∃ cs, b[d]? = some (some cs) ∧ cs'.length = cs.length ∧ g'.bx d = g.bx d ∧ ∀ (j : Nat) c', cs'[j]? = some c' → ∃ c, cs[j]? = some c ∧ ∀ T β u, RepB P g w T β j c u → RepB P g' w T β j c' u)
    (ρ : Nat → Nat) (htk : ∀ n v, g'.tk n = some v → g.tk (ρ n) = some v) (hρ : ∀ n m, g'.tk n ≠ none → g'.tk m ≠ none → ρ n = ρ m → n = m) : Mem P g' w b' := by
  refine ⟨fun β j hj => h.gsz β j (hG ▸ hj), fun d cs' hd => ?_, fun d d' β cs cs' hd hd' hβ hβ' => ?_, fun n v E hn => ?_, fun n m v v' E E' β hn hm hv hv' => ?_, fun n v E β d cs hn hv hd hβ => ?_, fun d cs β hd hβ => let ⟨c1, h1, _, h3, _⟩ := hb d cs hd; h.ty d c1 β h1 (h3 ▸ hβ)⟩
  · obtain ⟨cs, h1, h2, h3, h4⟩ := hb d cs' hd
    obtain ⟨β, us, T, e1, e2, e3, e4, e5⟩ := h.box d cs h1
    refine ⟨β, us, T, h3.trans e1, e2, by rw [e3, h2], fun j hj => e4 j (hG ▸ hj), fun j c' hj => ?_⟩
    obtain ⟨c, hc, hcc⟩ := h4 j c' hj
    obtain ⟨u, hu, hr⟩ := e5 j c hc
    exact ⟨u, hu, hcc T β u hr⟩
  · obtain ⟨c1, h1, _, h3, _⟩ := hb d cs hd
    obtain ⟨c2, h1', _, h3', _⟩ := hb d' cs' hd'
    exact h.apart d d' β c1 c2 h1 h1' (h3 ▸ hβ) (h3' ▸ hβ')
  · rcases h.own _ v E (htk n _ hn) with e | ⟨β, k, cap, us, ks, fz, e1, e2, e3, e4, e5, e6, e7, e8⟩
    · exact .inl e
    · exact .inr ⟨β, k, cap, us, ks, fz, e1, e2, e3, e4, e5, e6, fun j hj hg => e7 j hj (hG ▸ hg), e8⟩
  · exact hρ n m (by rw [hn]; simp) (by rw [hm]; simp) (h.tkap _ _ v v' E E' β (htk n _ hn) (htk m _ hm) hv hv')
  · obtain ⟨c1, h1, _, h3, _⟩ := hb d cs hd
    exact h.tkbx _ v E β d c1 (htk n _ hn) hv h1 (h3 ▸ hβ)
theorem Inv.wk {g' : Gh} {s' : St} (h : Inv P F g s a w) (hG : g'.G = g.G) (htl : s'.t.length = s.t.length) (hbl : s'.b.length = s.b.length)
    (ht : ∀ (i : Nat) x', s'.t[i]? = some x' → ∃ x, s.t[i]? = some x ∧ ∀ v, RepS P g w x v → RepS P g' w x' v)
    (hb : ∀ (d : Nat) cs', s'.b[d]? = some (some cs') → ∃ cs, s.b[d]? = some (some cs) ∧ cs'.length = cs.length ∧ g'.bx d = g.bx d ∧ ∀ (j : Nat) c', cs'[j]? = some c' → ∃ c, cs[j]? = some c ∧ ∀ T β u, RepB P g w T β j c u → RepB P g' w T β j c' u)
    (ρ : Nat → Nat) (htk : ∀ n v, g'.tk n = some v → g.tk (ρ n) = some v) (hρ : ∀ n m, g'.tk n ≠ none → g'.tk m ≠ none → ρ n = ρ m → n = m)
    (hp : ∀ i, i < F.np → F.bx i ≠ none → g'.bx i = g.bx i) : Inv P F g' s' a w := by
  refine ⟨h.mem.wk hG hb ρ htk hρ, by rw [hbl, htl, h.blen], by rw [htl, h.len], fun i x' hi => ?_, h.dfr, h.fr, fun β j hj => hG ▸ h.g0 β j hj, fun β j hj => h.gfr β j (hG ▸ hj), fun n v E β hn => h.tb _ v E β (htk n _ hn), fun d cs β hd hβ => ?_, fun i hi hn => (hp i hi hn).trans (h.pbx i hi hn)⟩
  · obtain ⟨x, hx, hv⟩ := ht i x' hi
    obtain ⟨v, h1, h2⟩ := h.tm i x hx
    exact ⟨v, h1, hv v h2⟩
  · obtain ⟨c1, h1, _, h3, _⟩ := hb d cs hd
    exact h.bb d c1 β h1 (h3 ▸ hβ)
def TokOk (f : Option Nat → Option Nat) (g g' : Gh) : Prop := f none = none ∧ g'.G = g.G ∧ g'.bx = g.bx ∧ ∀ k n v, f (some k) = some n → g.tk k = some v → g'.tk n = some v
variable {f : Option Nat → Option Nat} {g' : Gh}
theorem TokOk.row (hf : TokOk f g g') {E : TypeId} {l : List Dat} {t : Option Nat} {v : Value} (h : RepC P g w (.row t E l) v) : RepC P g' w (.row (f t) E l) v := by
  obtain ⟨h1, h2⟩ := h
  obtain ⟨e1, e2, e3, e4⟩ := hf
  refine ⟨e2 ▸ h1, fun n hn => ?_⟩
  cases t with
  | none => rw [e1] at hn; cases hn
  | some k => exact e4 k n _ hn (h2 k rfl)
theorem TokOk.ro (hf : TokOk f g g') {x : AV} {v : Value} (h : Rep0 P g w x v) : Rep0 P g' w x v := by
  obtain ⟨e1, e2, e3, e4⟩ := hf
  cases x <;> simp only [Rep0] at h ⊢ <;> first | exact h | exact ⟨h.1, e2 ▸ h.2⟩
theorem TokOk.held (hf : TokOk f g g') {x : AV} {v : Value} (h : Rep1 g x v) : Rep1 g' x v := by
  obtain ⟨e1, e2, e3, e4⟩ := hf
  cases x <;> simp only [Rep1] at h ⊢ <;> first | exact h | exact e3 ▸ h
theorem TokOk.C (hf : TokOk f g g') {x : AV} {v : Value} (h : RepC P g w x v) : RepC P g' w (x.tok1 f) v := by
  cases x with
  | row t E l => exact hf.row h
  | box d off => obtain ⟨β, hb, hv⟩ := h; exact ⟨β, by rw [hf.2.2.1]; exact hb, hv⟩
  | ro cs =>
    obtain ⟨β, o, hv, hc⟩ := h
    exact ⟨β, o, hv, fun j c hj => let ⟨u, h1, h2, h3⟩ := hc j c hj; ⟨u, h1, by rw [hf.2.1]; exact h2, hf.ro h3⟩⟩
  | v x => exact h
  | err => exact h
  | dead => exact h
  | agg cs => exact h
  | tup cs => exact h
  | self => exact h
  | fn e xs cs =>
    obtain ⟨us, ws, e0, e2, e3, e4, e5⟩ := h
    exact ⟨us, ws, e0, e2, e3, fun j c hj => let ⟨u, a, b⟩ := e4 j c hj; ⟨u, a, hf.held b⟩, fun j c hj => let ⟨u, a, b⟩ := e5 j c hj; ⟨u, a, hf.held b⟩⟩
theorem TokOk.B (hf : TokOk f g g') {T : TypeId} {β j : Nat} {x : AV} {v : Value} (h : RepB P g w T β j x v) : RepB P g' w T β j (x.tok1 f) v := by
  cases x with
  | self => exact h
  | row t E l => exact TokOk.C (P := P) (w := w) hf (x := .row t E l) h
  | box d off => exact TokOk.C (P := P) (w := w) hf (x := .box d off) h
  | ro cs => exact TokOk.C (P := P) (w := w) hf (x := .ro cs) h
  | v x => exact h
  | err => exact h
  | dead => exact h
  | agg cs => exact h
  | tup cs => exact h
  | fn e xs cs => exact TokOk.C (P := P) (w := w) hf (x := .fn e xs cs) h
theorem TokOk.T (hf : TokOk f g g') {x : AV} {v : Value} (h : RepT P g w x v) : RepT P g' w (x.tok2 f) v := by
  cases x with
  | agg cs =>
    obtain ⟨vs, h1, h2, h3⟩ := h
    refine ⟨vs, h1, by simp [h2], fun j c hj => ?_⟩
    rw [List.getElem?_map] at hj
    obtain ⟨c0, hc0, rfl⟩ := Option.map_eq_some_iff.1 hj
    obtain ⟨u, hu, hr⟩ := h3 j c0 hc0
    exact ⟨u, hu, hf.C hr⟩
  | err => exact h
  | dead => exact trivial
  | row t E l => exact TokOk.C (P := P) (w := w) hf (x := .row t E l) h
  | box d off => exact TokOk.C (P := P) (w := w) hf (x := .box d off) h
  | ro cs => exact TokOk.C (P := P) (w := w) hf (x := .ro cs) h
  | v x => exact h
  | tup cs => exact h
  | self => exact h
  | fn e xs cs => exact TokOk.C (P := P) (w := w) hf (x := .fn e xs cs) h
theorem TokOk.S (hf : TokOk f g g') {x : AV} {v : Value} (h : RepS P g w x v) : RepS P g' w (x.tok f) v := by
  cases x with
  | tup cs =>
    obtain ⟨vs, h1, h2, h3⟩ := h
    refine ⟨vs, h1, by simp [h2], fun j c hj => ?_⟩
    rw [List.getElem?_map] at hj
    obtain ⟨c0, hc0, rfl⟩ := Option.map_eq_some_iff.1 hj
    obtain ⟨u, hu, hr⟩ := h3 j c0 hc0
    exact ⟨u, hu, hf.T hr⟩
  | agg cs => exact TokOk.T (P := P) (w := w) hf (x := .agg cs) h
  | err => exact h
  | dead => exact trivial
  | row t E l => exact TokOk.C (P := P) (w := w) hf (x := .row t E l) h
  | box d off => exact TokOk.C (P := P) (w := w) hf (x := .box d off) h
  | ro cs => exact TokOk.C (P := P) (w := w) hf (x := .ro cs) h
  | v x => exact h
  | self => exact h
  | fn e xs cs => exact TokOk.C (P := P) (w := w) hf (x := .fn e xs cs) h
theorem Inv.tok (h : Inv P F g s a w) (hf : TokOk f g g') (ρ : Nat → Nat) (htk : ∀ n v, g'.tk n = some v → g.tk (ρ n) = some v) (hρ : ∀ n m, g'.tk n ≠ none → g'.tk m ≠ none → ρ n = ρ m → n = m) : Inv P F g' (s.tok f) a w := by
  refine h.wk hf.2.1 (by simp [St.tok]) (by simp [St.tok]) (fun i x' hi => ?_) (fun d cs' hd => ?_) ρ htk hρ (fun i _ _ => by rw [hf.2.2.1])
  · simp only [St.tok, List.getElem?_map] at hi
    obtain ⟨x, hx, rfl⟩ := Option.map_eq_some_iff.1 hi
    exact ⟨x, hx, fun v hv => hf.S hv⟩
  · simp only [St.tok, List.getElem?_map] at hd
    obtain ⟨o, ho, he⟩ := Option.map_eq_some_iff.1 hd
    obtain ⟨cs, rfl, rfl⟩ := Option.map_eq_some_iff.1 he
    refine ⟨cs, ho, by simp, by rw [hf.2.2.1], fun j c' hj => ?_⟩
    rw [List.getElem?_map] at hj
    obtain ⟨c, hc, rfl⟩ := Option.map_eq_some_iff.1 hj
    exact ⟨c, hc, fun T β u hu => hf.B hu⟩
def Kills (f : Option Nat → Option Nat) : Prop := f none = none ∧ ∀ n, f (some n) = some n ∨ f (some n) = none
def Gh.kills (g : Gh) (f : Option Nat → Option Nat) : Gh := { g with tk := fun n => match f (some n) with | some _ => g.tk n | none => none }
theorem Inv.kills (h : Inv P F g s a w) (hf : Kills f) : Inv P F (g.kills f) (s.tok f) a w := by
  refine h.tok (f := f) (g' := g.kills f) ⟨hf.1, rfl, rfl, fun k n v hk hv => ?_⟩ id (fun n v hn => ?_) (fun _ _ _ _ e => e)
  · rcases hf.2 k with e | e
    · rw [e] at hk; cases hk
      show (match f (some k) with | some _ => g.tk k | none => none) = _
      rw [e]; exact hv
    · rw [e] at hk; cases hk
  · have : (match f (some n) with | some _ => g.tk n | none => none) = some v := hn
    rcases hf.2 n with e | e
    · rw [e] at this; exact this
    · rw [e] at this; cases this
theorem kills_tk (hf : Kills f) {n : Nat} (h : f (some n) = none) : (g.kills f).tk n = none := by
  show (match f (some n) with | some _ => g.tk n | none => none) = none
  rw [h]
theorem kills_none {n : Nat} (h : g.tk n = none) : (g.kills f).tk n = none := by
  show (match f (some n) with | some _ => g.tk n | none => none) = none
  split <;> first | exact h | rfl
theorem killF_kills (n : Nat) : Kills (killF n) := ⟨rfl, fun m => by show (bif m == n then none else some m) = some m ∨ (bif m == n then none else some m) = none; cases (m == n) <;> simp⟩
theorem killF_self (n : Nat) : killF n (some n) = none := by simp [killF]
theorem killsF_kills (d lo hi : Nat) : Kills (killsF d lo hi) := ⟨rfl, fun m => by show (bif (m / 1024 == d + 1 && Nat.ble lo (m % 1024) && Nat.blt (m % 1024) hi) then none else some m) = some m ∨ (bif (m / 1024 == d + 1 && Nat.ble lo (m % 1024) && Nat.blt (m % 1024) hi) then none else some m) = none; cases (m / 1024 == d + 1 && Nat.ble lo (m % 1024) && Nat.blt (m % 1024) hi) <;> simp⟩
theorem sub_div (d j : Nat) (h : j < 1024) : sub d j / 1024 = d + 1 := by unfold sub; omega
theorem sub_mod (d j : Nat) (h : j < 1024) : sub d j % 1024 = j := by unfold sub; omega
theorem killsF_sub (d lo hi j : Nat) (h : j < 1024) (h1 : lo ≤ j) (h2 : j < hi) : killsF d lo hi (some (sub d j)) = none := by
  have e1 : Nat.ble lo j = true := Nat.ble_eq_true_of_le h1
  have e2 : Nat.blt j hi = true := Nat.ble_eq_true_of_le h2
  simp [killsF, sub_div d j h, sub_mod d j h, e1, e2]
def Gh.ren (g : Gh) (n m : Nat) : Gh := { g with tk := fun k => if k = m then g.tk n else if k = n then none else g.tk k }
theorem Inv.ren (h : Inv P F g s a w) {n m : Nat} (hm : g.tk m = none) (hnm : n ≠ m) : Inv P F (g.ren n m) (s.tok (renF n m)) a w := by
  refine h.tok (f := renF n m) (g' := g.ren n m) ⟨rfl, rfl, rfl, fun k j v hk hv => ?_⟩ (fun k => if k = m then n else k) (fun k v hk => ?_) (fun k j hk hj e => ?_)
  · show (if j = m then g.tk n else if j = n then none else g.tk j) = some v
    simp only [renF] at hk
    by_cases hkn : k = n
    · subst hkn
      simp at hk
      subst hk
      rw [if_pos rfl]; exact hv
    · have : (k == n) = false := by simpa using hkn
      rw [this] at hk
      simp at hk
      subst hk
      rw [if_neg (by rintro rfl; rw [hm] at hv; cases hv), if_neg hkn]; exact hv
  · have hk' : (if k = m then g.tk n else if k = n then none else g.tk k) = some v := hk
    by_cases e : k = m
    · rw [if_pos e] at hk'; simpa [e] using hk'
    · rw [if_neg e] at hk'
      split at hk'
      · cases hk'
      · simpa [e] using hk'
  · have hk' : (if k = m then g.tk n else if k = n then none else g.tk k) ≠ none := hk
    have hj' : (if j = m then g.tk n else if j = n then none else g.tk j) ≠ none := hj
    by_cases e1 : k = m <;> by_cases e2 : j = m
    · rw [e1, e2]
    · rw [if_neg e2] at hj'
      simp only [e1, e2, if_true, if_false] at e
      rw [← e, if_pos rfl] at hj'
      exact absurd rfl hj'
    · rw [if_neg e1] at hk'
      simp only [e1, e2, if_true, if_false] at e
      rw [e, if_pos rfl] at hk'
      exact absurd rfl hk'
    · simpa [e1, e2] using e
def Gh.nils (g : Gh) (N : Nat → Option TypeId) : Gh := { g with tk := fun n => match N n with | some E => some (.slice none 0 0, E) | none => g.tk n }
theorem Gh.nils_le {N : Nat → Option TypeId} (hN : ∀ n, N n ≠ none → g.tk n = none) : g.Le (g.nils N) w w :=
  ⟨fun β j hj => ⟨hj, rfl⟩, fun n v hn => by
    show (match N n with | some E => some (Value.slice none 0 0, E) | none => g.tk n) = some v
    cases hh : N n with
    | none => exact hn
    | some E => (rw [hN n (by rw [hh]; simp)] at hn; cases hn), fun d β h => h⟩
theorem nils_cases {N : Nat → Option TypeId} {n : Nat} {v : Value} {E : TypeId} (h : (g.nils N).tk n = some (v, E)) : (v = .slice none 0 0 ∧ N n = some E) ∨ (N n = none ∧ g.tk n = some (v, E)) := by
  have h' : (match N n with | some E => some (Value.slice none 0 0, E) | none => g.tk n) = some (v, E) := h
  cases hh : N n with
  | none => rw [hh] at h'; exact .inr ⟨rfl, h'⟩
  | some E' => rw [hh] at h'; simp at h'; exact .inl ⟨h'.1.symm, by rw [h'.2]⟩
theorem Mem.nils {b : Bx} {N : Nat → Option TypeId} (h : Mem P g w b) (hN : ∀ n, N n ≠ none → g.tk n = none) : Mem P (g.nils N) w b := by
  have hle := Gh.nils_le (w := w) hN
  refine ⟨h.gsz, fun d cs hd => ?_, h.apart, fun n v E hn => ?_, fun n m v v' E E' β hn hm hv hv' => ?_, fun n v E β d cs hn hv hd hβ => ?_, h.ty⟩
  · obtain ⟨β, us, T, e1, e2, e3, e4, e5⟩ := h.box d cs hd
    exact ⟨β, us, T, e1, e2, e3, e4, fun j c hc => let ⟨u, hu, hr⟩ := e5 j c hc; ⟨u, hu, hr.mono hle⟩⟩
  · rcases nils_cases hn with ⟨rfl, _⟩ | ⟨_, hn⟩
    · exact .inl rfl
    · exact h.own n v E hn
  · rcases nils_cases hn with ⟨rfl, _⟩ | ⟨_, hn⟩
    · cases hv
    · rcases nils_cases hm with ⟨rfl, _⟩ | ⟨_, hm⟩
      · cases hv'
      · exact h.tkap n m v v' E E' β hn hm hv hv'
  · rcases nils_cases hn with ⟨rfl, _⟩ | ⟨_, hn⟩
    · cases hv
    · exact h.tkbx n v E β d cs hn hv hd hβ
theorem Inv.nils {N : Nat → Option TypeId} (h : Inv P F g s a w) (hN : ∀ n, N n ≠ none → g.tk n = none) : Inv P F (g.nils N) s a w := by
  have hle := Gh.nils_le (w := w) hN
  refine ⟨h.mem.nils hN, h.blen, h.len, fun i x hi => ?_, h.dfr, h.fr, h.g0, h.gfr, fun n v E β hn hv => ?_, h.bb, h.pbx⟩
  · obtain ⟨v, h1, h2⟩ := h.tm i x hi
    exact ⟨v, h1, h2.mono hle⟩
  · rcases nils_cases hn with ⟨rfl, _⟩ | ⟨_, hn⟩
    · cases hv
    · exact h.tb n v E β hn hv
def one1 (n : Nat) (E : TypeId) : Nat → Option TypeId := fun m => if m = n then some E else none
theorem Inv.put (h : Inv P F g s a w) (d : Option Nat) {x : AV} {v : Value} (hx : RepS P g w x v) : Inv P F g (s.put d x) (a.put d v) w := by
  cases d with
  | none => exact h
  | some d =>
    refine ⟨h.mem, by simpa [St.put] using h.blen, by simpa [St.put, Act.put] using h.len, fun i y hi => ?_, h.dfr, h.fr, h.g0, h.gfr, h.tb, h.bb, h.pbx⟩
    simp only [St.put, List.getElem?_set] at hi
    simp only [Act.put, Array.getElem?_setIfInBounds]
    have hl := h.len
    split at hi
    · rename_i e
      subst e
      split at hi
      · cases hi
        rw [if_pos rfl, if_pos (by omega)]
        exact ⟨v, rfl, hx⟩
      · cases hi
    · rename_i e
      rw [if_neg e]
      exact h.tm i y hi
theorem Inv.get (h : Inv P F g s a w) (t : Nat) : RepS P g w (s.get t) (a.tmps.getD t undef) := by
  unfold St.get
  by_cases ht : t < s.t.length
  · obtain ⟨v, h1, h2⟩ := h.tm t s.t[t] (List.getElem?_eq_getElem ht)
    simp only [List.getD_eq_getElem?_getD, List.getElem?_eq_getElem ht, Option.getD_some, Array.getD_eq_getD_getElem?, h1]
    exact h2
  · rw [List.getD_eq_getElem?_getD, List.getElem?_eq_none (Nat.le_of_not_lt ht)]
    exact trivial
def okV : Value → Bool
  | .agg cs => cs.toList.all Value.oneCell'
  | _ => true
def okO : Operand → Bool
  | .const x => okV x
  | _ => true
theorem Inv.ev (h : Inv P F g s a w) (x : Operand) (hx : okO x = true) : RepS P g w (s.ev x) (a.eval x) := by
  cases x with
  | tmp t => exact h.get t
  | func f => exact ⟨rfl, rfl⟩
  | global n => exact trivial
  | const c =>
    show RepS P g w (St.ofV c) c
    cases c with
    | agg cs =>
      refine ⟨cs, rfl, by simp, fun j c hj => ?_⟩
      rw [List.getElem?_map] at hj
      obtain ⟨u, hu, rfl⟩ := Option.map_eq_some_iff.1 hj
      rw [Array.getElem?_toList] at hu
      have := List.all_eq_true.1 (show cs.toList.all Value.oneCell' = true from hx) u (by rw [← Array.getElem?_toList] at hu; exact List.mem_of_getElem? hu)
      exact ⟨u, hu, rfl, this⟩
    | tuple vs => exact trivial
    | _ => exact ⟨rfl, rfl⟩
end
end Go.Proofs.YtckdgcpomkefpaaGreatDoor.En
end
