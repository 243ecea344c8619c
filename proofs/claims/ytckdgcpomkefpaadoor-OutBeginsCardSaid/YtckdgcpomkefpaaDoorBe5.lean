/- Part 5 of a proof: what it needs of the program's functions as plain Lean functions, with the proof that the machine's calls come to them, and of plain laws; put together out of smaller texts. No conditions besides those that each statement names. -/
import Derived.Deep.Slices
import Derived.Lib.ItoaMem
import Derived.Recover
import Derived.Shelf.Strings.Builder1
import Derived.SizedLaws
import Derived.Test.YtckdgcpomkefpaaDoorBe3
import Derived.Test.YtckdgcpomkefpaaDoorBe4
section
section
set_option linter.unusedVariables false
set_option linter.unusedSimpArgs false
namespace Go.Proofs.YtckdgcpomkefpaaDoor.En
open Go Go.RowKit Go.ChangeShapes Go.WideShapes
inductive Sz (P : Program) : CK → Dat → Prop
  | int (k : IntKind) (d : Dat) : (Lit.int k d.toI).wf = true → Sz P (.int k) d
  | bool (d : Dat) : Sz P .bool d
  | str (d : Dat) : d.toS.size ≤ reachBytes → Sz P .str d
  | row (E : TypeId) (ks : List CK) (d : Dat) : kinds P E = some ks → d.toL.length * P.bytesOf E ≤ reachBytes → (∀ e ∈ d.toL, ∀ (j : Nat) k, ks[j]? = some k → Sz P k (e.at j)) → Sz P (.row E) d
  | self (d : Dat) : Sz P .self d
  | other (d : Dat) : Sz P .other d
structure Opn1 (P : Program) (w : World) (k : CK) (d : Dat) (u : Value) : Prop where
  one : u.oneCell' = true
  sc : scal k d u
  row : ∀ E, k = .row E → RepRow P (g0 w).G w E d.toL u
  sz : Sz P k d
structure Opn (P : Program) (w : World) (ks : List CK) (ds : List Dat) (cs : List Value) : Prop where
  ld : ds.length = ks.length
  lc : cs.length = ks.length
  each : ∀ (j : Nat) k d u, ks[j]? = some k → ds[j]? = some d → cs[j]? = some u → Opn1 P w k d u
theorem Opn.append {P : Program} {w : World} {ks ks' : List CK} {ds ds' : List Dat} {cs cs' : List Value} (h : Opn P w ks ds cs) (h' : Opn P w ks' ds' cs') : Opn P w (ks ++ ks') (ds ++ ds') (cs ++ cs') := by
  refine ⟨by simp [h.ld, h'.ld], by simp [h.lc, h'.lc], fun j k d u hk hd hu => ?_⟩
  rw [List.getElem?_append] at hk hd hu
  rw [h.ld] at hd
  rw [h.lc] at hu
  by_cases hj : j < ks.length
  · rw [if_pos hj] at hk hd hu
    exact h.each j k d u hk hd hu
  · rw [if_neg hj] at hk hd hu
    exact h'.each _ k d u hk hd hu
theorem Opn.nil {P : Program} {w : World} : Opn P w [] [] [] := ⟨rfl, rfl, fun j k d u h => by simp at h⟩
theorem Opn.single {P : Program} {w : World} {k : CK} {d : Dat} {u : Value} (h : Opn1 P w k d u) : Opn P w [k] [d] [u] :=
  ⟨rfl, rfl, fun j k' d' u' h1 h2 h3 => by
    cases j with
    | zero => cases h1; cases h2; cases h3; exact h
    | succ j => simp at h1⟩
def offsB (P : Program) (Rl : List TypeId) : Nat → List Field → Bool
  | _, [] => true
  | o, f :: r => f.offset == o && Rl.contains f.type && offsB P Rl (o + P.cellsOf f.type) r
def sumC (P : Program) (fs : List Field) : Nat := fs.foldr (fun f n => P.cellsOf f.type + n) 0
def closedB (P : Program) (Rl : List TypeId) : Bool := Rl.all fun T => match P.underlying T with
  | some (.int _) | some .bool | some .string | some (.pointer _) => true
  | some (.slice E) => Rl.contains E && (match kinds P E with | some ks => P.cellsOf E == ks.length && Nat.blt 0 ks.length | none => false)
  | some (.struct fs) => P.cellsOf T == sumC P fs.toList && offsB P Rl 0 fs.toList
  | _ => false
theorem weights_all {H : Type} {P : Program} {e : TypeId} : ∀ {l : List (DataW H)} {d : DataW H}, d ∈ l → ∀ n ∈ d.weights P e, n ∈ DataW.weightsAll P e l
  | [], d, h, n, hn => by simp at h
  | a :: l, d, h, n, hn => by
    rw [DataW.weightsAll, List.mem_append]
    rcases List.mem_cons.1 h with rfl | h
    · exact .inl hn
    · exact .inr (weights_all h n hn)
def fk (P : Program) (n : Nat) (T : TypeId) (f : Field) : Option (List CK) := match P.underlying f.type with
  | some (.pointer E) => some [bif E == T then CK.self else CK.other]
  | _ => kindsF P n f.type
def catO (l : List (Option (List CK))) : Option (List CK) := l.foldr (fun a b => a.bind fun x => b.bind fun y => some (x ++ y)) (some [])
theorem opn_fields {P : Program} {w : World} {n : Nat} {T : TypeId} {Rl : List TypeId} {cs : List Value} (rd : Field → List Value → Prop)
    (ih : ∀ f c ks, Rl.contains f.type = true → fk P n T f = some ks → rd f c → ∃ ds, Opn P w ks ds c) : ∀ (fs : List Field) (o : Nat) (ks : List CK), offsB P Rl o fs = true → catO (fs.map (fk P n T)) = some ks → cs.length = o + sumC P fs →
      (∀ f ∈ fs, rd f ((cs.drop f.offset).take (P.cellsOf f.type))) → ∃ ds, Opn P w ks ds (cs.drop o)
  | [], o, ks, ho, hk, hl, hr => by
    cases hk
    refine ⟨[], ?_⟩
    rw [List.drop_eq_nil_of_le (by simp [sumC] at hl; omega)]
    exact Opn.nil
  | f :: fs, o, ks, ho, hk, hl, hr => by
    simp only [offsB, Bool.and_eq_true] at ho
    obtain ⟨⟨h1, h2⟩, h3⟩ := ho
    have h1 : f.offset = o := by simpa using h1
    have hk' : ((fk P n T f).bind fun x => (catO (fs.map (fk P n T))).bind fun y => some (x ++ y)) = some ks := hk
    obtain ⟨k1, e1, hk'⟩ := Option.bind_eq_some_iff.1 hk'
    obtain ⟨k2, e2, hk'⟩ := Option.bind_eq_some_iff.1 hk'
    cases hk'
    have hl' : cs.length = o + (P.cellsOf f.type + sumC P fs) := hl
    obtain ⟨d1, o1⟩ := ih f _ k1 h2 e1 (hr f (by simp))
    obtain ⟨d2, o2⟩ := opn_fields rd ih fs (o + P.cellsOf f.type) k2 h3 e2 (by omega) (fun g hg => hr g (by simp [hg]))
    refine ⟨d1 ++ d2, ?_⟩
    have := o1.append o2
    rw [h1, ← List.drop_drop, List.take_append_drop] at this
    exact this
theorem opens {P : Program} {Rl : List TypeId} (hcl : closedB P Rl = true) {H : Type} {enc : TypeId × Value → H} {w : World} {base : Nat} {spare : Nat → Bool} {held : Bool} : ∀ (fuel n : Nat) (T : TypeId) (ks : List CK) (cs : List Value) (x : DataW H × List MemPlace),
    Rl.contains T = true → kindsF P n T = some ks → DataW.trod enc P w base spare held fuel T cs = some x → (∀ n ∈ x.1.weights P T, n ≤ reachBytes) → ∃ ds, Opn P w ks ds cs
  | 0, n, T, ks, cs, x, hT, hk, h, hw => by simp [DataW.trod] at h
  | fuel + 1, 0, T, ks, cs, x, hT, hk, h, hw => by simp [kindsF] at hk
  | fuel + 1, n + 1, T, ks, cs, x, hT, hk, h, hw => by
    have hc := List.all_eq_true.1 hcl T (by simpa using hT)
    unfold kindsF at hk
    cases hu : P.underlying T with
    | none => rw [hu] at hc; cases hc
    | some D =>
      rw [hu] at hc hk
      cases D <;> first | (cases hc; done) | skip
      case bool =>
        cases hk
        obtain ⟨b, rfl, _⟩ := DataW.trod_bool hu h
        exact ⟨[.bool b], Opn.single ⟨rfl, rfl, fun E e => (by cases e), .bool _⟩⟩
      case int k =>
        cases hk
        obtain ⟨m, rfl, _, hwf⟩ := DataW.trod_int hu h
        exact ⟨[.int m], Opn.single ⟨rfl, rfl, fun E e => (by cases e), .int k _ hwf⟩⟩
      case string =>
        cases hk
        obtain ⟨s, rfl, rfl, _⟩ := DataW.trod_string hu h
        have := hw s.data.toList.length (by simp [DataW.weights])
        exact ⟨[.str s], Opn.single ⟨rfl, rfl, fun E e => (by cases e), .str _ (by rwa [Array.length_toList] at this)⟩⟩
      case pointer e =>
        cases hk
        rcases DataW.trod_pointer hu h with ⟨rfl, _⟩ | ⟨a, cs', y, m, _, rfl, _⟩
        · exact ⟨[.int 0], Opn.single ⟨rfl, trivial, fun E e => (by cases e), .other _⟩⟩
        · exact ⟨[.int 0], Opn.single ⟨rfl, trivial, fun E e => (by cases e), .other _⟩⟩
      case struct fs =>
        simp only [Bool.and_eq_true] at hc
        obtain ⟨xs, m, hm, rfl, hcl', hxl, hf⟩ := DataW.trod_struct hu h
        cases hm
        have hsum : P.cellsOf T = sumC P fs.toList := by simpa using hc.1
        have hkk : catO (fs.toList.map (fk P n T)) = some ks := hk
        obtain ⟨ds, hds⟩ := opn_fields (P := P) (w := w) (n := n) (T := T) (Rl := Rl) (cs := cs) (fun f c => ∃ y, DataW.trod enc P w base spare held fuel f.type c = some y ∧ ∀ k ∈ y.1.weights P f.type, k ≤ reachBytes) (fun f c ks' hcf hkf hr => by
            obtain ⟨y, hy, hyw⟩ := hr
            unfold fk at hkf
            split at hkf
            · rename_i E hE
              cases hkf
              have hone : ∀ k, (k = CK.self ∨ k = CK.other) → ∀ u : Value, u.oneCell' = true → Opn1 P w k (.int 0) u := fun k hk u hu1 => by
                rcases hk with rfl | rfl
                · exact ⟨hu1, trivial, fun E e => (by cases e), .self _⟩
                · exact ⟨hu1, trivial, fun E e => (by cases e), .other _⟩
              have hk2 : (bif E == T then CK.self else CK.other) = CK.self ∨ (bif E == T then CK.self else CK.other) = CK.other := by cases E == T <;> simp
              rcases DataW.trod_pointer hE hy with ⟨rfl, _⟩ | ⟨a, cs', y', m', _, rfl, _⟩
              · exact ⟨[.int 0], Opn.single (hone _ hk2 _ rfl)⟩
              · exact ⟨[.int 0], Opn.single (hone _ hk2 _ rfl)⟩
            · exact opens hcl fuel n f.type ks' c y hcf hkf hy hyw) fs.toList 0 ks hc.2 hkk (by rw [hcl', hsum]; omega) (fun f hfm => by
            obtain ⟨i, hi, rfl⟩ := List.mem_iff_getElem.1 hfm
            have hi' : i < fs.size := by simpa using hi
            have hfi : fs[i]? = some fs.toList[i] := by simp [hi']
            have h2 := hf i _ hfi
            obtain ⟨y, hy⟩ : ∃ y, xs[i]? = some y := ⟨_, List.getElem?_eq_getElem (by omega)⟩
            refine ⟨y, by rw [h2, hy], fun k hk => hw k ?_⟩
            simp only [DataW.weights, hu]
            exact DataW.weights_mem_each (j := i) (t := fs.toList[i].type) (by simp [hi']) (by simp [hy]) k hk)
        rw [List.drop_zero] at hds
        exact ⟨ds, hds⟩
      case slice E =>
        simp only [Bool.and_eq_true] at hc
        cases hk
        cases hkE : kinds P E with
        | none => rw [hkE] at hc; cases hc.2
        | some kE =>
          rw [hkE] at hc
          simp only [Bool.and_eq_true] at hc
          have hcE : P.cellsOf E = kE.length := by simpa using hc.2.1
          have h0 : 0 < kE.length := Nat.le_of_ble_eq_true hc.2.2
          rcases DataW.trod_slice hu h with ⟨rfl, rfl⟩ | ⟨a, len, cap, elems, rest, m, hm, rfl, rfl, hb, hl, hmx, hlen, hel, _, _⟩
          · exact ⟨[.rows []], Opn.single ⟨rfl, trivial, fun E' e => (by cases e; exact .nil E none 0), .row E kE _ hkE (by simp [Dat.toL]) (fun e he => by simp [Dat.toL] at he)⟩⟩
          cases hm
          have each : ∀ i, i < len → ∃ p : List Dat × List Value, (∀ j u, p.2[j]? = some u → w.cell? (a.add (i * kE.length + j)) = some u) ∧ Opn P w kE p.1 p.2 := fun i hi => by
            have h2 := hel i hi
            obtain ⟨y, hy⟩ : ∃ y, elems[i]? = some y := ⟨_, List.getElem?_eq_getElem (by omega)⟩
            rw [hy] at h2
            obtain ⟨cs', h3, h4⟩ := Option.bind_eq_some_iff.1 h2
            obtain ⟨_, e1, e2⟩ := World.cells?_some h3
            obtain ⟨ds, hds⟩ := opens hcl fuel 9 E kE cs' y hc.1 hkE h4 (fun k hk => hw k (by
              simp only [DataW.weights, hu, List.mem_cons, List.mem_append]
              exact .inr (.inl (weights_all (List.mem_map.2 ⟨y, List.mem_of_getElem? hy, rfl⟩) k hk))))
            refine ⟨(ds, cs'), fun j u hj => ?_, hds⟩
            have hjl : j < P.cellsOf E := by rw [← e1]; exact (List.getElem?_eq_some_iff.1 hj).1
            have := e2 j hjl
            rw [Deep.add_add, hcE] at this
            rw [this]; exact hj
          obtain ⟨F, hF⟩ := Deep.choose_lt each
          let L : List Dat := (List.range len).map fun i => .agg (F i).1
          have hLl : L.length = len := by simp [L]
          have hLget : ∀ i d, L[i]? = some d → i < len ∧ d = .agg (F i).1 := fun i d hi => by
            have hlt := (List.getElem?_eq_some_iff.1 hi).1
            rw [hLl] at hlt
            simp only [L, List.getElem?_map, List.getElem?_range hlt, Option.map_some] at hi
            cases hi
            exact ⟨hlt, rfl⟩
          have hat : ∀ i j, ∀ hj : j < (F i).1.length, (Dat.agg (F i).1).at j = (F i).1[j] := fun i j hj => by
            show (F i).1.getD j (.int 0) = _
            rw [List.getD_eq_getElem?_getD, List.getElem?_eq_getElem hj]; rfl
          have hcells : ∀ i j k, i < len → kE[j]? = some k → ∃ d u, (F i).1[j]? = some d ∧ (F i).2[j]? = some u ∧ Opn1 P w k d u := fun i j k hi hj => by
            have hjl := (List.getElem?_eq_some_iff.1 hj).1
            obtain ⟨_, ho⟩ := hF i hi
            have q1 := List.getElem?_eq_getElem (l := (F i).1) (i := j) (by rw [ho.ld]; exact hjl)
            have q2 := List.getElem?_eq_getElem (l := (F i).2) (i := j) (by rw [ho.lc]; exact hjl)
            exact ⟨_, _, q1, q2, ho.each j k _ _ hj q1 q2⟩
          have hsz : Sz P (.row E) (.rows L) := by
            refine .row E kE _ hkE ?_ (fun e he j k hj => ?_)
            · have := hw (((elems.map (·.1)).length + (rest.map (·.1)).length) * P.bytesOf E) (by simp [DataW.weights, hu])
              show L.length * P.bytesOf E ≤ reachBytes
              rw [hLl]
              refine Nat.le_trans (Nat.mul_le_mul_right _ ?_) this
              simp
              omega
            · obtain ⟨i, hi⟩ := List.getElem?_of_mem (show e ∈ L from he)
              obtain ⟨hlt, rfl⟩ := hLget i e hi
              obtain ⟨d, u, q1, q2, q3⟩ := hcells i j k hlt hj
              have hl2 := (List.getElem?_eq_some_iff.1 q1).1
              rw [hat i j hl2]
              rw [List.getElem?_eq_getElem hl2] at q1
              cases q1
              exact q3.sz
          refine ⟨[.rows L], Opn.single ⟨rfl, trivial, fun E' e => ?_, hsz⟩⟩
          cases e
          show RepRow P (g0 w).G w E L (.slice (some a) len cap)
          cases len with
          | zero =>
            have : L = [] := List.length_eq_zero_iff.1 hLl
            rw [this]
            exact .nil E (some a) cap
          | succ len' =>
            have hspot : a.spot = none := by
              obtain ⟨k0, hk0⟩ : ∃ k0, kE[0]? = some k0 := ⟨_, List.getElem?_eq_getElem h0⟩
              obtain ⟨d, u, _, q2, _⟩ := hcells 0 0 k0 (by omega) hk0
              have h1 := (hF 0 (by omega)).1 0 u q2
              rw [Nat.zero_mul, Nat.zero_add] at h1
              have h1 : w.cell? a = some u := h1
              unfold World.cell? at h1
              split at h1
              · cases hs : a.spot with
                | none => rfl
                | some z => rw [hs] at h1; cases h1
              · cases h1
            obtain ⟨β, off, spot⟩ := a
            dsimp only at hspot
            subst hspot
            have := RepRow.of_cells (P := P) (w := w) (E := E) (ks := kE) (l := L) (β := β) (off := off) (cap := cap) (vals := fun i j => (F i).2.getD j undef) hkE (by rw [hLl]; exact hl) (fun i j hi hj => by
              rw [hLl] at hi
              obtain ⟨d, u, _, q2, q3⟩ := hcells i j kE[j] hi (List.getElem?_eq_getElem hj)
              have h1 := (hF i hi).1 j u q2
              rw [add_lit] at h1
              rw [List.getD_eq_getElem?_getD, q2]
              exact ⟨by rw [show off + i * kE.length + j = off + (i * kE.length + j) by omega]; exact h1, q3.one⟩) (fun i j d k hi hj => by
              obtain ⟨hlt, rfl⟩ := hLget i d hi
              obtain ⟨d, u, q1, q2, q3⟩ := hcells i j k hlt hj
              have hl2 := (List.getElem?_eq_some_iff.1 q1).1
              rw [hat i j hl2, List.getD_eq_getElem?_getD, q2]
              rw [List.getElem?_eq_getElem hl2] at q1
              cases q1
              exact q3.sc) (fun i j d E' hi hj => by
              obtain ⟨hlt, rfl⟩ := hLget i d hi
              obtain ⟨d, u, q1, q2, q3⟩ := hcells i j _ hlt hj
              have hl2 := (List.getElem?_eq_some_iff.1 q1).1
              rw [hat i j hl2, List.getD_eq_getElem?_getD, q2]
              rw [List.getElem?_eq_getElem hl2] at q1
              cases q1
              exact q3.row E' rfl)
            rw [hLl] at this
            exact this
end Go.Proofs.YtckdgcpomkefpaaDoor.En
end
section
set_option linter.unusedVariables false
set_option linter.unusedSimpArgs false
namespace Go.Proofs.YtckdgcpomkefpaaDoor.En
open Go Go.RowKit Go.ChangeShapes Go.WideShapes
def avOf (k : CK) (d : Dat) : AV := match k with
  | .int k => .v (.int k d.toI)
  | .bool => .v (.bool d.toB)
  | .str => .v (.string d.toS)
  | .row E => .row none E d.toL
  | _ => .dead
theorem avOf_rep {P : Program} {w : World} {k : CK} {d : Dat} {u : Value} (h : Opn1 P w k d u) : RepC P (g0 w) w (avOf k d) u := by
  cases k with
  | int k => exact ⟨h.sc, rfl⟩
  | bool => exact ⟨h.sc, rfl⟩
  | str => exact ⟨h.sc, rfl⟩
  | row E => exact ⟨h.row E rfl, fun n hn => by cases hn⟩
  | self => exact h.one
  | other => exact h.one
def avsOf : List CK → List Dat → List AV
  | k :: ks, d :: ds => avOf k d :: avsOf ks ds
  | _, _ => []
theorem avsOf_get : ∀ (ks : List CK) (ds : List Dat) (j : Nat) x, (avsOf ks ds)[j]? = some x → ∃ k d, ks[j]? = some k ∧ ds[j]? = some d ∧ x = avOf k d
  | [], ds, j, x, h => by simp [avsOf] at h
  | k :: ks, [], j, x, h => by simp [avsOf] at h
  | k :: ks, d :: ds, 0, x, h => by simp [avsOf] at h; exact ⟨k, d, rfl, rfl, h.symm⟩
  | k :: ks, d :: ds, j + 1, x, h => avsOf_get ks ds j x (by simpa [avsOf] using h)
theorem avsOf_len : ∀ (ks : List CK) (ds : List Dat), ds.length = ks.length → (avsOf ks ds).length = ks.length
  | [], [], _ => rfl
  | [], _ :: _, h => by simp at h
  | _ :: _, [], h => by simp at h
  | k :: ks, d :: ds, h => by simp [avsOf, avsOf_len ks ds (by simpa using h)]
theorem agg_rep {P : Program} {w : World} {ks : List CK} {ds : List Dat} {cs : Array Value} (h : Opn P w ks ds cs.toList) : RepS P (g0 w) w (.agg (avsOf ks ds)) (.agg cs) := by
  refine ⟨cs, rfl, ?_, fun j c hj => ?_⟩
  · rw [avsOf_len ks ds h.ld, ← h.lc]; simp
  · obtain ⟨k, d, h1, h2, rfl⟩ := avsOf_get ks ds j c hj
    have hjl := (List.getElem?_eq_some_iff.1 h1).1
    have hu := List.getElem?_eq_getElem (l := cs.toList) (i := j) (by rw [h.lc]; exact hjl)
    refine ⟨_, ?_, avOf_rep (h.each j k d _ h1 h2 hu)⟩
    rw [← Array.getElem?_toList]; exact hu
end Go.Proofs.YtckdgcpomkefpaaDoor.En
end
section
set_option linter.unusedVariables false
set_option maxRecDepth 100000
namespace Go.Proofs.YtckdgcpomkefpaaDoor.En
open Go
def obA (k n : Int) (b : Bool) (s : ByteArray) (ks l : List Dat) : List AV := [I k, B b, I n, S s, .row none 9 ks, .row none 39 l]
def zr : List AV := [I 0, B false, I 0, S ⟨#[]⟩, .row (some (sub 4 4)) 9 [], .row (some (sub 4 5)) 39 []]
end Go.Proofs.YtckdgcpomkefpaaDoor.En
end
section
set_option linter.unusedVariables false
set_option linter.unusedSimpArgs false
set_option maxRecDepth 100000
namespace Go.Proofs.YtckdgcpomkefpaaDoor.En
open Go
theorem hmixP : PR.follows .mixedOrders = true := by kernel_rfl
def mkO (k n : Int) (b : Bool) (s : ByteArray) (ks l : List Dat) : Dat := .agg [.int k, .bool b, .int n, .str s, .rows ks, .rows l]
def obD (d : Dat) : List AV := obA (d.at 0).toI (d.at 2).toI (d.at 1).toB (d.at 3).toS (d.at 4).toL (d.at 5).toL
def nrm (d : Dat) : Dat := mkO (d.at 0).toI (d.at 2).toI (d.at 1).toB (d.at 3).toS (d.at 4).toL (d.at 5).toL
def orK {β : Type} (c : Bool) (d : Bool) (k : Bool → Option β) : Option β := (bif c then some true else some d).bind k
theorem orK_eq {β : Type} (c d : Bool) (k : Bool → Option β) : orK c d k = k (c || d) := by cases c <;> rfl
def fitO : Nat → List Dat → List Dat → Prop
  | 0, _, _ => False
  | k + 1, ks, l => ks.length ≤ 1000000 ∧ l.length ≤ 1000000 ∧ ∀ d ∈ l, fitO k (d.at 4).toL (d.at 5).toL
noncomputable def decP (p : Prop) : Bool := @decide p (Classical.propDecidable p)
theorem decP_eq {p : Prop} (h : p) : decP p = true := @decide_eq_true p (Classical.propDecidable p) h
theorem decP_of {p : Prop} (h : decP p = true) : p := @of_decide_eq_true p (Classical.propDecidable p) h
noncomputable def fitB (k : Nat) (ks l : List Dat) : Bool := decP (fitO k ks l)
theorem fitB_eq {k : Nat} {ks l : List Dat} (h : fitO k ks l) : fitB k ks l = true := decP_eq h
theorem fitB_of {k : Nat} {ks l : List Dat} (h : fitB k ks l = true) : fitO k ks l := decP_of h
def keysEq : List Dat → List Dat → Bool
  | [], [] => true
  | d :: l, e :: m => ((d.at 0).toS.toList == (e.at 0).toS.toList) && keysEq l m
  | _, _ => false
def allEq (f : Dat → Dat → Bool) : List Dat → List Dat → Bool
  | [], [] => true
  | d :: l, e :: m => f d e && allEq f l m
  | _, _ => false
def sameO : Nat → Dat → Dat → Bool
  | 0, _, _ => false
  | k + 1, a, b => ((a.at 0).toI == (b.at 0).toI) && (((a.at 1).toB == (b.at 1).toB) && (((a.at 2).toI == (b.at 2).toI) && (((a.at 3).toS.toList == (b.at 3).toS.toList) && (keysEq (a.at 4).toL (b.at 4).toL && allEq (sameO k) (a.at 5).toL (b.at 5).toL))))
theorem sameO_nrm (k : Nat) (a b : Dat) : sameO k (nrm a) (nrm b) = sameO k a b := by cases k <;> rfl
noncomputable def sameE (k : Nat) : List AV → Bx → Option (Bool × Out)
  | [.agg [.v (.int .i64 k1), .v (.bool b1), .v (.int .i64 n1), .v (.string s1), .row none 9 ks1, .row none 39 l1], .agg [.v (.int .i64 k2), .v (.bool b2), .v (.int .i64 n2), .v (.string s2), .row none 9 ks2, .row none 39 l2]], [none, none] =>
    some (fitB k ks1 l1, .ret (B (sameO k (mkO k1 n1 b1 s1 ks1 l1) (mkO k2 n2 b2 s2 ks2 l2))) [none, none])
  | _, _ => none
section
variable (call ext : CallF) (k m r : Nat) (k1 n1 k2 n2 : Int) (b1 b2 : Bool) (s1 s2 : ByteArray) (ks1 l1 ks2 l2 : List Dat) (i : Int)
end
def bR (x : Bool) : Option Out := some (.ret (B x) [none, none])
theorem keysEq_len : ∀ {l m : List Dat}, keysEq l m = true → l.length = m.length
  | [], [], _ => rfl
  | d :: l, e :: m, h => by
    rw [keysEq, Bool.and_eq_true] at h
    simp [keysEq_len h.2]
  | [], _ :: _, h => by cases h
  | _ :: _, [], h => by cases h
theorem allEq_len {f : Dat → Dat → Bool} : ∀ {l m : List Dat}, allEq f l m = true → l.length = m.length
  | [], [], _ => rfl
  | d :: l, e :: m, h => by
    rw [allEq, Bool.and_eq_true] at h
    simp [allEq_len h.2]
  | [], _ :: _, h => by cases h
  | _ :: _, [], h => by cases h
theorem ne_len {α : Type} {l m : List α} : ((l.length : Int) != m.length) = !decide (l.length = m.length) := by
  by_cases h : l.length = m.length
  · simp [h]
  · have : (l.length : Int) ≠ m.length := by omega
    simp [h, this]
def copyO : Nat → Dat → Dat
  | 0, d => d
  | k + 1, d => mkO (d.at 0).toI (d.at 2).toI (d.at 1).toB (d.at 3).toS (d.at 4).toL ((d.at 5).toL.map (copyO k))
def obT (k n : Int) (b : Bool) (s : ByteArray) (ks l : List Dat) : List AV := [I k, B b, I n, S s, .row (some (sub 2 4)) 9 ks, .row (some (sub 2 5)) 39 l]
noncomputable def copyE (k : Nat) : List AV → Bx → Option (Bool × Out)
  | [.agg [.v (.int .i64 k1), .v (.bool b1), .v (.int .i64 n1), .v (.string s1), .row none 9 ks1, .row none 39 l1]], [none] =>
    some (fitB k ks1 l1, .ret (.agg (obT k1 n1 b1 s1 ks1 (l1.map (copyO (k - 1))))) [none])
  | _, _ => none
noncomputable def copyC (k : Nat) (ext : CallF) : CallF := addF 16 (copyE k) ext
noncomputable def copyL (call : CallF) (m r : Nat) (k1 n1 : Int) (b1 : Bool) (s1 : ByteArray) (ks1 l1 acc : List Dat) (i : Int) := loopF PR TK call m 16 [none] [true, true, true, false, true] r
  (sp 29 [(1, .box 1 0), (2, .box 2 0), (3, .row (some 3) 39 acc), (4, I i)] [(1, [I k1, B b1, I n1, S s1, .row (some (sub 1 4)) 9 ks1, .row none 39 l1]), (2, [I 0, B false, I 0, S ⟨#[]⟩, .row (some (sub 2 4)) 9 [], .row (some (sub 2 5)) 39 []])])
section
variable (call ext : CallF) (k m r : Nat) (k1 n1 : Int) (b1 : Bool) (s1 : ByteArray) (ks1 l1 acc : List Dat) (i : Int)
theorem copy_0 : evFn PR TK call m 16 [.agg (obA k1 n1 b1 s1 ks1 l1)] [none] = bif Nat.ble (0 + ks1.length) fitsN then copyL call m m k1 n1 b1 s1 ks1 l1 [] 0 else none := by kernel_rfl
theorem copy_1 : copyL (copyC k ext) m (r + 1) k1 n1 b1 s1 ks1 l1 acc i = bif decide (i < l1.length) then (idx l1 i).bind fun d =>
      bif fitB k (d.at 4).toL (d.at 5).toL then (bif Nat.ble (acc.length + 1) fitsN then copyL (copyC k ext) m r k1 n1 b1 s1 ks1 l1 (acc ++ [mkO (d.at 0).toI (d.at 2).toI (d.at 1).toB (d.at 3).toS (d.at 4).toL ((d.at 5).toL.map (copyO (k - 1)))]) (IntKind.i64.wrap (i + 1)) else none) else none
    else some (.ret (.agg (obT k1 n1 b1 s1 ks1 acc)) [none]) := by kernel_rfl
end
end Go.Proofs.YtckdgcpomkefpaaDoor.En
end
section
set_option linter.unusedVariables false
set_option linter.unusedSimpArgs false
set_option maxRecDepth 100000
namespace Go.Proofs.YtckdgcpomkefpaaDoor.En
open Go
theorem fits_ble {n : Nat} (h : n ≤ 1000001) : Nat.ble n fitsN = true := Nat.ble_eq_true_of_le (by unfold fitsN; omega)
theorem copy_loop {ext : CallF} {k m : Nat} {k1 n1 : Int} {b1 : Bool} {s1 : ByteArray} {ks1 l1 : List Dat} (hk0 : 0 < k) (hf : l1.length ≤ 1000000) (hk : ∀ d ∈ l1, fitO k (d.at 4).toL (d.at 5).toL) :
    ∀ (n i r : Nat) (acc : List Dat), i + n = l1.length → n < r → acc.length = i → copyL (copyC k ext) m r k1 n1 b1 s1 ks1 l1 acc (i : Int) = some (.ret (.agg (obT k1 n1 b1 s1 ks1 (acc ++ (l1.drop i).map (copyO k)))) [none]) := by
  intro n
  induction n with
  | zero =>
    intro i r acc hi hr ha
    cases r with
    | zero => omega
    | succ r =>
      rw [copy_1, show decide ((i : Int) < l1.length) = false from decide_eq_false (by omega), List.drop_eq_nil_of_le (by omega), List.map_nil, List.append_nil]
      rfl
  | succ n ih =>
    intro i r acc hi hr ha
    cases r with
    | zero => omega
    | succ r =>
      have h1 : i < l1.length := by omega
      have e : mkO (l1[i].at 0).toI (l1[i].at 2).toI (l1[i].at 1).toB (l1[i].at 3).toS (l1[i].at 4).toL ((l1[i].at 5).toL.map (copyO (k - 1))) = copyO k l1[i] := by
        obtain ⟨j, rfl⟩ : ∃ j, k = j + 1 := ⟨k - 1, by omega⟩
        rfl
      have ih := ih (i + 1) r (acc ++ [copyO k l1[i]]) (by omega) (by omega) (by simp; omega)
      rw [show ((i + 1 : Nat) : Int) = (i : Int) + 1 by omega] at ih
      rw [copy_1, show decide ((i : Int) < l1.length) = true from decide_eq_true (by omega), idx_at h1, IntWalk.i64_in _ (by omega)]
      simp only [cond_true, Option.bind_some]
      rw [fitB_eq (hk _ (List.getElem_mem h1)), cond_true, fits_ble (by omega), cond_true, e, ih, List.drop_eq_getElem_cons h1, List.map_cons, List.append_assoc]
      rfl
theorem copy_run {ext : CallF} {k m : Nat} {k1 n1 : Int} {b1 : Bool} {s1 : ByteArray} {ks1 l1 : List Dat} (h : fitO (k + 1) ks1 l1) (hm : 1000000 < m) :
    evFn PR TK (copyC k ext) m 16 [.agg (obA k1 n1 b1 s1 ks1 l1)] [none] = some (.ret (.agg (obT k1 n1 b1 s1 ks1 (l1.map (copyO k)))) [none]) := by
  obtain ⟨h1, h2, h3⟩ := h
  rw [copy_0, fits_ble (by omega), cond_true]
  cases l1 with
  | nil =>
    obtain ⟨m, rfl⟩ : ∃ j, m = j + 1 := ⟨m - 1, by omega⟩
    rw [copy_1]; rfl
  | cons d l =>
    have hk0 : 0 < k := by
      cases k with
      | zero => exact (h3 d (by simp)).elim
      | succ k => omega
    have e := copy_loop (ext := ext) (m := m) (k1 := k1) (n1 := n1) (b1 := b1) (s1 := s1) (ks1 := ks1) hk0 h2 h3 (d :: l).length 0 m [] (by omega) (by omega) rfl
    rw [List.drop_zero, List.nil_append, show ((0 : Nat) : Int) = 0 from rfl] at e
    exact e
theorem copy_sound {ext : CallF} (hext : SoundCall PR ext) : ∀ k, SoundCall PR (copyC k ext) := by
  refine sound_rec (takes := TK) hmixP hext _ (fn := (PR.funcs[16]?).getD default) (by kernel_rfl) (by kernel_rfl) copyE (fun xs bs out h => ?_) (fun k xs bs out h => ?_)
  · unfold copyE at h
    split at h
    · injection h with h
      injection h with h _
      exact fitB_of h
    · cases h
  · unfold copyE at h
    split at h
    · injection h with h
      injection h with h1 h2
      subst h2
      exact ⟨1000001, copy_run (fitB_of h1) (by omega)⟩
    · cases h
def findK (key : ByteArray) : List Dat → Nat → Option Nat
  | [], _ => none
  | d :: ks, i => bif (d.at 0).toS.toList == key.toList then some i else findK key ks (i + 1)
def zeroO : Dat := mkO 0 0 false ⟨#[]⟩ [] []
def getO (ks l : List Dat) (key : ByteArray) : Option Dat := (findK key ks 0).bind fun i => l[i]?
def getR (r : Option Dat) : Option Out := some (.ret (.tup [.agg (obD (r.getD zeroO)), B r.isSome]) [none, none])
def getE : List AV → Bx → Option (Bool × Out)
  | [.agg [.v (.int .i64 k1), .v (.bool b1), .v (.int .i64 n1), .v (.string s1), .row none 9 ks1, .row none 39 l1], .v (.string key)], [none, none] =>
    some (Nat.ble ks1.length 1000000 && Nat.ble l1.length 1000000, .ret (.tup [.agg (obD ((bif k1 == 7 then getO ks1 l1 key else none).getD zeroO)), B (bif k1 == 7 then getO ks1 l1 key else none).isSome]) [none, none])
  | _, _ => none
theorem idx_ge {l : List Dat} {i : Nat} (h : ¬ i < l.length) : l[i]? = none := List.getElem?_eq_none (by omega)
noncomputable def ogetL (call : CallF) (m r : Nat) (k n : Int) (b : Bool) (s key : ByteArray) (ks l : List Dat) (i : Int) := loopF PR TK call m 33 [none, none] [true, true, false, true] r
  (sp 37 [(1, S key), (2, .box 2 0), (4, .box 4 0), (13, .row none 9 ks), (14, I ks.length), (15, I i)] [(2, obA k n b s ks l), (4, zr)])
theorem oget_0 (call : CallF) (m : Nat) (k n : Int) (b : Bool) (s key : ByteArray) (ks l : List Dat) : evFn PR TK call m 33 [.agg (obA k n b s ks l), S key] [none, none] =
  bif (k != 7) then some (.ret (.tup [.agg (obA 0 0 false ⟨#[]⟩ [] []), B false]) [none, none]) else ogetL call m m k n b s key ks l 0 := by kernel_rfl
def andK {β : Type} (c d : Bool) (k : Bool → Option β) : Option β := (bif c then some d else some false).bind k
theorem andK_eq {β : Type} (c d : Bool) (k : Bool → Option β) : andK c d k = k (c && d) := by cases c <;> rfl
theorem oget_1 (call : CallF) (m r : Nat) (k n : Int) (b : Bool) (s key : ByteArray) (ks l : List Dat) (i : Int) : ogetL call m (r + 1) k n b s key ks l i =
  bif decide (i < ks.length) then (idx ks i).bind fun d => andK ((d.at 0).toS.toList == key.toList) (decide (i < l.length)) fun t => bif t then (idx l i).bind fun e => some (.ret (.tup [.agg (obD e), B true]) [none, none])
    else ogetL call m r k n b s key ks l (IntKind.i64.wrap (i + 1))
  else some (.ret (.tup [.agg (obA 0 0 false ⟨#[]⟩ [] []), B false]) [none, none]) := by kernel_rfl
theorem findK_ge {key : ByteArray} : ∀ (ks : List Dat) (i j : Nat), findK key ks i = some j → i ≤ j
  | [], i, j, h => by cases h
  | d :: ks, i, j, h => by
    unfold findK at h
    cases hc : ((d.at 0).toS.toList == key.toList) <;> rw [hc] at h <;> simp only [cond_true, cond_false] at h
    · have := findK_ge ks (i + 1) j h; omega
    · cases h; exact Nat.le_refl _
theorem oget_loop {call : CallF} {m : Nat} {k1 n1 : Int} {b1 : Bool} {s1 key : ByteArray} {ks1 l1 : List Dat} (hf : ks1.length ≤ 1000000) :
    ∀ (n i r : Nat), i + n = ks1.length → n < r → ogetL call m r k1 n1 b1 s1 key ks1 l1 (i : Int) = getR ((findK key (ks1.drop i) i).bind fun i => l1[i]?) := by
  intro n
  induction n with
  | zero =>
    intro i r hi hr
    cases r with
    | zero => omega
    | succ r =>
      rw [oget_1, show decide ((i : Int) < ks1.length) = false from decide_eq_false (by omega), List.drop_eq_nil_of_le (by omega)]
      rfl
  | succ n ih =>
    intro i r hi hr
    cases r with
    | zero => omega
    | succ r =>
      have h1 : i < ks1.length := by omega
      have ih := ih (i + 1) r (by omega) (by omega)
      rw [show ((i + 1 : Nat) : Int) = (i : Int) + 1 by omega] at ih
      rw [oget_1, show decide ((i : Int) < ks1.length) = true from decide_eq_true (by omega), idx_at h1, IntWalk.i64_in _ (by omega), ih, List.drop_eq_getElem_cons h1]
      simp only [cond_true, Option.bind_some, findK, andK_eq]
      cases ((ks1[i].at 0).toS.toList == key.toList)
      · rfl
      · simp only [cond_true, Option.bind_some, Bool.true_and]
        by_cases h2 : i < l1.length
        · rw [show decide ((i : Int) < l1.length) = true from decide_eq_true (by omega), idx_at h2, List.getElem?_eq_getElem h2]
          rfl
        · rw [show decide ((i : Int) < l1.length) = false from decide_eq_false (by omega), idx_ge h2]
          simp only [cond_false]
          cases hq : findK key (ks1.drop (i + 1)) (i + 1) with
          | none => rfl
          | some j =>
            have := findK_ge _ _ _ hq
            rw [Option.bind_some, idx_ge (by omega)]
theorem oget_run {call : CallF} {m : Nat} {k1 n1 : Int} {b1 : Bool} {s1 key : ByteArray} {ks1 l1 : List Dat} (hf : ks1.length ≤ 1000000) (hm : 1000000 < m) :
    evFn PR TK call m 33 [.agg (obA k1 n1 b1 s1 ks1 l1), S key] [none, none] = getR (bif k1 == 7 then getO ks1 l1 key else none) := by
  rw [oget_0]
  unfold bne
  cases (k1 == 7)
  · rfl
  · have e := oget_loop (call := call) (m := m) (k1 := k1) (n1 := n1) (b1 := b1) (s1 := s1) (key := key) (l1 := l1) hf ks1.length 0 m (by omega) (by omega)
    rw [List.drop_zero, show ((0 : Nat) : Int) = 0 from rfl] at e
    exact e
theorem oget_sound {ext : CallF} (hext : SoundCall PR ext) : SoundCall PR (addF 33 getE ext) := by
  refine sound_add (takes := TK) hmixP hext _ (fn := (PR.funcs[33]?).getD default) (by kernel_rfl) (by kernel_rfl) getE fun xs bs out h => ?_
  unfold getE at h
  split at h
  · injection h with h
    injection h with h1 h2
    subst h2
    rw [Bool.and_eq_true] at h1
    exact ⟨1000001, oget_run (Nat.le_of_ble_eq_true h1.1) (by omega)⟩
  · cases h
end Go.Proofs.YtckdgcpomkefpaaDoor.En
end
section
set_option linter.unusedVariables false
set_option linter.unusedSimpArgs false
set_option maxRecDepth 100000
namespace Go.Proofs.YtckdgcpomkefpaaDoor.En
open Go
def keysN : List Dat → Int → Int
  | [], n => n
  | d :: ks, n => keysN ks (n + ((d.at 0).toS.size : Int).tdiv 100)
def itemsN (f : Dat → Int → Int) : List Dat → Int → Int
  | [], n => n
  | d :: l, n => bif decide (n ≥ 0) then itemsN f l (f d n) else n
def headN (s : ByteArray) (ks l : List Dat) (ahead : Int) : Int := ahead + 1 + ks.length + l.length + (s.size : Int).tdiv 100
def largeO : Nat → Dat → Int → Int → Int
  | 0, _, _, _ => -1
  | k + 1, d, nest, ahead => bif decide (headN (d.at 3).toS (d.at 4).toL (d.at 5).toL ahead > 2000) || decide (nest > 100) then -1
    else itemsN (fun e n => largeO k e (nest + 1) n) (d.at 5).toL (keysN (d.at 4).toL (headN (d.at 3).toS (d.at 4).toL (d.at 5).toL ahead))
def fitZ : Nat → ByteArray → List Dat → List Dat → Prop
  | 0, _, _, _ => True
  | k + 1, s, ks, l => s.size ≤ 140737488355328 ∧ ks.length ≤ 140737488355328 ∧ l.length ≤ 140737488355328 ∧ (∀ d ∈ ks, (d.at 0).toS.size ≤ 140737488355328) ∧ ∀ d ∈ l, fitZ k (d.at 3).toS (d.at 4).toL (d.at 5).toL
def okZ (k : Nat) (s : ByteArray) (ks l : List Dat) (nest ahead : Int) : Prop := 102 ≤ k + nest ∧ 0 ≤ nest ∧ nest ≤ 101 ∧ 0 ≤ ahead ∧ ahead ≤ 4503599627370496 ∧ fitZ k s ks l
noncomputable def zB (k : Nat) (s : ByteArray) (ks l : List Dat) (nest ahead : Int) : Bool := decP (okZ k s ks l nest ahead)
noncomputable def largeE (k : Nat) : List AV → Bx → Option (Bool × Out)
  | [.agg [.v (.int .i64 k1), .v (.bool b1), .v (.int .i64 n1), .v (.string s1), .row none 9 ks1, .row none 39 l1], .v (.int .i64 nest), .v (.int .i64 ahead)], [none, none, none] =>
    some (zB k s1 ks1 l1 nest ahead, .ret (I (largeO k (mkO k1 n1 b1 s1 ks1 l1) nest ahead)) [none, none, none])
  | _, _ => none
noncomputable def largeC (k : Nat) (ext : CallF) : CallF := addF 19 (largeE k) ext
noncomputable def largeL1 (call : CallF) (m r : Nat) (k1 n1 : Int) (b1 : Bool) (s1 : ByteArray) (ks1 l1 : List Dat) (nest n i : Int) := loopF PR TK call m 19 [none, none, none] [true, true, true, false, true] r (sp 68 [(1, I nest), (3, .box 3 0), (7, I n), (8, I i)] [(3, obA k1 n1 b1 s1 ks1 l1)])
noncomputable def largeL2 (call : CallF) (m r : Nat) (k1 n1 : Int) (b1 : Bool) (s1 : ByteArray) (ks1 l1 : List Dat) (nest n i : Int) := loopF PR TK call m 19 [none, none, none] [true, true, true, true, false, true] r (sp 68 [(1, I nest), (3, .box 3 0), (7, I n), (9, I i)] [(3, obA k1 n1 b1 s1 ks1 l1)])
def nR (n : Int) : Option Out := some (.ret (I n) [none, none, none])
def W (n : Int) : Int := IntKind.i64.wrap n
section
variable (call ext : CallF) (k m r : Nat) (k1 n1 : Int) (b1 : Bool) (s1 : ByteArray) (ks1 l1 : List Dat) (nest ahead n i : Int)
theorem large_0 : evFn PR TK call m 19 [.agg (obA k1 n1 b1 s1 ks1 l1), I nest, I ahead] [none, none, none] =
    orK (decide (W (W (W (W (ahead + 1) + ks1.length) + l1.length) + W ((s1.size : Int).tdiv 100)) > 2000)) (decide (nest > 100)) fun t => bif t then nR (-1) else
      largeL1 call m m k1 n1 b1 s1 ks1 l1 nest (W (W (W (W (ahead + 1) + ks1.length) + l1.length) + W ((s1.size : Int).tdiv 100))) 0 := by kernel_rfl
theorem large_1 : largeL1 call m (r + 1) k1 n1 b1 s1 ks1 l1 nest n i = bif decide (i < ks1.length) then (idx ks1 i).bind fun d => largeL1 call m r k1 n1 b1 s1 ks1 l1 nest (W (n + W (((d.at 0).toS.size : Int).tdiv 100))) (W (i + 1))
    else largeL2 call m m k1 n1 b1 s1 ks1 l1 nest n 0 := by kernel_rfl
theorem large_2 : largeL2 (largeC k ext) m (r + 1) k1 n1 b1 s1 ks1 l1 nest n i = andK (decide (i < l1.length)) (decide (n ≥ 0)) fun t => bif t then (idx l1 i).bind fun d =>
      bif zB k (d.at 3).toS (d.at 4).toL (d.at 5).toL (W (nest + 1)) n then largeL2 (largeC k ext) m r k1 n1 b1 s1 ks1 l1 nest (largeO k (nrm d) (W (nest + 1)) n) (W (i + 1)) else none
    else nR n := by kernel_rfl
end
theorem W_in {n : Int} (h : -9223372036854775808 ≤ n ∧ n ≤ 9223372036854775807) : W n = n := IntWalk.i64_in _ h
theorem div_nat (n : Nat) : ((n : Int).tdiv 100) = ((n / 100 : Nat) : Int) := by
  rw [Int.tdiv_eq_ediv_of_nonneg (by omega)]; omega
theorem largeO_nrm (k : Nat) (d : Dat) (nest ahead : Int) : largeO k (nrm d) nest ahead = largeO k d nest ahead := by cases k <;> rfl
theorem keysN_bd : ∀ (ks : List Dat) (n : Int), (∀ d ∈ ks, (d.at 0).toS.size ≤ 140737488355328) → n ≤ keysN ks n ∧ keysN ks n ≤ n + ks.length * 1407374883553
  | [], n, _ => by simp [keysN]
  | d :: ks, n, h => by
    have h0 := h d (by simp)
    have ih := keysN_bd ks (n + ((d.at 0).toS.size : Int).tdiv 100) fun e he => h e (by simp [he])
    rw [div_nat] at ih
    show _ ≤ keysN ks (n + ((d.at 0).toS.size : Int).tdiv 100) ∧ keysN ks (n + ((d.at 0).toS.size : Int).tdiv 100) ≤ _
    rw [div_nat, List.length_cons]
    omega
theorem itemsN_bd {f : Dat → Int → Int} {M : Int} : ∀ (l : List Dat) (n : Int), (∀ d ∈ l, ∀ n, 0 ≤ n → n ≤ M → -1 ≤ f d n ∧ f d n ≤ M) → -1 ≤ n → n ≤ M → -1 ≤ itemsN f l n ∧ itemsN f l n ≤ M
  | [], n, _, h1, h2 => ⟨h1, h2⟩
  | d :: l, n, hf, h1, h2 => by
    show -1 ≤ (bif decide (n ≥ 0) then itemsN f l (f d n) else n) ∧ (bif decide (n ≥ 0) then itemsN f l (f d n) else n) ≤ M
    by_cases h : n ≥ 0
    · rw [decide_eq_true h]
      have := hf d (by simp) n h h2
      exact itemsN_bd l _ (fun e he => hf e (by simp [he])) this.1 this.2
    · rw [decide_eq_false h]; exact ⟨h1, h2⟩
theorem headN_eq (s : ByteArray) (ks l : List Dat) (ahead : Int) : headN s ks l ahead = ahead + 1 + ks.length + l.length + ((s.size / 100 : Nat) : Int) := by unfold headN; rw [div_nat]
theorem largeO_bd : ∀ (k : Nat) (d : Dat) (nest ahead : Int), 0 ≤ ahead → fitZ k (d.at 3).toS (d.at 4).toL (d.at 5).toL → -1 ≤ largeO k d nest ahead ∧ largeO k d nest ahead ≤ 4503599627370496
  | 0, d, nest, ahead, _, _ => by simp [largeO]
  | k + 1, d, nest, ahead, h0, hz => by
    obtain ⟨z1, z2, z3, z4, z5⟩ := hz
    unfold largeO
    cases hc : decide (headN (d.at 3).toS (d.at 4).toL (d.at 5).toL ahead > 2000) || decide (nest > 100)
    · rw [Bool.or_eq_false_iff] at hc
      have h1 := of_decide_eq_false hc.1
      rw [headN_eq] at h1
      have hk := keysN_bd (d.at 4).toL (headN (d.at 3).toS (d.at 4).toL (d.at 5).toL ahead) z4
      rw [headN_eq] at hk
      simp only [cond_false]
      rw [headN_eq]
      exact itemsN_bd _ _ (fun e he n hn _ => largeO_bd k e (nest + 1) n hn (z5 e he)) (by omega) (by omega)
    · exact ⟨by simp, by simp⟩
theorem large_loop2 {ext : CallF} {k m : Nat} {k1 n1 : Int} {b1 : Bool} {s1 : ByteArray} {ks1 l1 : List Dat} {nest : Int} (h1 : 102 ≤ k + (nest + 1)) (h2 : 0 ≤ nest) (h3 : nest ≤ 100) (hl : l1.length ≤ 2000) (hz : ∀ d ∈ l1, fitZ k (d.at 3).toS (d.at 4).toL (d.at 5).toL) :
    ∀ (q i r : Nat) (n : Int), i + q = l1.length → q < r → -1 ≤ n → n ≤ 4503599627370496 → largeL2 (largeC k ext) m r k1 n1 b1 s1 ks1 l1 nest n (i : Int) = nR (itemsN (fun e n => largeO k e (nest + 1) n) (l1.drop i) n) := by
  intro q
  induction q with
  | zero =>
    intro i r n hi hr hn1 hn2
    cases r with
    | zero => omega
    | succ r =>
      rw [large_2, andK_eq, show decide ((i : Int) < l1.length) = false from decide_eq_false (by omega), List.drop_eq_nil_of_le (by omega)]
      rfl
  | succ q ih =>
    intro i r n hi hr hn1 hn2
    cases r with
    | zero => omega
    | succ r =>
      have hlt : i < l1.length := by omega
      rw [large_2, andK_eq, show decide ((i : Int) < l1.length) = true from decide_eq_true (by omega), idx_at hlt, List.drop_eq_getElem_cons hlt, W_in (n := (i : Int) + 1) (by omega), W_in (n := nest + 1) (by omega), Bool.true_and]
      show _ = nR (bif decide (n ≥ 0) then itemsN (fun e n => largeO k e (nest + 1) n) (l1.drop (i + 1)) (largeO k l1[i] (nest + 1) n) else n)
      by_cases hn : n ≥ 0
      · have hd := hz _ (List.getElem_mem hlt)
        have hb := largeO_bd k l1[i] (nest + 1) n hn hd
        have ih := ih (i + 1) r (largeO k l1[i] (nest + 1) n) (by omega) (by omega) hb.1 hb.2
        rw [show ((i + 1 : Nat) : Int) = (i : Int) + 1 by omega] at ih
        have hzb : zB k (l1[i].at 3).toS (l1[i].at 4).toL (l1[i].at 5).toL (nest + 1) n = true := decP_eq ⟨h1, by omega, by omega, hn, by omega, hd⟩
        rw [decide_eq_true hn, cond_true, Option.bind_some, hzb, cond_true, largeO_nrm, ih]
        rfl
      · rw [decide_eq_false hn]; rfl
theorem large_loop1 {ext : CallF} {k m : Nat} {k1 n1 : Int} {b1 : Bool} {s1 : ByteArray} {ks1 l1 : List Dat} {nest : Int} (h1 : 102 ≤ k + (nest + 1)) (h2 : 0 ≤ nest) (h3 : nest ≤ 100) (hl : l1.length ≤ 2000) (hlk : ks1.length ≤ 2000) (hz : ∀ d ∈ l1, fitZ k (d.at 3).toS (d.at 4).toL (d.at 5).toL) (hzk : ∀ d ∈ ks1, (d.at 0).toS.size ≤ 140737488355328) (hm : 2000 < m) :
    ∀ (q i r : Nat) (n : Int), i + q = ks1.length → q < r → 0 ≤ n → n ≤ 2000 + i * 1407374883553 → largeL1 (largeC k ext) m r k1 n1 b1 s1 ks1 l1 nest n (i : Int) = nR (itemsN (fun e n => largeO k e (nest + 1) n) l1 (keysN (ks1.drop i) n)) := by
  intro q
  induction q with
  | zero =>
    intro i r n hi hr hn1 hn2
    cases r with
    | zero => omega
    | succ r =>
      have e := large_loop2 (ext := ext) (m := m) (k1 := k1) (n1 := n1) (b1 := b1) (s1 := s1) (ks1 := ks1) h1 h2 h3 hl hz l1.length 0 m n (by omega) (by omega) (by omega) (by omega)
      rw [List.drop_zero, show ((0 : Nat) : Int) = 0 from rfl] at e
      rw [large_1, e, show decide ((i : Int) < ks1.length) = false from decide_eq_false (by omega), List.drop_eq_nil_of_le (by omega)]
      rfl
  | succ q ih =>
    intro i r n hi hr hn1 hn2
    cases r with
    | zero => omega
    | succ r =>
      have hlt : i < ks1.length := by omega
      have hd := hzk _ (List.getElem_mem hlt)
      have ih := ih (i + 1) r (n + ((ks1[i].at 0).toS.size : Int).tdiv 100) (by omega) (by omega) (by rw [div_nat]; omega) (by rw [div_nat]; omega)
      rw [show ((i + 1 : Nat) : Int) = (i : Int) + 1 by omega] at ih
      have e := large_loop2 (ext := ext) (m := m) (k1 := k1) (n1 := n1) (b1 := b1) (s1 := s1) (ks1 := ks1) h1 h2 h3 hl hz l1.length 0 m n (by omega) (by omega) (by omega) (by omega)
      rw [List.drop_zero, show ((0 : Nat) : Int) = 0 from rfl] at e
      rw [large_1, e, show decide ((i : Int) < ks1.length) = true from decide_eq_true (by omega), idx_at hlt, List.drop_eq_getElem_cons hlt, cond_true, Option.bind_some]
      have w1 : W (((ks1[i].at 0).toS.size : Int).tdiv 100) = ((ks1[i].at 0).toS.size : Int).tdiv 100 := W_in (by rw [div_nat]; omega)
      have w2 : W (n + ((ks1[i].at 0).toS.size : Int).tdiv 100) = n + ((ks1[i].at 0).toS.size : Int).tdiv 100 := W_in (by rw [div_nat]; omega)
      rw [w1, w2, W_in (n := (i : Int) + 1) (by omega), ih]
      rfl
theorem large_run {ext : CallF} {k m : Nat} {k1 n1 : Int} {b1 : Bool} {s1 : ByteArray} {ks1 l1 : List Dat} {nest ahead : Int} (h : okZ (k + 1) s1 ks1 l1 nest ahead) (hm : 2000 < m) :
    evFn PR TK (largeC k ext) m 19 [.agg (obA k1 n1 b1 s1 ks1 l1), I nest, I ahead] [none, none, none] = nR (largeO (k + 1) (mkO k1 n1 b1 s1 ks1 l1) nest ahead) := by
  obtain ⟨h1, h2, h3, h4, h5, z1, z2, z3, z4, z5⟩ := h
  rw [large_0, orK_eq]
  have w0 := div_nat s1.size
  rw [W_in (n := (s1.size : Int).tdiv 100) (by omega), W_in (n := ahead + 1) (by omega), W_in (n := ahead + 1 + ks1.length) (by omega), W_in (n := ahead + 1 + ks1.length + l1.length) (by omega), W_in (n := ahead + 1 + ks1.length + l1.length + (s1.size : Int).tdiv 100) (by omega)]
  show _ = nR (bif decide (headN s1 ks1 l1 ahead > 2000) || decide (nest > 100) then -1 else itemsN (fun e n => largeO k e (nest + 1) n) l1 (keysN ks1 (headN s1 ks1 l1 ahead)))
  change (bif decide (headN s1 ks1 l1 ahead > 2000) || decide (nest > 100) then nR (-1) else largeL1 _ _ _ _ _ _ _ _ _ _ (headN s1 ks1 l1 ahead) 0) = _
  cases hc : decide (headN s1 ks1 l1 ahead > 2000) || decide (nest > 100)
  · rw [Bool.or_eq_false_iff] at hc
    have c1 := of_decide_eq_false hc.1
    have c2 := of_decide_eq_false hc.2
    rw [headN_eq] at c1
    have e := large_loop1 (ext := ext) (k := k) (m := m) (k1 := k1) (n1 := n1) (b1 := b1) (s1 := s1) (ks1 := ks1) (l1 := l1) (nest := nest) (by push_cast at h1; omega) h2 (by omega) (by omega) (by omega) z5 z4 hm ks1.length 0 m (headN s1 ks1 l1 ahead) (by omega) (by omega) (by rw [headN_eq]; omega) (by rw [headN_eq]; omega)
    rw [List.drop_zero, show ((0 : Nat) : Int) = 0 from rfl] at e
    rw [cond_false, cond_false, e]
  · rfl
theorem large_sound {ext : CallF} (hext : SoundCall PR ext) : ∀ k, SoundCall PR (largeC k ext) := by
  refine sound_rec (takes := TK) hmixP hext _ (fn := (PR.funcs[19]?).getD default) (by kernel_rfl) (by kernel_rfl) largeE (fun xs bs out h => ?_) (fun k xs bs out h => ?_)
  · unfold largeE at h
    split at h
    · injection h with h
      injection h with h _
      obtain ⟨h1, h2, h3, _⟩ := decP_of h
      simp at h1
      omega
    · cases h
  · unfold largeE at h
    split at h
    · injection h with h
      injection h with h1 h2
      subst h2
      exact ⟨2001, large_run (decP_of h1) (by omega)⟩
    · cases h
end Go.Proofs.YtckdgcpomkefpaaDoor.En
end
section
set_option linter.unusedVariables false
set_option linter.unusedSimpArgs false
namespace Go.Proofs.YtckdgcpomkefpaaDoor.En
open Go
section
variable (P : Program) (takes : FuncId → Option Nat) (call : CallF)
end
section
variable {P : Program} {F : Fx} {g g' : Gh} {s s' : St} {a a' : Act} {w w' : World} {takes : FuncId → Option Nat} {call : CallF}
theorem Inv.still (h : Inv P F g s a w) (hw : Fr (fun _ _ => False) w w') : Inv P F g s a w' := by
  have hle : g.Le g w w' := ⟨fun β j hj => ⟨hj, hw.cell (h.mem.gsz β j hj) fun t => t⟩, fun n v hv => hv, fun d β hd => hd⟩
  have same : ∀ β, β < w.heap.size → w'.heap[β]? = w.heap[β]? := fun β hβ => hw.same hβ fun _ t => t
  refine ⟨⟨fun β j hj => Nat.lt_of_lt_of_le (h.mem.gsz β j hj) hw.size, fun d cs hd => ?_, h.mem.apart, fun n v E hn => ?_, h.mem.tkap, h.mem.tkbx⟩, h.blen, h.len, fun i x hi => ?_, h.dfr, h.fr.trans hw (fun _ _ _ t => t) (fun _ _ _ t => t.elim), h.g0, h.gfr, h.tb, h.bb, h.pbx⟩
  · obtain ⟨β, us, T, e1, e2, e3, e4, e5⟩ := h.mem.box d cs hd
    have hlt := (Array.getElem?_eq_some_iff.1 e2).1
    exact ⟨β, us, T, e1, (same β hlt).trans e2, e3, e4, fun j c hc => let ⟨u, hu, hr⟩ := e5 j c hc; ⟨u, hu, hr.mono hle⟩⟩
  · exact (h.mem.own n v E hn).keep fun β hβ => ⟨same β ((h.mem.own n v E hn).lt hβ), fun j hj => hj⟩
  · obtain ⟨v, h1, h2⟩ := h.tm i x hi
    exact ⟨v, h1, h2.mono hle⟩
end
end Go.Proofs.YtckdgcpomkefpaaDoor.En
end
section
set_option linter.unusedVariables false
set_option linter.unusedSimpArgs false
namespace Go.Proofs.YtckdgcpomkefpaaDoor.En
open Go Go.Shelf Go.RowKit
section
variable {P : Program} {ext call : CallF} {g g' : Gh} {w w' : World} {b bs : Bx}
theorem sound_ext (hext : SoundCall P ext) (f : FuncId) {fn : Func} (hf : P.funcs[f]? = some fn) (hok : (fn.body.isSome && !(fn.name == "runtime.NumGoroutine")) = true) (ent : List AV → Bx → Option (Bool × Out))
    (h : ∀ xs bs out, ent xs bs = some (true, out) → ∀ (g : Gh) (w : World) (vs : Array Value), Mem P g w bs → Laid g w → bs.length = xs.length → vs.size = xs.length →
      (∀ (i : Nat) x, xs[i]? = some x → ∃ v, vs[i]? = some v ∧ RepS P g w x v) → Calls P f vs w (PostOf P g w bs out)) : SoundCall P (addF f ent ext) := fun k xs bs out ho => by
  unfold addF at ho
  cases hg : Nat.beq k f <;> rw [hg] at ho <;> simp only [cond_true, cond_false] at ho
  · exact hext k xs bs out ho
  · have e : k = f := Nat.eq_of_beq_eq_true hg
    subst e
    rw [Bool.and_eq_true, Bool.not_eq_true'] at hok
    refine ⟨⟨fn, hf, hok.1, hok.2⟩, fun gh w vs a1 aL a2 a3 a4 => ?_⟩
    have := h xs bs out ho gh w vs a1 aL a2 a3 a4
    cases out <;> exact this
theorem args_v (l : List Value) {vs : Array Value} (hv : vs.size = (l.map AV.v).length) (hr : ∀ (i : Nat) x, (l.map AV.v)[i]? = some x → ∃ v, vs[i]? = some v ∧ RepS P g w x v) : vs = l.toArray := by
  apply Array.ext_getElem?
  intro i
  cases hi : l[i]? with
  | none =>
    have : l.length ≤ i := List.getElem?_eq_none_iff.1 hi
    rw [Array.getElem?_eq_none (by simp at hv; omega), Array.getElem?_eq_none (by simpa using this)]
  | some x =>
    obtain ⟨v, h1, h2⟩ := hr i (.v x) (by rw [List.getElem?_map, hi]; rfl)
    obtain ⟨rfl, _⟩ := (show v = x ∧ _ from h2)
    rw [h1]; simp [hi]
theorem Mem.still (h : Mem P g w b) (hw : Fr (fun _ _ => False) w w') : Mem P g w' b := by
  have hle : g.Le g w w' := ⟨fun β j hj => ⟨hj, hw.cell (h.gsz β j hj) fun t => t⟩, fun n v hv => hv, fun d β hd => hd⟩
  have same : ∀ β, β < w.heap.size → w'.heap[β]? = w.heap[β]? := fun β hβ => hw.same hβ fun _ t => t
  refine ⟨fun β j hj => Nat.lt_of_lt_of_le (h.gsz β j hj) hw.size, fun d cs hd => ?_, h.apart, fun n v E hn => ?_, h.tkap, h.tkbx⟩
  · obtain ⟨β, us, T, e1, e2, e3, e4, e5⟩ := h.box d cs hd
    have hlt := (Array.getElem?_eq_some_iff.1 e2).1
    exact ⟨β, us, T, e1, (same β hlt).trans e2, e3, e4, fun j c hc => let ⟨u, hu, hr⟩ := e5 j c hc; ⟨u, hu, hr.mono hle⟩⟩
  · exact (h.own n v E hn).keep fun β hβ => ⟨same β ((h.own n v E hn).lt hβ), fun j hj => hj⟩
theorem post_v (hm : Mem P g w bs) (hb : ∀ x ∈ bs, x = none) {x : Value} (hx : x.oneCell' = true) (hw : Fr (fun _ _ => False) w w') : PostOf P g w bs (.ret (.v x) bs) (.returned x) w' := by
  have hn : ∀ (d : Nat) cs, bs[d]? = some (some cs) → False := fun d cs h => by have := hb _ (List.mem_of_getElem? h); cases this
  exact ⟨x, g, rfl, hm.still hw, rfl, fun i cs h => ⟨cs, h⟩, ⟨rfl, hx⟩, hw.mono fun _ _ _ t => t.elim, fun _ _ h => h, fun β j h _ => .inl h, fun n y E β h1 h2 => .inr ⟨n, y, E, h1, h2⟩, fun i cs h => rfl, fun i j m cs E l h => (hn i cs h).elim, trivial, trivial⟩
end
def ixE : List AV → Bx → Option (Bool × Out)
  | [.v (.string s), .v (.int .u8 c)], [none, none] => some (true, .ret (I (Lib.indexByte s.data.toList c.toNat.toUInt8)) [none, none])
  | _, _ => none
theorem ix_sound {ext : CallF} (hext : SoundCall PR ext) : SoundCall PR (addF 55 ixE ext) := by
  refine sound_ext hext _ (fn := (PR.funcs[55]?).getD default) (by kernel_rfl) (by kernel_rfl) ixE fun xs bs out h g w vs hm hL hl hv hr => ?_
  unfold ixE at h
  split at h
  · rename_i s c
    cases h
    obtain rfl := args_v (P := PR) [.string s, .int .u8 c] hv hr
    refine (Tryd.strings_IndexByte s c w).mono fun e w' he => ?_
    obtain ⟨rfl, rfl⟩ := he
    exact post_v hm (by simp) rfl (Fr.refl _ _)
  · cases h
def digF : Nat → Nat → List UInt8
  | 0, _ => []
  | k + 1, u => bif Nat.blt u 10 then [UInt8.ofNat (48 + u)] else digF k (u / 10) ++ [UInt8.ofNat (48 + u % 10)]
theorem digF_eq : ∀ (k u : Nat), u < 10 ^ (k + 1) → digF (k + 1) u = Lib.decDigits u
  | k, u, h => by
    rw [Lib.decDigits]
    unfold digF
    cases hb : Nat.blt u 10
    · have : ¬ u < 10 := fun e => by have : Nat.blt u 10 = true := Nat.ble_eq_true_of_le e; rw [hb] at this; cases this
      rw [dif_neg this]
      cases k with
      | zero => omega
      | succ k => rw [← digF_eq k (u / 10) (by rw [Nat.pow_succ] at h; omega)]; rfl
    · have : u < 10 := Nat.le_of_ble_eq_true hb
      rw [dif_pos this]; rfl
def itoaF (n : Int) : List UInt8 := bif decide (n < 0) then 45 :: digF 20 n.natAbs else digF 20 n.toNat
def itoaE : List AV → Bx → Option (Bool × Out)
  | [.v (.int .i64 n)], [none] => some (decide (-9223372036854775808 ≤ n) && decide (n ≤ 9223372036854775807), .ret (S ⟨(itoaF n).toArray⟩) [none])
  | _, _ => none
theorem itoaF_eq {n : Int} (h0 : -9223372036854775808 ≤ n) (h1 : n ≤ 9223372036854775807) : itoaF n = Lib.itoa n := by
  unfold itoaF Lib.itoa
  by_cases h : n < 0
  · rw [if_pos h, decide_eq_true h, digF_eq 19 n.natAbs (by omega)]; rfl
  · rw [if_neg h, decide_eq_false h, digF_eq 19 n.toNat (by omega)]; rfl
theorem itoa_sound {ext : CallF} (hext : SoundCall PR ext) : SoundCall PR (addF 24 itoaE ext) := by
  refine sound_ext hext _ (fn := (PR.funcs[24]?).getD default) (by kernel_rfl) (by kernel_rfl) itoaE fun xs bs out h g w vs hm hL hl hv hr => ?_
  unfold itoaE at h
  split at h
  · rename_i n
    injection h with h
    injection h with hc h
    subst h
    rw [Bool.and_eq_true, decide_eq_true_eq, decide_eq_true_eq] at hc
    obtain rfl := args_v (P := PR) [.int .i64 n] hv hr
    rw [itoaF_eq hc.1 hc.2]
    refine (Tryd.strconv_Itoa n hc.1 hc.2 w hL.P.pow).mono fun e w' he => ?_
    obtain ⟨rfl, k, os, rfl⟩ := he
    refine post_v hm (by simp) rfl (Fr.of_below (B := w.heap.size) ⟨rfl, rfl, rfl, by show w.heap.size ≤ (w.heap ++ os).size; simp, fun i hi => ?_⟩ (Nat.le_refl _))
    show (w.heap ++ os)[i]? = w.heap[i]?
    rw [Array.getElem?_append_left hi]
  · cases h
def tokOk : Option Nat → Bool | none => true | some m => Nat.beq m (sub 0 1)
theorem tokOk_eq {t : Option Nat} (h : tokOk t = true) {m : Nat} (e : t = some m) : m = sub 0 1 := by
  subst e
  exact Nat.eq_of_beq_eq_true h
def ccE : List AV → Bx → Option (Bool × Out)
  | [.box 0 0], [some [.self T, .row t E l]] => bif Nat.beq T 68 && tokOk t then some (true, .ret (.tup []) [some [.self T, .row t E l]]) else none
  | _, _ => none
theorem one_box {P : Program} {g : Gh} {w : World} {cs : List AV} (hm : Mem P g w [some cs]) {vs : Array Value} (hv : vs.size = 1) (hr : ∀ (i : Nat) x, [AV.box 0 0][i]? = some x → ∃ v, vs[i]? = some v ∧ RepS P g w x v) :
    ∃ (β : Nat) (us : Array Value) (T : TypeId), g.bx 0 = some β ∧ vs = #[.pointer (some ⟨β, 0, none⟩)] ∧ w.heap[β]? = some (.cells us T (0, 0)) ∧ us.size = cs.length ∧ (∀ j, ¬ g.G β j) ∧ ∀ (j : Nat) c, cs[j]? = some c → ∃ u, us[j]? = some u ∧ RepB P g w T β j c u := by
  obtain ⟨β, us, T, e1, e2, e3, e4, e5⟩ := hm.box 0 cs rfl
  refine ⟨β, us, T, e1, ?_, e2, e3, e4, e5⟩
  obtain ⟨v, h1, h2⟩ := hr 0 _ rfl
  obtain ⟨β', h3, rfl⟩ := (show ∃ β, g.bx 0 = some β ∧ v = .pointer (some ⟨β, 0, none⟩) from h2)
  rw [e1] at h3
  cases h3
  apply Array.ext_getElem?
  intro i
  match i with
  | 0 => exact h1
  | i + 1 => rw [Array.getElem?_eq_none (by omega), Array.getElem?_eq_none (by simp)]
theorem cc_sound {ext : CallF} (hext : SoundCall PR ext) : SoundCall PR (addF 56 ccE ext) := by
  refine sound_ext hext _ (fn := (PR.funcs[56]?).getD default) (by kernel_rfl) (by kernel_rfl) ccE fun xs bs out h g w vs hm hL hl hv hr => ?_
  unfold ccE at h
  split at h
  · rename_i T t E l
    obtain ⟨hc, h⟩ := bif_some h
    cases h
    rw [Bool.and_eq_true] at hc
    obtain ⟨β, us, T', e1, rfl, e2, e3, e4, e5⟩ := one_box hm hv hr
    obtain ⟨u0, hu0, hT, hs⟩ := e5 0 _ rfl
    obtain ⟨u1, hu1, hrow⟩ := e5 1 _ rfl
    have hT' : T' = 68 := by rw [← hT]; exact Nat.eq_of_beq_eq_true hc.1
    subst hT'
    have hcell : w.cell? ⟨β, 0, none⟩ = some u0 := by simp [World.cell?, e2, hu0]
    have canon : ∀ (i j m : Nat) cs E' l', [some [AV.self T, .row t E l]][i]? = some (some cs) → cs[j]? = some (.row (some m) E' l') → m = sub i j := fun i j m cs E' l' hi hj => by
      match i, hi with
      | 0, hi =>
        cases hi
        match j, hj with
        | 0, hj => cases hj
        | 1, hj => cases hj; exact tokOk_eq hc.2 rfl
    rcases hs with rfl | rfl
    · refine (Any.Builder_copyCheck_fresh (ρ := Tryd.laysB_ren) { Tryd.laysB with } Tryd.Builder_Extra_B.toX72 β w hcell (by show w.shape? β = some (68, 2); simp [World.shape?, e2, e3]) (by simp [World.frozen?, e2])).mono fun e w' he => ?_
      obtain ⟨rfl, rfl⟩ := he
      have hβ := (Array.getElem?_eq_some_iff.1 e2).1
      have hnew : (w.setCell ⟨β, 0, none⟩ (.pointer (some ⟨β, 0, none⟩))).heap[β]? = some (.cells (us.setIfInBounds 0 (.pointer (some ⟨β, 0, none⟩))) 68 (0, 0)) := by
        simp [World.setCell, Array.getElem?_modify, e2]
      have hold : ∀ k, k ≠ β → (w.setCell ⟨β, 0, none⟩ (.pointer (some ⟨β, 0, none⟩))).heap[k]? = w.heap[k]? := fun k hk => by
        simp only [World.setCell, Array.getElem?_modify]
        rw [if_neg (fun e => hk e.symm)]
      have hle : g.Le g w (w.setCell ⟨β, 0, none⟩ (.pointer (some ⟨β, 0, none⟩))) := ⟨fun k j hj => ⟨hj, World.cell?_of_block (a := ⟨k, j, none⟩) (hold k fun e => e4 j (e ▸ hj))⟩, fun n v hv => hv, fun d k hd => hd⟩
      refine ⟨_, g, rfl, ⟨fun k j hj => ?_, fun d cs hd => ?_, hm.apart, fun n v E' hn => ?_, hm.tkap, hm.tkbx⟩, rfl, fun i cs h => ⟨cs, h⟩, ?_, ⟨rfl, rfl, rfl, ?_, fun k o ho => ?_⟩, fun _ _ h => h, fun k j h _ => .inl h, fun n y E' k h1 h2 => .inr ⟨n, y, E', h1, h2⟩, fun i cs h => rfl, canon, ?_, fun j m E l h => by simp at h⟩
      · have := hm.gsz k j hj; simpa [World.setCell] using this
      · match d, hd with
        | 0, hd =>
          cases hd
          refine ⟨β, _, _, e1, hnew, by simpa using e3, e4, fun j c hj => ?_⟩
          match j, hj with
          | 0, hj => cases hj; exact ⟨.pointer (some ⟨β, 0, none⟩), by simp [Array.getElem?_setIfInBounds, e3], hT, .inr rfl⟩
          | 1, hj => cases hj; exact ⟨u1, by simpa [Array.getElem?_setIfInBounds] using hu1, hrow.mono hle⟩
      · exact (hm.own n v E' hn).keep fun k hk => ⟨hold k fun e => hm.tkbx n v E' k 0 _ hn hk rfl (e ▸ e1), fun j hj => hj⟩
      · exact ⟨#[], rfl, rfl, fun j x hj => by simp at hj⟩
      · simp [World.setCell]
      · by_cases hk : k = β
        · subst hk
          rw [e2] at ho
          cases ho
          exact .inr ⟨us, _, (0, 0), _, (0, 0), rfl, hnew, by simp, fun j hj => absurd (.inl ⟨0, _, rfl, e1⟩) hj, fun _ => rfl⟩
        · exact .inl ((hold k hk).trans ho)
      · exact ⟨fun j d o => by simp, fun j f a b => by simp, fun j cs h => by simp at h, fun j j' m E l E' l' h => by simp at h⟩
    · refine (Any.Builder_copyCheck_used (ρ := Tryd.laysB_ren) { Tryd.laysB with } Tryd.Builder_Extra_B.toX72 β w hcell).mono fun e w' he => ?_
      obtain ⟨rfl, rfl⟩ := he
      refine ⟨_, g, rfl, hm, rfl, fun i cs h => ⟨cs, h⟩, ⟨#[], rfl, rfl, fun j x hj => by simp at hj⟩, (Fr.refl _ _), fun _ _ h => h, fun k j h _ => .inl h, fun n y E' k h1 h2 => .inr ⟨n, y, E', h1, h2⟩, fun i cs h => rfl, canon, ?_, fun j m E l h => by simp at h⟩
      exact ⟨fun j d o => by simp, fun j f a b => by simp, fun j cs h => by simp at h, fun j j' m E l E' l' h => by simp at h⟩
  · cases h
set_option maxHeartbeats 1000000 in
theorem str_walk {P : Program} {ρ : Ren} (L : Lays.n169 P ρ) (X : Builder.Extra P ρ) (b g cap : Nat) (cur : Array Value) (l : List UInt8) (h0 : l ≠ []) (w : World) (hb : w.cell? ⟨b, 1, none⟩ = some (.slice (some ⟨g, 0, none⟩) l.length cap)) (hcap : l.length ≤ cap) {fz : Nat × Nat} (hg : w.heap[g]? = some (.cells cur (ρ.t 5) fz))
    (hsz : l.length ≤ cur.size) (h63 : l.length ≤ 9223372036854775807) (hcell : ∀ (j : Nat) x, l[j]? = some x → w.cell? ⟨g, j, none⟩ = some (.int .u8 x.toNat)) :
    Calls P (ρ.f 169) #[.pointer (some ⟨b, 0, none⟩)] w fun e w' => e = .returned (.string ⟨l.toArray⟩) ∧ w' = w.drew.freeze ⟨g, 0, none⟩ l.length := by
  have hl0 : l.length ≠ 0 := by simpa using h0
  have c1 : w.drew.cell? ⟨b, 1, none⟩ = some (.slice (some ⟨g, 0, none⟩) l.length cap) := hb
  have hSD : (Builtin.unsafeSliceData_ #[(ρ.t 37)] (ρ.t 127) #[.slice (some ⟨g, 0, none⟩) l.length cap]).run P w.drew = .ok (.pointer (some ⟨g, 0, none⟩)) w.drew :=
    Lib.run_unsafeSliceData_row _ _ _ _ _ _ (by omega)
  have hUS : (Builtin.unsafeString_ #[(ρ.t 127), (ρ.t 3)] (ρ.t 9) #[.pointer (some ⟨g, 0, none⟩), .int .i64 l.length]).run P w.drew = .ok (.string ⟨l.toArray⟩) (w.drew.freeze ⟨g, 0, none⟩ l.length) := by
    refine Lib.run_unsafeString_row w.drew (ρ.t 127) (ρ.t 3) (ρ.t 9) (ρ.t 5) L.t127 X.cellsByte g cur.size (by have hg' : w.drew.heap[g]? = some (.cells cur (ρ.t 5) fz) := hg; simp [World.shape?, hg']) l h0 hsz h63 ?_
    intro j x hx
    have e : (⟨g, 0, none⟩ : Addr).add j = ⟨g, j, none⟩ := by
      by_cases hj : j = 0
      · subst hj; simp [Addr.add]
      · simp [Addr.add, hj]
    rw [e]
    exact hcell j x hx
  clear hcap hb hcell h63 hsz
  have mixed := L.mixed
  have t72 := L.t72; have a72 := L.a72; have z72 := L.z72; have v72 := L.v72; have u72 := run_underlying L.t72
  have t70 := L.t70; have a70 := L.a70; have z70 := L.z70; have v70 := L.v70; have u70 := run_underlying L.t70
  have t37 := L.t37; have a37 := L.a37; have z37 := L.z37; have v37 := L.v37; have u37 := run_underlying L.t37
  have t127 := L.t127; have a127 := L.a127; have z127 := L.z127; have v127 := L.v127; have u127 := run_underlying L.t127
  have t3 := L.t3; have a3 := L.a3; have z3 := L.z3; have v3 := L.v3; have u3 := run_underlying L.t3
  have t9 := L.t9; have a9 := L.a9; have z9 := L.z9; have v9 := L.v9; have u9 := run_underlying L.t9
  have t5 := X.t5; have a5 := X.a5; have z5 := X.z5; have v5 := X.v5; have u5 := run_underlying X.t5
  go_enter L.f169, Body.n169_ntmps ρ
  go_wp2
  go_region_o
  all_goals (go_wp2; go_ret; exact ⟨rfl, rfl⟩)
def bytesOk (l : List Dat) : Bool := l.all fun d => decide (0 ≤ (d.at 0).toI) && decide ((d.at 0).toI < 256)
def strE : List AV → Bx → Option (Bool × Out)
  | [.box 0 0], [some [.self T, .row (some m) E l]] => bif Nat.beq m (sub 0 1) && Nat.beq E 5 then some (bytesOk l && (Nat.blt 0 l.length && Nat.ble l.length 9223372036854775807), .ret (S (bytesOf l)) [some [.self T, .row none E l]]) else none
  | _, _ => none
theorem kinds_u8 : kinds PR 5 = some [.int .u8] := by kernel_rfl
theorem str_sound {ext : CallF} (hext : SoundCall PR ext) : SoundCall PR (addF 36 strE ext) := by
  refine sound_ext hext _ (fn := (PR.funcs[36]?).getD default) (by kernel_rfl) (by kernel_rfl) strE fun xs bs out h g w vs hm hL hl hv hr => ?_
  unfold strE at h
  split at h
  · rename_i T m E l
    obtain ⟨hc, h⟩ := bif_some h
    injection h with h
    injection h with hd h
    subst h
    rw [Bool.and_eq_true] at hc
    have hm1 := Nat.eq_of_beq_eq_true hc.1
    have hE := Nat.eq_of_beq_eq_true hc.2
    subst hm1 hE
    simp only [Bool.and_eq_true] at hd
    obtain ⟨hby, hpos, h63⟩ := hd
    have hpos : 0 < l.length := Nat.le_of_ble_eq_true hpos
    have h63 : l.length ≤ 9223372036854775807 := Nat.le_of_ble_eq_true h63
    obtain ⟨β, us, T', e1, rfl, e2, e3, e4, e5⟩ := one_box hm hv hr
    obtain ⟨u0, hu0, hself⟩ := e5 0 _ rfl
    obtain ⟨u1, hu1, hrow, htk⟩ := e5 1 _ rfl
    have htok := htk _ rfl
    have hcell : w.cell? ⟨β, 1, none⟩ = some u1 := by simp [World.cell?, e2, hu1]
    obtain ⟨A, cap0, hsl⟩ := hrow.slice
    rcases hm.own _ _ _ htok with hn | ⟨β2, n, cap, cur, ks, fz, hv2, hblk, hks, hncap, hcm, hcur, hfree, _⟩
    · rw [hn] at hsl
      injection hsl with _ hz _
      omega
    rw [kinds_u8] at hks
    cases hks
    have hne : β2 ≠ β := fun e => hm.tkbx _ _ _ β 0 _ htok (by rw [hv2, e]; rfl) rfl e1
    have hnl : n = l.length := by rw [hv2] at hsl; injection hsl with _ hz _
    subst hnl
    let bl : List UInt8 := l.map fun d => UInt8.ofNat (d.at 0).toI.toNat
    have hbl : bl.length = l.length := by simp [bl]
    have hcells : ∀ (j : Nat) x, bl[j]? = some x → w.cell? ⟨β2, j, none⟩ = some (.int .u8 x.toNat) := fun j x hx => by
      obtain ⟨d, hd, rfl⟩ := Option.map_eq_some_iff.1 ((List.getElem?_map ..).symm.trans hx)
      have hjl := (List.getElem?_eq_some_iff.1 hd).1
      rw [hv2] at hrow
      cases hrow with
      | nil => simp at hjl
      | mk _ _ _ off cap' ks vals hk hlen hcc hss hrr =>
        rw [kinds_u8] at hk
        cases hk
        obtain ⟨c1, c2, c3⟩ := hcc j 0 hjl (by simp)
        have hsc := hss j 0 d (.int .u8) hd rfl
        have : vals j 0 = .int .u8 (d.at 0).toI := hsc
        rw [this] at c2
        have hb := List.all_eq_true.1 hby d (List.mem_of_getElem? hd)
        rw [Bool.and_eq_true, decide_eq_true_eq, decide_eq_true_eq] at hb
        have e : ((UInt8.ofNat (d.at 0).toI.toNat).toNat : Int) = (d.at 0).toI := by
          rw [UInt8.toNat_ofNat_of_lt' (by show (d.at 0).toI.toNat < 256; omega)]
          omega
        rw [e]
        simpa using c2
    have hw := str_walk Tryd.lays169 Tryd.Builder_Extra_169 β β2 cap cur bl (by intro e; rw [e] at hbl; simp at hbl; omega) w (by rw [hcell, hv2, hbl]) (by omega) hblk (by rw [hbl]; simp at hcur; omega) (by omega) hcells
    refine hw.mono fun e w' he => ?_
    obtain ⟨rfl, rfl⟩ := he
    have hheap : ∀ k, (w.drew.freeze ⟨β2, 0, none⟩ bl.length).heap[k]? = if k = β2 then some (.cells cur 5 (if fz.1 == fz.2 then (0, 0 + bl.length) else (min fz.1 0, max fz.2 (0 + bl.length)))) else w.heap[k]? := fun k => by
      have hz : bl.length ≠ 0 := by omega
      unfold World.freeze
      rw [if_neg hz]
      show (w.heap.modify β2 _)[k]? = _
      rw [Array.getElem?_modify]
      by_cases hk : k = β2
      · subst hk
        rw [if_pos rfl, if_pos rfl, hblk]; rfl
      · rw [if_neg (fun e => hk e.symm), if_neg hk]
    have hcl : ∀ k j, (w.drew.freeze ⟨β2, 0, none⟩ bl.length).cell? ⟨k, j, none⟩ = w.cell? ⟨k, j, none⟩ := fun k j => by
      unfold World.cell?
      rw [hheap]
      by_cases hk : k = β2
      · subst hk; rw [if_pos rfl, hblk]
      · rw [if_neg hk]
    have hle : (⟨g.G, fun _ => none, g.bx⟩ : Gh).G = g.G := rfl
    have hsize : (w.drew.freeze ⟨β2, 0, none⟩ bl.length).heap.size = w.heap.size := by
      unfold World.freeze
      split
      · rfl
      · show (w.heap.modify β2 _).size = w.heap.size
        simp
    have hhe : ∀ k, k ≠ β2 → (w.drew.freeze ⟨β2, 0, none⟩ bl.length).heap[k]? = w.heap[k]? := fun k hk => by rw [hheap, if_neg hk]
    refine ⟨_, ⟨g.G, fun _ => none, g.bx⟩, rfl, ⟨fun k j hj => ?_, fun d cs hd => ?_, fun d d' k cs cs' h h' => ?_, fun n v E' hn => (by cases hn), fun n m v v' E E' k h => (by cases h), fun n v E k d cs h => (by cases h)⟩, rfl, fun i cs h => ?_, ⟨?_, rfl⟩, ⟨?_, ?_, ?_, ?_, fun k o ho => ?_⟩, fun _ _ h => h, fun k j h _ => .inl h, fun n y E' k h1 h2 => (by cases h1), fun i cs h => rfl, fun i j m cs E' l' hi hj => ?_, trivial, trivial⟩
    · rw [hsize]; exact hm.gsz k j hj
    · match d, hd with
      | 0, hd =>
        cases hd
        refine ⟨β, us, T', e1, (hhe β (Ne.symm hne)).trans e2, e3, e4, fun j c hj => ?_⟩
        match j, hj with
        | 0, hj => cases hj; exact ⟨u0, hu0, hself⟩
        | 1, hj => cases hj; exact ⟨u1, hu1, hrow.mono fun k j hj => ⟨hj, hcl k j⟩, fun n hn => by cases hn⟩
    · match d, d', h, h' with
      | 0, 0, h, h' => intro _ _; rfl
    · match i, h with
      | 0, h => exact ⟨_, rfl⟩
    · show Value.string ⟨bl.toArray⟩ = Value.string (bytesOf l)
      rfl
    · unfold World.freeze; split <;> rfl
    · unfold World.freeze; split <;> rfl
    · unfold World.freeze; split <;> rfl
    · rw [hsize]; exact Nat.le_refl _
    · by_cases hk : k = β2
      · subst hk
        rw [hblk] at ho
        cases ho
        refine .inr ⟨cur, _, fz, cur, _, rfl, (hheap k).trans (if_pos rfl), rfl, fun _ _ => rfl, fun hn => ?_⟩
        exact absurd (.inr ⟨⟨_, _, _, htok, by rw [hv2]; rfl⟩, hfree l.length (by simp)⟩) (hn l.length)
      · exact .inl ((hhe k hk).trans ho)
    · match i, hi with
      | 0, hi =>
        cases hi
        match j, hj with
        | 0, hj => cases hj
        | 1, hj => cases hj
  · cases h
end Go.Proofs.YtckdgcpomkefpaaDoor.En
end
section
set_option linter.unusedVariables false
set_option linter.unusedSimpArgs false
set_option maxRecDepth 100000
namespace Go.Proofs.YtckdgcpomkefpaaDoor.En
open Go
theorem itemsN_all {f : Dat → Int → Int} : ∀ (l : List Dat) (n : Int), 0 ≤ itemsN f l n → ∀ d ∈ l, ∃ n', 0 ≤ n' ∧ 0 ≤ f d n'
  | [], n, _, d, hd => by cases hd
  | e :: l, n, h, d, hd => by
    have h' : 0 ≤ (bif decide (n ≥ 0) then itemsN f l (f e n) else n) := h
    by_cases hn : n ≥ 0
    · rw [decide_eq_true hn] at h'
      rcases List.mem_cons.1 hd with rfl | hd
      · refine ⟨n, hn, ?_⟩
        rcases Int.lt_or_le (f d n) 0 with hneg | hpos
        · have : itemsN f l (f d n) = f d n ∨ l = [] := by
            cases l with
            | nil => exact .inr rfl
            | cons a l =>
              left
              show (bif decide (f d n ≥ 0) then _ else _) = _
              rw [decide_eq_false (by omega)]; rfl
          rcases this with e | e
          · rw [cond_true, e] at h'; exact h'
          · subst e; exact h'
        · exact hpos
      · exact itemsN_all l _ h' d hd
    · rw [decide_eq_false hn, cond_false] at h'
      exact absurd h' hn
theorem large_fit : ∀ (j k : Nat) (d : Dat) (nest ahead : Int), nest + j = 101 → 0 ≤ nest → 0 ≤ ahead → 0 ≤ largeO k d nest ahead → 0 < j ∧ fitO j (d.at 4).toL (d.at 5).toL
  | j, 0, d, nest, ahead, _, _, _, h => by simp [largeO] at h
  | 0, k + 1, d, nest, ahead, hj, _, ha, h => by
    unfold largeO at h
    rw [show decide (nest > 100) = true from decide_eq_true (by simp at hj; omega), Bool.or_true] at h
    simp at h
  | j + 1, k + 1, d, nest, ahead, hj, hn, ha, h => by
    unfold largeO at h
    cases hc : decide (headN (d.at 3).toS (d.at 4).toL (d.at 5).toL ahead > 2000) || decide (nest > 100)
    · rw [hc, cond_false] at h
      rw [Bool.or_eq_false_iff] at hc
      have c1 := of_decide_eq_false hc.1
      rw [headN_eq] at c1
      refine ⟨by omega, by omega, by omega, fun e he => ?_⟩
      obtain ⟨n', h1, h2⟩ := itemsN_all _ _ h e he
      exact (large_fit j k e (nest + 1) n' (by push_cast at hj; omega) (by omega) h1 h2).2
    · rw [hc] at h
      simp at h
theorem fitO_copy : ∀ (k : Nat) (d : Dat), fitO k (d.at 4).toL (d.at 5).toL → fitO k ((copyO k d).at 4).toL ((copyO k d).at 5).toL
  | 0, d, h => h
  | k + 1, d, h => by
    obtain ⟨h1, h2, h3⟩ := h
    refine ⟨h1, by show ((d.at 5).toL.map (copyO k)).length ≤ _; rw [List.length_map]; exact h2, fun e he => ?_⟩
    have he' : e ∈ (d.at 5).toL.map (copyO k) := he
    obtain ⟨x, hx, rfl⟩ := List.mem_map.1 he'
    exact fitO_copy k x (h3 x hx)
noncomputable def LargeE : List AV → Bx → Option (Bool × Out)
  | [.agg [.v (.int .i64 k1), .v (.bool b1), .v (.int .i64 n1), .v (.string s1), .row none 9 ks1, .row none 39 l1]], [none] =>
    some (zB 102 s1 ks1 l1 0 0, .ret (B (decide (largeO 102 (mkO k1 n1 b1 s1 ks1 l1) 0 0 < 0))) [none])
  | _, _ => none
theorem Large_0 (ext : CallF) (m : Nat) (k1 n1 : Int) (b1 : Bool) (s1 : ByteArray) (ks1 l1 : List Dat) : evFn PR TK (largeC 102 ext) m 13 [.agg (obA k1 n1 b1 s1 ks1 l1)] [none] =
  bif zB 102 s1 ks1 l1 0 0 then some (.ret (B (decide (largeO 102 (mkO k1 n1 b1 s1 ks1 l1) 0 0 < 0))) [none]) else none := by kernel_rfl
theorem Large_sound : SoundCall PR (addF 13 LargeE (largeC 102 fun _ _ _ => none)) := by
  refine sound_add (takes := TK) hmixP (large_sound sound_none 102) _ (fn := (PR.funcs[13]?).getD default) (by kernel_rfl) (by kernel_rfl) LargeE fun xs bs out h => ?_
  unfold LargeE at h
  split at h
  · injection h with h
    injection h with h1 h2
    subst h2
    refine ⟨1, (Large_0 _ _ _ _ _ _ _ _).trans ?_⟩
    rw [h1]; rfl
  · cases h
theorem sound_both {f : FuncId} {ent : List AV → Bx → Option (Bool × Out)} {a b : CallF} (ha : SoundCall PR (addF f ent a)) (hb : SoundCall PR b) : SoundCall PR (addF f ent b) := fun g xs bs out ho => by
  unfold addF at ho
  cases hg : Nat.beq g f <;> rw [hg] at ho <;> simp only [cond_true, cond_false] at ho
  · exact hb g xs bs out ho
  · refine ha g xs bs out ?_
    unfold addF
    rw [hg]; exact ho
section
variable (m : Nat) (k1 n1 : Int) (b1 : Bool) (s1 key : ByteArray) (ks1 l1 : List Dat)
end
end Go.Proofs.YtckdgcpomkefpaaDoor.En
end
section
set_option linter.unusedVariables false
set_option linter.unusedSimpArgs false
set_option maxRecDepth 100000
namespace Go.Proofs.YtckdgcpomkefpaaDoor.En
open Go
noncomputable def osameC (k : Nat) (ext : CallF) : CallF := addF 44 (sameE k) ext
noncomputable def osameL1 (call : CallF) (m r : Nat) (k1 n1 k2 n2 : Int) (b1 b2 : Bool) (s1 s2 : ByteArray) (ks1 l1 ks2 l2 : List Dat) (i : Int) := loopF PR TK call m 44 [none, none] [true, true, false, true] r (sp 86 [(2, .box 2 0), (3, .box 3 0), (54, .row none 9 ks1), (55, I ks1.length), (56, I i)] [(2, obA k1 n1 b1 s1 ks1 l1), (3, obA k2 n2 b2 s2 ks2 l2)])
noncomputable def osameL2 (call : CallF) (m r : Nat) (k1 n1 k2 n2 : Int) (b1 b2 : Bool) (s1 s2 : ByteArray) (ks1 l1 ks2 l2 : List Dat) (i : Int) := loopF PR TK call m 44 [none, none] [true, true, true, false, true] r (sp 86 [(3, .box 3 0), (70, .row none 39 l1), (71, I l1.length), (72, I i)] [(3, obA k2 n2 b2 s2 ks2 l2)])
section
variable (call ext : CallF) (k m r : Nat) (k1 n1 k2 n2 : Int) (b1 b2 : Bool) (s1 s2 : ByteArray) (ks1 l1 ks2 l2 : List Dat) (i : Int)
theorem osame_0 : evFn PR TK call m 44 [.agg (obA k1 n1 b1 s1 ks1 l1), .agg (obA k2 n2 b2 s2 ks2 l2)] [none, none] =
    orK (k1 != k2) (!(b1 == b2)) fun t => orK t (n1 != n2) fun t => orK t (!(s1.toList == s2.toList)) fun t => orK t ((ks1.length : Int) != ks2.length) fun t => orK t ((l1.length : Int) != l2.length) fun t =>
      bif t then some (.ret (B false) [none, none]) else osameL1 call m m k1 n1 k2 n2 b1 b2 s1 s2 ks1 l1 ks2 l2 0 := by kernel_rfl
theorem osame_1 : osameL1 call m (r + 1) k1 n1 k2 n2 b1 b2 s1 s2 ks1 l1 ks2 l2 i = bif decide (i < ks1.length) then (idx ks1 i).bind fun d => (idx ks2 i).bind fun e =>
      bif !((d.at 0).toS.toList == (e.at 0).toS.toList) then some (.ret (B false) [none, none]) else osameL1 call m r k1 n1 k2 n2 b1 b2 s1 s2 ks1 l1 ks2 l2 (IntKind.i64.wrap (i + 1))
    else osameL2 call m m k1 n1 k2 n2 b1 b2 s1 s2 ks1 l1 ks2 l2 0 := by kernel_rfl
theorem osame_2 : osameL2 (osameC k ext) m (r + 1) k1 n1 k2 n2 b1 b2 s1 s2 ks1 l1 ks2 l2 i = bif decide (i < l1.length) then (idx l1 i).bind fun d => (idx l2 i).bind fun e =>
      bif fitB k (d.at 4).toL (d.at 5).toL then (bif !(sameO k (nrm d) (nrm e)) then some (.ret (B false) [none, none]) else osameL2 (osameC k ext) m r k1 n1 k2 n2 b1 b2 s1 s2 ks1 l1 ks2 l2 (IntKind.i64.wrap (i + 1))) else none
    else some (.ret (B true) [none, none]) := by kernel_rfl
end
theorem osame_loop2 {ext : CallF} {k m : Nat} {k1 n1 k2 n2 : Int} {b1 b2 : Bool} {s1 s2 : ByteArray} {ks1 l1 ks2 l2 : List Dat} (hl : l1.length = l2.length) (hf : l1.length ≤ 1000000) (hk : ∀ d ∈ l1, fitO k (d.at 4).toL (d.at 5).toL) :
    ∀ (n i r : Nat), i + n = l1.length → n < r → osameL2 (osameC k ext) m r k1 n1 k2 n2 b1 b2 s1 s2 ks1 l1 ks2 l2 (i : Int) = bR (allEq (sameO k) (l1.drop i) (l2.drop i))
  | n, i, 0, _, h => by omega
  | 0, i, r + 1, hi, _ => by
    rw [osame_2, show decide ((i : Int) < l1.length) = false from decide_eq_false (by omega), List.drop_eq_nil_of_le (by omega), List.drop_eq_nil_of_le (by omega)]
    rfl
  | n + 1, i, r + 1, hi, hm => by
    have h1 : i < l1.length := by omega
    have h2 : i < l2.length := by omega
    rw [osame_2, show decide ((i : Int) < l1.length) = true from decide_eq_true (by omega), idx_at h1, idx_at h2, IntWalk.i64_in _ (by omega)]
    simp only [cond_true, Option.bind_some]
    rw [fitB_eq (hk _ (List.getElem_mem h1)), cond_true, sameO_nrm, List.drop_eq_getElem_cons h1, List.drop_eq_getElem_cons h2]
    have ih := osame_loop2 (ext := ext) (m := m) (k1 := k1) (n1 := n1) (k2 := k2) (n2 := n2) (b1 := b1) (b2 := b2) (s1 := s1) (s2 := s2) (ks1 := ks1) (ks2 := ks2) hl hf hk n (i + 1) r (by omega) (by omega)
    rw [show ((i + 1 : Nat) : Int) = (i : Int) + 1 by omega] at ih
    rw [ih]
    show _ = bR (sameO k l1[i] l2[i] && allEq (sameO k) (l1.drop (i + 1)) (l2.drop (i + 1)))
    cases sameO k l1[i] l2[i] <;> rfl
theorem osame_loop1 {ext : CallF} {k m : Nat} {k1 n1 k2 n2 : Int} {b1 b2 : Bool} {s1 s2 : ByteArray} {ks1 l1 ks2 l2 : List Dat} (hlk : ks1.length = ks2.length) (hl : l1.length = l2.length) (hfk : ks1.length ≤ 1000000) (hf : l1.length ≤ 1000000) (hk : ∀ d ∈ l1, fitO k (d.at 4).toL (d.at 5).toL) (hm : l1.length < m) :
    ∀ (n i r : Nat), i + n = ks1.length → n < r → osameL1 (osameC k ext) m r k1 n1 k2 n2 b1 b2 s1 s2 ks1 l1 ks2 l2 (i : Int) = bR (keysEq (ks1.drop i) (ks2.drop i) && allEq (sameO k) l1 l2) := by
  have e0 := osame_loop2 (ext := ext) (k := k) (m := m) (k1 := k1) (n1 := n1) (k2 := k2) (n2 := n2) (b1 := b1) (b2 := b2) (s1 := s1) (s2 := s2) (ks1 := ks1) (ks2 := ks2) hl hf hk l1.length 0 m (by omega) hm
  rw [List.drop_zero, List.drop_zero, show ((0 : Nat) : Int) = 0 from rfl] at e0
  intro n
  induction n with
  | zero =>
    intro i r hi hr
    cases r with
    | zero => omega
    | succ r =>
      rw [osame_1, show decide ((i : Int) < ks1.length) = false from decide_eq_false (by omega), List.drop_eq_nil_of_le (by omega), List.drop_eq_nil_of_le (by omega), e0]
      rfl
  | succ n ih =>
    intro i r hi hr
    cases r with
    | zero => omega
    | succ r =>
      have h1 : i < ks1.length := by omega
      have h2 : i < ks2.length := by omega
      have ih := ih (i + 1) r (by omega) (by omega)
      rw [show ((i + 1 : Nat) : Int) = (i : Int) + 1 by omega] at ih
      rw [osame_1, e0, show decide ((i : Int) < ks1.length) = true from decide_eq_true (by omega), idx_at h1, idx_at h2, IntWalk.i64_in _ (by omega)]
      simp only [cond_true, Option.bind_some]
      rw [List.drop_eq_getElem_cons h1, List.drop_eq_getElem_cons h2, ih]
      show _ = bR ((((ks1[i].at 0).toS.toList == (ks2[i].at 0).toS.toList) && keysEq (ks1.drop (i + 1)) (ks2.drop (i + 1))) && allEq (sameO k) l1 l2)
      cases ((ks1[i].at 0).toS.toList == (ks2[i].at 0).toS.toList) <;> rfl
theorem osame_run {ext : CallF} {k m : Nat} {k1 n1 k2 n2 : Int} {b1 b2 : Bool} {s1 s2 : ByteArray} {ks1 l1 ks2 l2 : List Dat} (h : fitO (k + 1) ks1 l1) (hm : 1000000 < m) :
    evFn PR TK (osameC k ext) m 44 [.agg (obA k1 n1 b1 s1 ks1 l1), .agg (obA k2 n2 b2 s2 ks2 l2)] [none, none] = bR (sameO (k + 1) (mkO k1 n1 b1 s1 ks1 l1) (mkO k2 n2 b2 s2 ks2 l2)) := by
  obtain ⟨h1, h2, h3⟩ := h
  rw [osame_0]
  simp only [orK_eq]
  show (bif ((((((k1 != k2) || !(b1 == b2)) || (n1 != n2)) || !(s1.toList == s2.toList)) || ((ks1.length : Int) != ks2.length)) || ((l1.length : Int) != l2.length)) then bR false else _) =
    bR ((k1 == k2) && ((b1 == b2) && ((n1 == n2) && ((s1.toList == s2.toList) && (keysEq ks1 ks2 && allEq (sameO k) l1 l2)))))
  rw [ne_len, ne_len]
  unfold bne
  cases (k1 == k2) <;> cases (b1 == b2) <;> cases (n1 == n2) <;> cases (s1.toList == s2.toList) <;> try rfl
  by_cases e1 : ks1.length = ks2.length
  · by_cases e2 : l1.length = l2.length
    · rw [decide_eq_true e1, decide_eq_true e2]
      have e := osame_loop1 (ext := ext) (k := k) (m := m) (k1 := k1) (n1 := n1) (k2 := k2) (n2 := n2) (b1 := b1) (b2 := b2) (s1 := s1) (s2 := s2) e1 e2 h1 h2 h3 (by omega) ks1.length 0 m (by omega) (by omega)
      rw [List.drop_zero, List.drop_zero, show ((0 : Nat) : Int) = 0 from rfl] at e
      show osameL1 _ _ _ _ _ _ _ _ _ _ _ _ _ _ _ 0 = _
      rw [e]; rfl
    · rw [decide_eq_false e2]
      have : allEq (sameO k) l1 l2 = false := by
        cases hq : allEq (sameO k) l1 l2
        · rfl
        · exact absurd (allEq_len hq) e2
      rw [this]
      cases decide (ks1.length = ks2.length) <;> cases keysEq ks1 ks2 <;> rfl
  · rw [decide_eq_false e1]
    have : keysEq ks1 ks2 = false := by
      cases hq : keysEq ks1 ks2
      · rfl
      · exact absurd (keysEq_len hq) e1
    rw [this]; rfl
theorem osame_sound {ext : CallF} (hext : SoundCall PR ext) : ∀ k, SoundCall PR (osameC k ext) := by
  refine sound_rec (takes := TK) hmixP hext _ (fn := (PR.funcs[44]?).getD default) (by kernel_rfl) (by kernel_rfl) sameE (fun xs bs out h => ?_) (fun k xs bs out h => ?_)
  · unfold sameE at h
    split at h
    · injection h with h
      injection h with h _
      exact fitB_of h
    · cases h
  · unfold sameE at h
    split at h
    · injection h with h
      injection h with h1 h2
      subst h2
      exact ⟨1000001, osame_run (fitB_of h1) (by omega)⟩
    · cases h
end Go.Proofs.YtckdgcpomkefpaaDoor.En
end
section
set_option linter.unusedVariables false
set_option linter.unusedSimpArgs false
set_option maxRecDepth 100000
namespace Go.Proofs.YtckdgcpomkefpaaDoor.En
open Go
def inB (n : Int) : Bool := decide (-1099511627776 ≤ n) && decide (n ≤ 1099511627776)
def inE : List AV → Bx → Option (Bool × Out)
  | [.v (.int .i64 n)], [none] => some (true, .ret (B (inB n)) [none])
  | _, _ => none
theorem in_0 (call : CallF) (m : Nat) (n : Int) : evFn PR TK call m 40 [I n] [none] = andK (decide (-1099511627776 ≤ n)) (decide (n ≤ 1099511627776)) fun t => some (.ret (B t) [none]) := by kernel_rfl
theorem rin_0 (call : CallF) (m : Nat) (n : Int) : evFn PR TK call m 38 [I n] [none] = andK (decide (n ≥ -1099511627776)) (decide (n ≤ 1099511627776)) fun t => some (.ret (B t) [none]) := by kernel_rfl
theorem in_sound {ext : CallF} (hext : SoundCall PR ext) : SoundCall PR (addF 40 inE ext) := by
  refine sound_add (takes := TK) hmixP hext _ (fn := (PR.funcs[40]?).getD default) (by kernel_rfl) (by kernel_rfl) inE fun xs bs out h => ?_
  unfold inE at h
  split at h
  · cases h
    refine ⟨0, (in_0 _ _ _).trans ?_⟩
    rw [andK_eq]; rfl
  · cases h
theorem rin_sound {ext : CallF} (hext : SoundCall PR ext) : SoundCall PR (addF 38 inE ext) := by
  refine sound_add (takes := TK) hmixP hext _ (fn := (PR.funcs[38]?).getD default) (by kernel_rfl) (by kernel_rfl) inE fun xs bs out h => ?_
  unfold inE at h
  split at h
  · cases h
    refine ⟨0, (rin_0 _ _ _).trans ?_⟩
    rw [andK_eq]; rfl
  · cases h
def namedB (s : ByteArray) : Bool := decide (1 ≤ s.size) && (decide (s.size ≤ 127) && decide (Lib.indexByte s.data.toList 0 < 0))
def namedE : List AV → Bx → Option (Bool × Out)
  | [.v (.string s)], [none] => some (true, .ret (B (namedB s)) [none])
  | _, _ => none
theorem named_0 (ext : CallF) (m : Nat) (s : ByteArray) : evFn PR TK (addF 55 ixE ext) m 41 [S s] [none] =
    andK (decide ((1 : Int) ≤ (s.size : Int))) (decide ((s.size : Int) ≤ 127)) fun t => andK t (decide (Lib.indexByte s.data.toList ((0 : Int).toNat.toUInt8) < 0)) fun t => some (.ret (B t) [none]) := by kernel_rfl
theorem dec_nat {a b : Nat} : decide ((a : Int) ≤ (b : Int)) = decide (a ≤ b) := by
  by_cases h : a ≤ b
  · rw [decide_eq_true h, decide_eq_true (by omega)]
  · rw [decide_eq_false h, decide_eq_false (by omega)]
theorem named_sound {ext : CallF} (hext : SoundCall PR ext) : SoundCall PR (addF 41 namedE ext) := by
  refine sound_both (sound_add (takes := TK) hmixP (ix_sound sound_none) _ (fn := (PR.funcs[41]?).getD default) (by kernel_rfl) (by kernel_rfl) namedE fun xs bs out h => ?_) hext
  unfold namedE at h
  split at h
  · rename_i s
    cases h
    refine ⟨0, (named_0 _ _ _).trans ?_⟩
    rw [andK_eq, andK_eq, show ((1 : Int)) = ((1 : Nat) : Int) from rfl, show ((127 : Int)) = ((127 : Nat) : Int) from rfl, dec_nat, dec_nat, Bool.and_assoc]
    rfl
  · cases h
noncomputable def rnameL (call : CallF) (m r : Nat) (s : ByteArray) (i : Int) := loopF PR TK call m 39 [none] [true, true, false, true] r (sp 22 [(0, S s), (3, I i)] [])
def bR1 (x : Bool) : Option Out := some (.ret (B x) [none])
theorem rname_0 (call : CallF) (m : Nat) (s : ByteArray) : evFn PR TK call m 39 [S s] [none] =
    orK (decide ((s.size : Int) < 1)) (decide ((s.size : Int) > 127)) fun t => bif t then bR1 false else rnameL call m m s 0 := by kernel_rfl
theorem rname_1 (call : CallF) (m r : Nat) (s : ByteArray) (i : Int) : rnameL call m (r + 1) s i =
    bif decide (i < s.size) then (bif (true && decide (0 ≤ i) && decide (i < s.size)) then (bif (bt s i == 0) then bR1 false else rnameL call m r s (IntKind.i64.wrap (i + 1))) else none) else bR1 true := by kernel_rfl
theorem bt_nat (s : ByteArray) (i : Nat) (h : i < s.data.toList.length) : bt s (i : Int) = ((s.data.toList[i]'h).toNat : Int) := by
  unfold bt
  have h' : i < s.data.size := by simpa using h
  have h2 : (s.data.getD i 0) = s.data[i] := by unfold Array.getD; rw [dif_pos h']; rfl
  show (((s.data.getD (i : Int).toNat 0).toNat : Nat) : Int) = _
  rw [show ((i : Int).toNat) = i from rfl, h2]
  simp
theorem ix_neg : ∀ (l : List UInt8), decide (Lib.indexByte l 0 < 0) = l.all fun b => !(b == 0)
  | [] => rfl
  | b :: l => by
    have ih := ix_neg l
    have ge := Lib.indexByte_ge l 0
    rw [List.all_cons, ← ih]
    show decide ((if (b == 0) = true then (0 : Int) else if (Lib.indexByte l 0 == -1) = true then -1 else Lib.indexByte l 0 + 1) < 0) = _
    cases hb : (b == 0)
    · simp only [Bool.false_eq_true, if_false, Bool.not_false, Bool.true_and]
      by_cases h1 : Lib.indexByte l 0 = -1
      · rw [h1]; rfl
      · have : (Lib.indexByte l 0 == -1) = false := by simpa using h1
        rw [this]
        simp only [Bool.false_eq_true, if_false]
        rw [decide_eq_false (by omega), decide_eq_false (by omega)]
    · rfl
theorem rname_loop {call : CallF} {m : Nat} {s : ByteArray} (hf : s.size ≤ 1000000) : ∀ (n i r : Nat), i + n = s.data.toList.length → n < r → rnameL call m r s (i : Int) = bR1 ((s.data.toList.drop i).all fun b => !(b == 0)) := by
  have hsz : s.data.toList.length = s.size := Array.length_toList
  intro n
  induction n with
  | zero =>
    intro i r hi hr
    cases r with
    | zero => omega
    | succ r =>
      rw [rname_1, show decide ((i : Int) < s.size) = false from decide_eq_false (by omega), List.drop_eq_nil_of_le (by omega)]
      rfl
  | succ n ih =>
    intro i r hi hr
    cases r with
    | zero => omega
    | succ r =>
      have h1 : i < s.data.toList.length := by omega
      have ih := ih (i + 1) r (by omega) (by omega)
      rw [show ((i + 1 : Nat) : Int) = (i : Int) + 1 by omega] at ih
      rw [rname_1, show decide ((i : Int) < s.size) = true from decide_eq_true (by omega), show decide ((0 : Int) ≤ i) = true from decide_eq_true (by omega), IntWalk.i64_in _ (by omega), ih, bt_nat s i h1, List.drop_eq_getElem_cons h1, List.all_cons]
      have : (((s.data.toList[i].toNat : Nat) : Int) == 0) = (s.data.toList[i] == 0) := by
        by_cases hz : s.data.toList[i] = 0
        · rw [hz]; rfl
        · have h2 : (s.data.toList[i] == 0) = false := by simpa using hz
          rw [h2]
          have h3 : s.data.toList[i].toNat ≠ 0 := fun e => hz (UInt8.toNat_inj.1 (by rw [e]; rfl))
          simpa using h3
      rw [this]
      cases (s.data.toList[i] == 0) <;> rfl
theorem rname_sound {ext : CallF} (hext : SoundCall PR ext) : SoundCall PR (addF 39 namedE ext) := by
  refine sound_add (takes := TK) hmixP hext _ (fn := (PR.funcs[39]?).getD default) (by kernel_rfl) (by kernel_rfl) namedE fun xs bs out h => ?_
  unfold namedE at h
  split at h
  · rename_i s
    cases h
    refine ⟨128, (rname_0 _ _ _).trans ?_⟩
    rw [orK_eq]
    have hsz : s.data.toList.length = s.size := Array.length_toList
    show _ = bR1 (namedB s)
    unfold namedB
    rw [ix_neg]
    by_cases h1 : 1 ≤ s.size
    · by_cases h2 : s.size ≤ 127
      · have e := rname_loop (call := ext) (m := 128) (s := s) (by omega) s.data.toList.length 0 128 (by omega) (by omega)
        rw [List.drop_zero, show ((0 : Nat) : Int) = 0 from rfl] at e
        rw [decide_eq_true h1, decide_eq_true h2, show decide ((s.size : Int) < 1) = false from decide_eq_false (by omega), show decide ((s.size : Int) > 127) = false from decide_eq_false (by omega), Bool.true_and, Bool.true_and, ← e]
        rfl
      · rw [decide_eq_false h2, show decide ((s.size : Int) > 127) = true from decide_eq_true (by omega), Bool.or_true, Bool.false_and, Bool.and_false]; rfl
    · rw [decide_eq_false h1, show decide ((s.size : Int) < 1) = true from decide_eq_true (by omega), Bool.true_or, Bool.false_and]; rfl
  · cases h
end Go.Proofs.YtckdgcpomkefpaaDoor.En
end
section
set_option linter.unusedVariables false
set_option linter.unusedSimpArgs false
set_option maxRecDepth 100000
namespace Go.Proofs.YtckdgcpomkefpaaDoor.En
open Go
def orO {β : Type} (c : Bool) (d : Option Bool) (k : Bool → Option β) : Option β := (bif c then some true else d).bind k
theorem orO_eq {β : Type} (c d : Bool) (k : Bool → Option β) : orO c (some d) k = k (c || d) := by cases c <;> rfl
noncomputable def flatL1 (call : CallF) (m r : Nat) (k1 n1 : Int) (b1 : Bool) (s1 : ByteArray) (ks1 l1 : List Dat) (i : Int) := loopF PR TK call m 31 [none] [true, true, false, true, true, true, true, true, true, true, true, true, true, false, true, false, true] r (sp 165 [(1, .box 1 0), (3, I i)] [(1, obA k1 n1 b1 s1 ks1 l1)])
noncomputable def flatL2 (call : CallF) (m r1 r : Nat) (k1 n1 : Int) (b1 : Bool) (s1 : ByteArray) (ks1 l1 : List Dat) (i j : Int) := loopF2 PR TK call m 31 [none] [true, true, false, true, true, true, true, true, true, true, true, true, true, false, true, false, true] r1 [true, false, true, true] r (sp 165 [(1, .box 1 0), (3, I i), (4, I j)] [(1, obA k1 n1 b1 s1 ks1 l1)])
noncomputable def flC (ext : CallF) : CallF := addF 39 namedE (addF 38 inE ext)
section
variable (ext : CallF) (m r r1 : Nat) (k1 n1 : Int) (b1 : Bool) (s1 : ByteArray) (ks1 l1 : List Dat) (i j : Int)
def bare (k1 n1 : Int) (b1 : Bool) (s1 : ByteArray) (ks1 l1 : List Dat) {β : Type} (kk : Bool → Option β) : Option β :=
  andK b1 (k1 != 1) fun t => orO t (andK (n1 != 0) (k1 != 2) fun t => andK t (k1 != 3) fun t => andK t (k1 != 8) fun t => some t) fun t =>
    orO t (andK (!(s1.toList == (⟨#[]⟩ : ByteArray).toList)) (k1 != 4) fun t => andK t (k1 != 5) fun t => some t) fun t =>
    orO t (andK (decide ((ks1.length : Int) > 0)) (k1 != 7) fun t => some t) fun t =>
    orO t (andK (decide ((l1.length : Int) > 0)) (k1 != 6) fun t => andK t (k1 != 7) fun t => some t) kk
theorem flat_0 : evFn PR TK (flC ext) m 31 [.agg (obA k1 n1 b1 s1 ks1 l1)] [none] = bare k1 n1 b1 s1 ks1 l1 fun t => bif t then bR1 false else
    bif (k1 == 2) then bR1 (inB n1) else bif (k1 == 3) then andK (inB n1) ((n1.tmod 65536) != 0) bR1 else bif (k1 == 4) then bR1 (namedB s1) else bif (k1 == 5) then bR1 (decide ((s1.size : Int) ≤ 65536)) else
    bif (k1 == 7) then (bif ((ks1.length : Int) != l1.length) then bR1 false else flatL1 (flC ext) m m k1 n1 b1 s1 ks1 l1 0) else
    bif (k1 == 8) then andK (decide (n1 ≥ 1)) (decide (n1 ≤ 4096)) bR1 else orK (k1 == 0) (k1 == 1) fun t => orK t (k1 == 6) bR1 := by kernel_rfl
theorem flat_1 : flatL1 (flC ext) m (r + 1) k1 n1 b1 s1 ks1 l1 i = bif decide (i < ks1.length) then (idx ks1 i).bind fun d => bif !(namedB (d.at 0).toS) then bR1 false else flatL2 (flC ext) m r m k1 n1 b1 s1 ks1 l1 i 0
    else bR1 true := by kernel_rfl
theorem flat_2 : flatL2 (flC ext) m r1 (r + 1) k1 n1 b1 s1 ks1 l1 i j = bif decide (j < i) then (idx ks1 j).bind fun d => (idx ks1 i).bind fun e =>
      bif ((d.at 0).toS.toList == (e.at 0).toS.toList) then bR1 false else flatL2 (flC ext) m r1 r k1 n1 b1 s1 ks1 l1 i (IntKind.i64.wrap (j + 1))
    else flatL1 (flC ext) m r1 k1 n1 b1 s1 ks1 l1 (IntKind.i64.wrap (i + 1)) := by kernel_rfl
end
def eqK (d e : Dat) : Bool := (d.at 0).toS.toList == (e.at 0).toS.toList
def keysR : List Dat → List Dat → Bool
  | _, [] => true
  | pre, d :: r => namedB (d.at 0).toS && (!(pre.any fun e => eqK e d) && keysR (pre ++ [d]) r)
theorem flat_loop2 {ext : CallF} {m r1 : Nat} {k1 n1 : Int} {b1 : Bool} {s1 : ByteArray} {ks1 l1 : List Dat} {i : Nat} (hi : i < ks1.length) (hf : ks1.length ≤ 1000000) :
    ∀ (n j r : Nat), j + n = i → n < r → flatL2 (flC ext) m r1 r k1 n1 b1 s1 ks1 l1 (i : Int) (j : Int) = bif (((ks1.take i).drop j).any fun e => eqK e ks1[i]) then bR1 false else flatL1 (flC ext) m r1 k1 n1 b1 s1 ks1 l1 ((i + 1 : Nat) : Int) := by
  intro n
  induction n with
  | zero =>
    intro j r hj hr
    cases r with
    | zero => omega
    | succ r =>
      have : j = i := by omega
      subst this
      rw [flat_2, show decide ((j : Int) < (j : Int)) = false from decide_eq_false (by omega), cond_false, IntWalk.i64_in _ (by omega), List.drop_eq_nil_of_le (by simp; omega), List.any_nil, cond_false]
      rfl
  | succ n ih =>
    intro j r hj hr
    cases r with
    | zero => omega
    | succ r =>
      have h1 : j < ks1.length := by omega
      have h2 : j < (ks1.take i).length := by simp; omega
      have ih := ih (j + 1) r (by omega) (by omega)
      rw [show ((j + 1 : Nat) : Int) = (j : Int) + 1 by omega] at ih
      rw [flat_2, show decide ((j : Int) < (i : Int)) = true from decide_eq_true (by omega), cond_true, idx_at h1, idx_at hi, Option.bind_some, Option.bind_some, IntWalk.i64_in _ (by omega), ih, List.drop_eq_getElem_cons h2, List.any_cons, List.getElem_take]
      show (bif eqK ks1[j] ks1[i] then _ else _) = _
      cases eqK ks1[j] ks1[i]
      · rw [cond_false, Bool.false_or]
      · rw [cond_true, Bool.true_or, cond_true]
theorem flat_loop1 {ext : CallF} {m : Nat} {k1 n1 : Int} {b1 : Bool} {s1 : ByteArray} {ks1 l1 : List Dat} (hf : ks1.length ≤ 1000000) (hm : 1000000 < m) :
    ∀ (n i r : Nat), i + n = ks1.length → n < r → flatL1 (flC ext) m r k1 n1 b1 s1 ks1 l1 (i : Int) = bR1 (keysR (ks1.take i) (ks1.drop i)) := by
  intro n
  induction n with
  | zero =>
    intro i r hi hr
    cases r with
    | zero => omega
    | succ r =>
      rw [flat_1, show decide ((i : Int) < ks1.length) = false from decide_eq_false (by omega), cond_false, List.drop_eq_nil_of_le (by omega)]
      rfl
  | succ n ih =>
    intro i r hi hr
    cases r with
    | zero => omega
    | succ r =>
      have h1 : i < ks1.length := by omega
      have ih := ih (i + 1) r (by omega) (by omega)
      have e := flat_loop2 (ext := ext) (m := m) (r1 := r) (k1 := k1) (n1 := n1) (b1 := b1) (s1 := s1) (l1 := l1) h1 hf i 0 m (by omega) (by omega)
      rw [List.drop_zero, show ((0 : Nat) : Int) = 0 from rfl, ih] at e
      rw [flat_1, show decide ((i : Int) < ks1.length) = true from decide_eq_true (by omega), cond_true, idx_at h1, Option.bind_some, e, List.drop_eq_getElem_cons h1]
      show _ = bR1 (namedB (ks1[i].at 0).toS && (!((ks1.take i).any fun e => eqK e ks1[i]) && keysR (ks1.take i ++ [ks1[i]]) (ks1.drop (i + 1))))
      rw [List.take_append_getElem h1]
      cases namedB (ks1[i].at 0).toS
      · rfl
      · cases ((ks1.take i).any fun e => eqK e ks1[i]) <;> rfl
def bareB (k1 n1 : Int) (b1 : Bool) (s1 : ByteArray) (ks1 l1 : List Dat) : Bool :=
  ((((b1 && k1 != 1) || (((n1 != 0 && k1 != 2) && k1 != 3) && k1 != 8)) || ((!(s1.toList == (⟨#[]⟩ : ByteArray).toList) && k1 != 4) && k1 != 5)) || (decide ((ks1.length : Int) > 0) && k1 != 7)) || ((decide ((l1.length : Int) > 0) && k1 != 6) && k1 != 7)
theorem bare_eq (k1 n1 : Int) (b1 : Bool) (s1 : ByteArray) (ks1 l1 : List Dat) {β : Type} (kk : Bool → Option β) : bare k1 n1 b1 s1 ks1 l1 kk = kk (bareB k1 n1 b1 s1 ks1 l1) := by
  unfold bare bareB
  simp only [andK_eq, orO_eq]
def kindB (k1 n1 : Int) (s1 : ByteArray) (ks1 l1 : List Dat) : Bool :=
  bif (k1 == 2) then inB n1 else bif (k1 == 3) then inB n1 && (n1.tmod 65536) != 0 else bif (k1 == 4) then namedB s1 else bif (k1 == 5) then decide ((s1.size : Int) ≤ 65536) else
    bif (k1 == 7) then (bif ((ks1.length : Int) != l1.length) then false else keysR [] ks1) else bif (k1 == 8) then decide (n1 ≥ 1) && decide (n1 ≤ 4096) else (k1 == 0 || k1 == 1) || k1 == 6
def flatB (k1 n1 : Int) (b1 : Bool) (s1 : ByteArray) (ks1 l1 : List Dat) : Bool := !bareB k1 n1 b1 s1 ks1 l1 && kindB k1 n1 s1 ks1 l1
def flatE : List AV → Bx → Option (Bool × Out)
  | [.agg [.v (.int .i64 k1), .v (.bool b1), .v (.int .i64 n1), .v (.string s1), .row none 9 ks1, .row none 39 l1]], [none] =>
    some (Nat.ble ks1.length 1000000, .ret (B (flatB k1 n1 b1 s1 ks1 l1)) [none])
  | _, _ => none
theorem flat_run {ext : CallF} {m : Nat} {k1 n1 : Int} {b1 : Bool} {s1 : ByteArray} {ks1 l1 : List Dat} (hf : ks1.length ≤ 1000000) (hm : 1000000 < m) :
    evFn PR TK (flC ext) m 31 [.agg (obA k1 n1 b1 s1 ks1 l1)] [none] = bR1 (flatB k1 n1 b1 s1 ks1 l1) := by
  have e := flat_loop1 (ext := ext) (k1 := k1) (n1 := n1) (b1 := b1) (s1 := s1) (l1 := l1) hf hm ks1.length 0 m (by omega) (by omega)
  rw [List.drop_zero, List.take_zero, show ((0 : Nat) : Int) = 0 from rfl] at e
  rw [flat_0, bare_eq, e]
  unfold flatB kindB
  cases bareB k1 n1 b1 s1 ks1 l1
  · simp only [andK_eq, orK_eq, cond_false, Bool.not_false, Bool.true_and]
    cases (k1 == 2)
    · cases (k1 == 3)
      · cases (k1 == 4)
        · cases (k1 == 5)
          · cases (k1 == 7)
            · cases (k1 == 8) <;> rfl
            · cases ((ks1.length : Int) != l1.length) <;> rfl
          · rfl
        · rfl
      · rfl
    · rfl
  · rfl
theorem flat_sound {ext : CallF} (hext : SoundCall PR ext) : SoundCall PR (addF 31 flatE ext) := by
  refine sound_both (sound_add (takes := TK) hmixP (rname_sound (rin_sound sound_none)) _ (fn := (PR.funcs[31]?).getD default) (by kernel_rfl) (by kernel_rfl) flatE fun xs bs out h => ?_) hext
  unfold flatE at h
  split at h
  · injection h with h
    injection h with h1 h2
    subst h2
    exact ⟨1000001, flat_run (Nat.le_of_ble_eq_true h1) (by omega)⟩
  · cases h
end Go.Proofs.YtckdgcpomkefpaaDoor.En
end
section
set_option linter.unusedVariables false
set_option linter.unusedSimpArgs false
set_option maxRecDepth 100000
namespace Go.Proofs.YtckdgcpomkefpaaDoor.En
open Go
def bu (l : List Dat) : List AV := [.self 68, .row (some (sub 0 1)) 5 l]
noncomputable def bC (ext : CallF) : CallF := addF 56 ccE ext
theorem wb_0 (ext : CallF) (m : Nat) (l : List Dat) (c : Int) : evFn PR TK (bC ext) m 50 [.box 0 0, .v (.int .u8 c)] [some (bu l), none] =
  bif Nat.ble (l.length + 1) fitsN then some (.ret (.v .nilIface) [some (bu (l ++ [.int c])), none]) else none := by kernel_rfl
theorem ws_0 (ext : CallF) (m : Nat) (l : List Dat) (s : ByteArray) : evFn PR TK (bC ext) m 45 [.box 0 0, S s] [some (bu l), none] =
  bif Nat.ble (l.length + s.size) fitsN then some (.ret (.tup [I s.size, .v .nilIface]) [some (bu (l ++ bytesTo s)), none]) else none := by kernel_rfl
theorem bl_0 (call : CallF) (m : Nat) (l : List Dat) : evFn PR TK call m 35 [.box 0 0] [some (bu l)] = some (.ret (I l.length) [some (bu l)]) := by kernel_rfl
def isBu (T m E : Nat) : Bool := Nat.beq T 68 && Nat.beq m (sub 0 1) && Nat.beq E 5
def wbE : List AV → Bx → Option (Bool × Out)
  | [.box 0 0, .v (.int .u8 c)], [some [.self T, .row (some m) E l], none] => bif isBu T m E then some (Nat.ble (l.length + 1) fitsN, .ret (.v .nilIface) [some (bu (l ++ [.int c])), none]) else none
  | _, _ => none
def wsE : List AV → Bx → Option (Bool × Out)
  | [.box 0 0, .v (.string s)], [some [.self T, .row (some m) E l], none] => bif isBu T m E then some (Nat.ble (l.length + s.size) fitsN, .ret (.tup [I s.size, .v .nilIface]) [some (bu (l ++ bytesTo s)), none]) else none
  | _, _ => none
def blE : List AV → Bx → Option (Bool × Out)
  | [.box 0 0], [some [.self T, .row (some m) E l]] => bif isBu T m E then some (true, .ret (I l.length) [some (bu l)]) else none
  | _, _ => none
theorem isBu_eq {T m E : Nat} (h : isBu T m E = true) : T = 68 ∧ m = sub 0 1 ∧ E = 5 := by
  unfold isBu at h
  simp only [Bool.and_eq_true] at h
  exact ⟨Nat.eq_of_beq_eq_true h.1.1, Nat.eq_of_beq_eq_true h.1.2, Nat.eq_of_beq_eq_true h.2⟩
theorem wb_sound {ext : CallF} (hext : SoundCall PR ext) : SoundCall PR (addF 50 wbE ext) := by
  refine sound_both (sound_add (takes := TK) hmixP (cc_sound sound_none) _ (fn := (PR.funcs[50]?).getD default) (by kernel_rfl) (by kernel_rfl) wbE fun xs bs out h => ?_) hext
  unfold wbE at h
  split at h
  · obtain ⟨hc, h⟩ := bif_some h
    injection h with h
    injection h with h1 h2
    obtain ⟨rfl, rfl, rfl⟩ := isBu_eq hc
    subst h2
    refine ⟨1, (wb_0 _ _ _ _).trans ?_⟩
    rw [h1]; rfl
  · cases h
theorem ws_sound {ext : CallF} (hext : SoundCall PR ext) : SoundCall PR (addF 45 wsE ext) := by
  refine sound_both (sound_add (takes := TK) hmixP (cc_sound sound_none) _ (fn := (PR.funcs[45]?).getD default) (by kernel_rfl) (by kernel_rfl) wsE fun xs bs out h => ?_) hext
  unfold wsE at h
  split at h
  · obtain ⟨hc, h⟩ := bif_some h
    injection h with h
    injection h with h1 h2
    obtain ⟨rfl, rfl, rfl⟩ := isBu_eq hc
    subst h2
    refine ⟨1, (ws_0 _ _ _ _).trans ?_⟩
    rw [h1]; rfl
  · cases h
theorem bl_sound {ext : CallF} (hext : SoundCall PR ext) : SoundCall PR (addF 35 blE ext) := by
  refine sound_add (takes := TK) hmixP hext _ (fn := (PR.funcs[35]?).getD default) (by kernel_rfl) (by kernel_rfl) blE fun xs bs out h => ?_
  unfold blE at h
  split at h
  · obtain ⟨hc, h⟩ := bif_some h
    injection h with h
    injection h with h1 h2
    obtain ⟨rfl, rfl, rfl⟩ := isBu_eq hc
    subst h2
    exact ⟨1, bl_0 _ _ _⟩
  · cases h
def delB (c : Int) : Bool := c == 40 || (c == 41 || (c == 60 || (c == 62 || (c == 91 || (c == 93 || (c == 123 || (c == 125 || (c == 47 || c == 37))))))))
def plainB (c : Int) : Bool := ((decide (33 ≤ c) && decide (c ≤ 126)) && !delB c) && c != 35
def del1 : List Int → Int → Option Out
  | [], _ => bR1 false
  | [a], c => bif c == a then bR1 true else bR1 false
  | a :: l, c => bif c == a then (bif c == a then bR1 true else bR1 false) else del1 l c
theorem del_0 (call : CallF) (m : Nat) (c : Int) : evFn PR TK call m 75 [.v (.int .u8 c)] [none] = del1 [40, 41, 60, 62, 91, 93, 123, 125, 47, 37] c := by kernel_rfl
def delE : List AV → Bx → Option (Bool × Out)
  | [.v (.int .u8 c)], [none] => some (true, .ret (B (delB c)) [none])
  | _, _ => none
theorem del1_eq (c : Int) : del1 [40, 41, 60, 62, 91, 93, 123, 125, 47, 37] c = bR1 (delB c) := by
  unfold delB
  simp only [del1]
  cases c == 40 <;> cases c == 41 <;> cases c == 60 <;> cases c == 62 <;> cases c == 91 <;> cases c == 93 <;> cases c == 123 <;> cases c == 125 <;> cases c == 47 <;> cases c == 37 <;> rfl
theorem del_sound {ext : CallF} (hext : SoundCall PR ext) : SoundCall PR (addF 75 delE ext) := by
  refine sound_add (takes := TK) hmixP hext _ (fn := (PR.funcs[75]?).getD default) (by kernel_rfl) (by kernel_rfl) delE fun xs bs out h => ?_
  unfold delE at h
  split at h
  · cases h
    exact ⟨0, (del_0 _ _ _).trans (del1_eq _)⟩
  · cases h
def plainE : List AV → Bx → Option (Bool × Out)
  | [.v (.int .u8 c)], [none] => some (true, .ret (B (plainB c)) [none])
  | _, _ => none
theorem plain_0 (ext : CallF) (m : Nat) (c : Int) : evFn PR TK (addF 75 delE ext) m 60 [.v (.int .u8 c)] [none] =
    andK (decide (33 ≤ c)) (decide (c ≤ 126)) fun t => andK t (!delB c) fun t => andK t (c != 35) bR1 := by kernel_rfl
theorem plain_sound {ext : CallF} (hext : SoundCall PR ext) : SoundCall PR (addF 60 plainE ext) := by
  refine sound_both (sound_add (takes := TK) hmixP (del_sound sound_none) _ (fn := (PR.funcs[60]?).getD default) (by kernel_rfl) (by kernel_rfl) plainE fun xs bs out h => ?_) hext
  unfold plainE at h
  split at h
  · cases h
    refine ⟨0, (plain_0 _ _ _).trans ?_⟩
    simp only [andK_eq]
    rfl
  · cases h
def figs : ByteArray := ⟨#[48, 49, 50, 51, 52, 53, 54, 55, 56, 57, 65, 66, 67, 68, 69, 70]⟩
noncomputable def nmC (ext : CallF) : CallF := addF 50 wbE (addF 60 plainE ext)
def tR0 (l : List Dat) : Option Out := some (.ret (.tup []) [some (bu l), none])
noncomputable def onmL (call : CallF) (m r : Nat) (l : List Dat) (s : ByteArray) (i : Int) := loopF PR TK call m 48 [some (bu l), none] [true, true] r (sp 34 [(0, .box 0 0), (1, S s), (9, I s.size), (10, I i)] [(0, bu l)])
theorem oname_0 (ext : CallF) (m : Nat) (l : List Dat) (s : ByteArray) : evFn PR TK (nmC ext) m 48 [.box 0 0, S s] [some (bu l), none] =
  bif Nat.ble (l.length + 1) fitsN then onmL (nmC ext) m m (l ++ [.int 47]) s 0 else none := by kernel_rfl
def hi4 (c : Int) : Int := c.fdiv (2 ^ (min (4 : Int).toNat IntKind.u8.bits))
def lo4 (c : Int) : Int := IntKind.u8.wrap (BitVec.ofInt IntKind.u8.bits c &&& BitVec.ofInt IntKind.u8.bits 15).toNat
theorem oname_1 (ext : CallF) (m r : Nat) (l : List Dat) (s : ByteArray) (i : Int) : onmL (nmC ext) m (r + 1) l s i =
  bif decide (i < s.size) then (bif (true && decide (0 ≤ i) && decide (i < s.size)) then
    (bif plainB (bt s i) then (bif Nat.ble (l.length + 1) fitsN then onmL (nmC ext) m r (l ++ [.int (bt s i)]) s (W (i + 1)) else none) else
      bif Nat.ble (l.length + 1) fitsN then (bif (true && decide (0 ≤ hi4 (bt s i)) && decide (hi4 (bt s i) < (figs.size : Int))) then
        (bif Nat.ble ((l ++ [Dat.int 35]).length + 1) fitsN then (bif (true && decide (0 ≤ lo4 (bt s i)) && decide (lo4 (bt s i) < (figs.size : Int))) then
          (bif Nat.ble (((l ++ [Dat.int 35]) ++ [Dat.int (bt figs (hi4 (bt s i)))]).length + 1) fitsN then onmL (nmC ext) m r (((l ++ [Dat.int 35]) ++ [Dat.int (bt figs (hi4 (bt s i)))]) ++ [Dat.int (bt figs (lo4 (bt s i)))]) s (W (i + 1)) else none) else none) else none) else none) else none) else none)
  else tR0 l := by kernel_rfl
end Go.Proofs.YtckdgcpomkefpaaDoor.En
end
section
set_option linter.unusedVariables false
set_option linter.unusedSimpArgs false
set_option maxRecDepth 100000
namespace Go.Proofs.YtckdgcpomkefpaaDoor.En
open Go
def qu (c : Int) : Int := IntKind.u8.wrap (c.tdiv 16)
def andO {β : Type} (c : Bool) (d : Option Bool) (k : Bool → Option β) : Option β := (bif c then d else some false).bind k
theorem andO_eq {β : Type} (c d : Bool) (k : Bool → Option β) : andO c (some d) k = k (c && d) := by cases c <;> rfl
def okI (s : ByteArray) (i : Int) : Bool := true && decide (0 ≤ i) && decide (i < s.size)
def digOk (n : Nat) : Bool := okI figs (hi4 n) && (okI figs (lo4 n) && (decide (hi4 n = qu n) && decide (lo4 n = (n : Int).tmod 16)))
theorem dig_all : ∀ n : Fin 256, digOk n.val = true := by decide +kernel
theorem dig_ok (b : UInt8) : okI figs (hi4 b.toNat) = true ∧ okI figs (lo4 b.toNat) = true ∧ hi4 b.toNat = qu b.toNat ∧ lo4 b.toNat = (b.toNat : Int).tmod 16 := by
  have h := dig_all ⟨b.toNat, b.toNat_lt⟩
  unfold digOk at h
  simp only [Bool.and_eq_true, decide_eq_true_eq] at h
  exact ⟨h.1, h.2.1, h.2.2.1, h.2.2.2⟩
def esc (b : UInt8) : List Dat := bif plainB b.toNat then [Dat.int b.toNat] else [Dat.int 35, Dat.int (bt figs (hi4 b.toNat)), Dat.int (bt figs (lo4 b.toNat))]
def nameT (s : ByteArray) : List Dat := Dat.int 47 :: s.data.toList.flatMap esc
theorem esc_len (b : UInt8) : (esc b).length ≤ 3 := by unfold esc; cases plainB b.toNat <;> simp
theorem okI_nat {s : ByteArray} {i : Nat} (h : i < s.size) : okI s (i : Int) = true := by
  unfold okI
  rw [decide_eq_true (show (0 : Int) ≤ i by omega), decide_eq_true (show (i : Int) < s.size by omega)]; rfl
theorem fits_le {n : Nat} (h : n ≤ 1099511627776) : Nat.ble n fitsN = true := Nat.ble_eq_true_of_le h
theorem oname_loop {ext : CallF} {m : Nat} {s : ByteArray} (hf : s.size ≤ 140737488355328) : ∀ (n i r : Nat) (l : List Dat), i + n = s.data.toList.length → n < r → l.length + 3 * n ≤ 1099511627000 → onmL (nmC ext) m r l s (i : Int) = tR0 (l ++ (s.data.toList.drop i).flatMap esc) := by
  have hsz : s.data.toList.length = s.size := Array.length_toList
  intro n
  induction n with
  | zero =>
    intro i r l hi hr hl
    cases r with
    | zero => omega
    | succ r =>
      rw [oname_1, show decide ((i : Int) < s.size) = false from decide_eq_false (by omega), cond_false, List.drop_eq_nil_of_le (by omega), List.flatMap_nil, List.append_nil]
  | succ n ih =>
    intro i r l hi hr hl
    cases r with
    | zero => omega
    | succ r =>
      have h1 : i < s.data.toList.length := by omega
      have hbt := bt_nat s i h1
      obtain ⟨d1, d2, d3, d4⟩ := dig_ok s.data.toList[i]
      have hok : (true && decide ((0 : Int) ≤ i) && decide ((i : Int) < s.size)) = true := okI_nat (by omega)
      have d1' : (true && decide (0 ≤ hi4 (s.data.toList[i].toNat : Int)) && decide (hi4 (s.data.toList[i].toNat : Int) < (figs.size : Int))) = true := d1
      have d2' : (true && decide (0 ≤ lo4 (s.data.toList[i].toNat : Int)) && decide (lo4 (s.data.toList[i].toNat : Int) < (figs.size : Int))) = true := d2
      rw [oname_1, hok, show decide ((i : Int) < s.size) = true from decide_eq_true (by omega), cond_true, cond_true, hbt, d1', d2', W_in (n := (i : Int) + 1) (by omega), List.drop_eq_getElem_cons h1, List.flatMap_cons]
      have ih' := fun l h => ih (i + 1) r l (by omega) (by omega) h
      rw [show ((i + 1 : Nat) : Int) = (i : Int) + 1 by omega] at ih'
      rw [show esc s.data.toList[i] = bif plainB (s.data.toList[i].toNat : Int) then [Dat.int s.data.toList[i].toNat] else [Dat.int 35, Dat.int (bt figs (hi4 s.data.toList[i].toNat)), Dat.int (bt figs (lo4 s.data.toList[i].toNat))] from rfl]
      cases plainB (s.data.toList[i].toNat : Int)
      · rw [cond_false, cond_true, cond_true, fits_le (by omega), cond_true, fits_le (by simp; omega), cond_true, fits_le (by simp; omega), cond_true, ih' _ (by simp; omega), cond_false]
        simp
      · rw [cond_true, fits_le (by omega), cond_true, ih' _ (by simp; omega), cond_true]
        simp
def nmOk (s : ByteArray) (n : Nat) : Bool := Nat.ble s.size 100000000000 && Nat.ble n 500000000000
def nameE : List AV → Bx → Option (Bool × Out)
  | [.box 0 0, .v (.string s)], [some [.self T, .row (some m) E l], none] => bif isBu T m E then some (nmOk s l.length, .ret (.tup []) [some (bu (l ++ nameT s)), none]) else none
  | _, _ => none
theorem name_sound {ext : CallF} (hext : SoundCall PR ext) : SoundCall PR (addF 48 nameE ext) := by
  refine sound_both (sound_add (takes := TK) hmixP (wb_sound (plain_sound sound_none)) _ (fn := (PR.funcs[48]?).getD default) (by kernel_rfl) (by kernel_rfl) nameE fun xs bs out h => ?_) hext
  unfold nameE at h
  split at h
  · rename_i s T mm E l
    obtain ⟨hc, h⟩ := bif_some h
    injection h with h
    injection h with h1 h2
    obtain ⟨rfl, rfl, rfl⟩ := isBu_eq hc
    subst h2
    unfold nmOk at h1
    rw [Bool.and_eq_true] at h1
    have b1 := Nat.le_of_ble_eq_true h1.1
    have b2 := Nat.le_of_ble_eq_true h1.2
    have hsz : s.data.toList.length = s.size := Array.length_toList
    refine ⟨s.size + 1, (oname_0 _ _ _ _).trans ?_⟩
    have e := oname_loop (ext := fun _ _ _ => none) (m := s.size + 1) (s := s) (by omega) s.data.toList.length 0 (s.size + 1) (l ++ [Dat.int 47]) (by omega) (by omega) (by simp; omega)
    rw [List.drop_zero, show ((0 : Nat) : Int) = 0 from rfl] at e
    rw [fits_le (by omega), cond_true, e, List.append_assoc]
    rfl
  · cases h
end Go.Proofs.YtckdgcpomkefpaaDoor.En
end
section
set_option linter.unusedVariables false
set_option linter.unusedSimpArgs false
set_option maxRecDepth 100000
namespace Go.Proofs.YtckdgcpomkefpaaDoor.En
open Go
noncomputable def wbC (ext : CallF) : CallF := addF 50 wbE ext
noncomputable def txS (call : CallF) (m r : Nat) (l : List Dat) (s : ByteArray) (t : Bool) (i : Int) := loopF PR TK call m 49 [some (bu l), none] [true, false, true] r (sp 84 [(0, .box 0 0), (1, S s), (4, B t), (10, I s.size), (11, I i)] [(0, bu l)])
noncomputable def txH (call : CallF) (m r : Nat) (l : List Dat) (s : ByteArray) (i : Int) := loopF PR TK call m 49 [some (bu l), none] [true, true, false, true, false, true, false, true] r (sp 84 [(0, .box 0 0), (1, S s), (33, I s.size), (34, I i)] [(0, bu l)])
noncomputable def txP (call : CallF) (m r : Nat) (l : List Dat) (s : ByteArray) (i : Int) := loopF PR TK call m 49 [some (bu l), none] [true, true, true, true, false, true] r (sp 84 [(0, .box 0 0), (1, S s), (57, I s.size), (58, I i)] [(0, bu l)])
theorem otx_0 (ext : CallF) (m : Nat) (l : List Dat) (s : ByteArray) : evFn PR TK (wbC ext) m 49 [.box 0 0, S s] [some (bu l), none] = txS (wbC ext) m m l s true 0 := by kernel_rfl
theorem otx_1 (ext : CallF) (m r : Nat) (l : List Dat) (s : ByteArray) (t : Bool) (i : Int) : txS (wbC ext) m (r + 1) l s t i =
  bif decide (i < s.size) then
    andO t (bif okI s i then some (decide (32 ≤ bt s i)) else none) fun t => andO t (bif okI s i then some (decide (bt s i ≤ 126)) else none) fun t => txS (wbC ext) m r l s t (W (i + 1))
  else bif !t then (bif Nat.ble (l.length + 1) fitsN then txH (wbC ext) m m (l ++ [.int 60]) s 0 else none) else (bif Nat.ble (l.length + 1) fitsN then txP (wbC ext) m m (l ++ [.int 40]) s 0 else none) := by kernel_rfl
theorem otx_2 (ext : CallF) (m r : Nat) (l : List Dat) (s : ByteArray) (i : Int) : txH (wbC ext) m (r + 1) l s i =
  bif decide (i < s.size) then
    (bif okI s i then (bif okI figs (hi4 (bt s i)) then
      (bif Nat.ble (l.length + 1) fitsN then (bif okI s i then (bif okI figs (lo4 (bt s i)) then
          (bif Nat.ble ((l ++ [Dat.int (bt figs (hi4 (bt s i)))]).length + 1) fitsN then txH (wbC ext) m r ((l ++ [Dat.int (bt figs (hi4 (bt s i)))]) ++ [Dat.int (bt figs (lo4 (bt s i)))]) s (W (i + 1)) else none) else none) else none) else none) else none) else none)
  else bif Nat.ble (l.length + 1) fitsN then tR0 (l ++ [.int 62]) else none := by kernel_rfl
theorem otx_3 (ext : CallF) (m r : Nat) (l : List Dat) (s : ByteArray) (i : Int) : txP (wbC ext) m (r + 1) l s i =
  bif decide (i < s.size) then
    (bif okI s i then orK (bt s i == 40) (bt s i == 41) fun t => orK t (bt s i == 92) fun t =>
      bif t then (bif Nat.ble (l.length + 1) fitsN then (bif okI s i then
        (bif Nat.ble ((l ++ [Dat.int 92]).length + 1) fitsN then txP (wbC ext) m r ((l ++ [Dat.int 92]) ++ [Dat.int (bt s i)]) s (W (i + 1)) else none) else none) else none)
      else (bif okI s i then (bif Nat.ble (l.length + 1) fitsN then txP (wbC ext) m r (l ++ [Dat.int (bt s i)]) s (W (i + 1)) else none) else none) else none)
  else bif Nat.ble (l.length + 1) fitsN then tR0 (l ++ [.int 41]) else none := by kernel_rfl
end Go.Proofs.YtckdgcpomkefpaaDoor.En
end
section
set_option linter.unusedVariables false
set_option linter.unusedSimpArgs false
set_option maxRecDepth 100000
namespace Go.Proofs.YtckdgcpomkefpaaDoor.En
open Go
def shB (b : UInt8) : Bool := decide (32 ≤ (b.toNat : Int)) && decide ((b.toNat : Int) ≤ 126)
def escP (b : UInt8) : List Dat := bif ((b.toNat : Int) == 40 || (b.toNat : Int) == 41) || (b.toNat : Int) == 92 then [Dat.int 92, Dat.int b.toNat] else [Dat.int b.toNat]
def hex2 (b : UInt8) : List Dat := [Dat.int (bt figs (hi4 b.toNat)), Dat.int (bt figs (lo4 b.toNat))]
def hexT (s : ByteArray) : List Dat := (Dat.int 60 :: s.data.toList.flatMap hex2) ++ [Dat.int 62]
def parT (s : ByteArray) : List Dat := (Dat.int 40 :: s.data.toList.flatMap escP) ++ [Dat.int 41]
def txtT (s : ByteArray) : List Dat := bif s.data.toList.all shB then parT s else hexT s
theorem escP_len (b : UInt8) : (escP b).length ≤ 2 := by unfold escP; cases (((b.toNat : Int) == 40 || (b.toNat : Int) == 41) || (b.toNat : Int) == 92) <;> simp
theorem hex2_len (b : UInt8) : (hex2 b).length = 2 := rfl
theorem nat_succ_cast (i : Nat) : ((i + 1 : Nat) : Int) = (i : Int) + 1 := by omega
theorem txH_loop {ext : CallF} {m : Nat} {s : ByteArray} (hf : s.size ≤ 140737488355328) : ∀ (n i r : Nat) (l : List Dat), i + n = s.data.toList.length → n < r → l.length + 2 * n + 1 ≤ 1099511627000 → txH (wbC ext) m r l s (i : Int) = tR0 ((l ++ (s.data.toList.drop i).flatMap hex2) ++ [Dat.int 62]) := by
  have hsz : s.data.toList.length = s.size := Array.length_toList
  intro n
  induction n with
  | zero =>
    intro i r l hi hr hl
    cases r with
    | zero => omega
    | succ r =>
      rw [otx_2, show decide ((i : Int) < s.size) = false from decide_eq_false (by omega), cond_false, List.drop_eq_nil_of_le (by omega), List.flatMap_nil, List.append_nil, fits_le (by omega), cond_true]
  | succ n ih =>
    intro i r l hi hr hl
    cases r with
    | zero => omega
    | succ r =>
      have h1 : i < s.data.toList.length := by omega
      have hbt := bt_nat s i h1
      obtain ⟨d1, d2, d3, d4⟩ := dig_ok s.data.toList[i]
      have ih' := fun l h => ih (i + 1) r l (by omega) (by omega) h
      rw [nat_succ_cast] at ih'
      rw [otx_2, show decide ((i : Int) < s.size) = true from decide_eq_true (by omega), cond_true, okI_nat (s := s) (i := i) (by omega), cond_true, hbt, d1, cond_true, fits_le (by omega), cond_true, cond_true, d2, cond_true, fits_le (by simp; omega), cond_true, W_in (n := (i : Int) + 1) (by omega), ih' _ (by simp; omega), List.drop_eq_getElem_cons h1, List.flatMap_cons]
      simp [hex2]
theorem txP_loop {ext : CallF} {m : Nat} {s : ByteArray} (hf : s.size ≤ 140737488355328) : ∀ (n i r : Nat) (l : List Dat), i + n = s.data.toList.length → n < r → l.length + 2 * n + 1 ≤ 1099511627000 → txP (wbC ext) m r l s (i : Int) = tR0 ((l ++ (s.data.toList.drop i).flatMap escP) ++ [Dat.int 41]) := by
  have hsz : s.data.toList.length = s.size := Array.length_toList
  intro n
  induction n with
  | zero =>
    intro i r l hi hr hl
    cases r with
    | zero => omega
    | succ r =>
      rw [otx_3, show decide ((i : Int) < s.size) = false from decide_eq_false (by omega), cond_false, List.drop_eq_nil_of_le (by omega), List.flatMap_nil, List.append_nil, fits_le (by omega), cond_true]
  | succ n ih =>
    intro i r l hi hr hl
    cases r with
    | zero => omega
    | succ r =>
      have h1 : i < s.data.toList.length := by omega
      have hbt := bt_nat s i h1
      have ih' := fun l h => ih (i + 1) r l (by omega) (by omega) h
      rw [nat_succ_cast] at ih'
      rw [otx_3, show decide ((i : Int) < s.size) = true from decide_eq_true (by omega), cond_true, okI_nat (s := s) (i := i) (by omega), cond_true, hbt, orK_eq, orK_eq, W_in (n := (i : Int) + 1) (by omega), List.drop_eq_getElem_cons h1, List.flatMap_cons,
        show escP s.data.toList[i] = bif ((s.data.toList[i].toNat : Int) == 40 || (s.data.toList[i].toNat : Int) == 41) || (s.data.toList[i].toNat : Int) == 92 then [Dat.int 92, Dat.int s.data.toList[i].toNat] else [Dat.int s.data.toList[i].toNat] from rfl]
      cases (((s.data.toList[i].toNat : Int) == 40 || (s.data.toList[i].toNat : Int) == 41) || (s.data.toList[i].toNat : Int) == 92)
      · rw [cond_false, cond_true, fits_le (by omega), cond_true, ih' _ (by simp; omega), cond_false]
        simp
      · rw [cond_true, fits_le (by omega), cond_true, cond_true, fits_le (by simp; omega), cond_true, ih' _ (by simp; omega), cond_true]
        simp
theorem txS_loop {ext : CallF} {m : Nat} {s : ByteArray} (hf : s.size ≤ 140737488355328) (l : List Dat) (hl : l.length ≤ 1099511626000) : ∀ (n i r : Nat) (t : Bool), i + n = s.data.toList.length → n < r → txS (wbC ext) m r l s t (i : Int) =
    bif t && (s.data.toList.drop i).all shB then txP (wbC ext) m m (l ++ [.int 40]) s 0 else txH (wbC ext) m m (l ++ [.int 60]) s 0 := by
  have hsz : s.data.toList.length = s.size := Array.length_toList
  intro n
  induction n with
  | zero =>
    intro i r t hi hr
    cases r with
    | zero => omega
    | succ r =>
      rw [otx_1, show decide ((i : Int) < s.size) = false from decide_eq_false (by omega), cond_false, List.drop_eq_nil_of_le (by omega), List.all_nil, Bool.and_true, fits_le (by omega)]
      cases t
      · rw [show (!false) = true from rfl, cond_true, cond_true, cond_false]
      · rw [show (!true) = false from rfl, cond_false, cond_true, cond_true]
  | succ n ih =>
    intro i r t hi hr
    cases r with
    | zero => omega
    | succ r =>
      have h1 : i < s.data.toList.length := by omega
      have hbt := bt_nat s i h1
      have ih' := fun t => ih (i + 1) r t (by omega) (by omega)
      rw [nat_succ_cast] at ih'
      rw [otx_1, show decide ((i : Int) < s.size) = true from decide_eq_true (by omega), cond_true, okI_nat (s := s) (i := i) (by omega), cond_true, cond_true, hbt, andO_eq, andO_eq, W_in (n := (i : Int) + 1) (by omega), ih', List.drop_eq_getElem_cons h1, List.all_cons,
        show shB s.data.toList[i] = (decide (32 ≤ (s.data.toList[i].toNat : Int)) && decide ((s.data.toList[i].toNat : Int) ≤ 126)) from rfl, Bool.and_assoc, Bool.and_assoc, Bool.and_assoc]
def txtE : List AV → Bx → Option (Bool × Out)
  | [.box 0 0, .v (.string s)], [some [.self T, .row (some m) E l], none] => bif isBu T m E then some (nmOk s l.length, .ret (.tup []) [some (bu (l ++ txtT s)), none]) else none
  | _, _ => none
theorem text_sound {ext : CallF} (hext : SoundCall PR ext) : SoundCall PR (addF 49 txtE ext) := by
  refine sound_both (sound_add (takes := TK) hmixP (wb_sound sound_none) _ (fn := (PR.funcs[49]?).getD default) (by kernel_rfl) (by kernel_rfl) txtE fun xs bs out h => ?_) hext
  unfold txtE at h
  split at h
  · rename_i s T mm E l
    obtain ⟨hc, h⟩ := bif_some h
    injection h with h
    injection h with h1 h2
    obtain ⟨rfl, rfl, rfl⟩ := isBu_eq hc
    subst h2
    unfold nmOk at h1
    rw [Bool.and_eq_true] at h1
    have b1 := Nat.le_of_ble_eq_true h1.1
    have b2 := Nat.le_of_ble_eq_true h1.2
    have hsz : s.data.toList.length = s.size := Array.length_toList
    refine ⟨s.size + 1, (otx_0 _ _ _ _).trans ?_⟩
    have e := txS_loop (ext := fun _ _ _ => none) (m := s.size + 1) (s := s) (by omega) l (by omega) s.data.toList.length 0 (s.size + 1) true (by omega) (by omega)
    have e1 := txP_loop (ext := fun _ _ _ => none) (m := s.size + 1) (s := s) (by omega) s.data.toList.length 0 (s.size + 1) (l ++ [Dat.int 40]) (by omega) (by omega) (by simp; omega)
    have e2 := txH_loop (ext := fun _ _ _ => none) (m := s.size + 1) (s := s) (by omega) s.data.toList.length 0 (s.size + 1) (l ++ [Dat.int 60]) (by omega) (by omega) (by simp; omega)
    rw [List.drop_zero, show ((0 : Nat) : Int) = 0 from rfl] at e e1 e2
    rw [e, e1, e2, Bool.true_and]
    unfold txtT
    cases s.data.toList.all shB
    · rw [cond_false, cond_false]; unfold hexT; simp [tR0]
    · rw [cond_true, cond_true]; unfold parT; simp [tR0]
  · cases h
end Go.Proofs.YtckdgcpomkefpaaDoor.En
end
section
namespace Go.Proofs.YtckdgcpomkefpaaDoor.En
open Go
set_option linter.unusedVariables false
set_option linter.unusedSimpArgs false
def val (l : List Nat) : Nat := l.foldl (fun n d => 10 * n + d) 0
theorem val_from (l : List Nat) : ∀ n, l.foldl (fun n d => 10 * n + d) n = n * 10 ^ l.length + val l := by
  induction l with
  | nil => intro n; simp [val]
  | cons a l ih =>
    intro n
    simp only [List.foldl_cons, List.length_cons, val]
    rw [ih, ih (10 * 0 + a), Nat.pow_succ]
    have : (10 * n + a) * 10 ^ l.length = n * (10 ^ l.length * 10) + a * 10 ^ l.length := by
      rw [Nat.add_mul]; congr 1
      rw [Nat.mul_comm 10 n, Nat.mul_assoc, Nat.mul_comm 10]
    rw [this]; simp; omega
theorem val_cons (a : Nat) (l : List Nat) : val (a :: l) = a * 10 ^ l.length + val l := by
  show l.foldl _ (10 * 0 + a) = _
  rw [val_from]; simp
theorem val_snoc (l : List Nat) (a : Nat) : val (l ++ [a]) = 10 * val l + a := by simp [val]
theorem val_lt : ∀ l : List Nat, (∀ d ∈ l, d < 10) → val l < 10 ^ l.length
  | [], _ => by simp [val]
  | a :: l, h => by
    have h1 := val_lt l (fun d hd => h d (List.mem_cons_of_mem _ hd))
    have h2 := h a List.mem_cons_self
    rw [val_cons, List.length_cons, Nat.pow_succ]
    have : a * 10 ^ l.length ≤ 9 * 10 ^ l.length := Nat.mul_le_mul_right _ (by omega)
    omega
theorem val_inj : ∀ a b : List Nat, a.length = b.length → (∀ d ∈ a, d < 10) → (∀ d ∈ b, d < 10) → val a = val b → a = b
  | [], [], _, _, _, _ => rfl
  | [], _ :: _, h, _, _, _ => by simp at h
  | _ :: _, [], h, _, _, _ => by simp at h
  | x :: a, y :: b, hl, ha, hb, hv => by
    have hl' : a.length = b.length := by simpa using hl
    have h1 := val_lt a (fun d hd => ha d (List.mem_cons_of_mem _ hd))
    have h2 := val_lt b (fun d hd => hb d (List.mem_cons_of_mem _ hd))
    rw [val_cons, val_cons, hl'] at hv
    rw [hl'] at h1
    have hxy : x = y := by
      have e1 : (x * 10 ^ b.length + val a) / 10 ^ b.length = x := by
        rw [Nat.mul_comm, Nat.mul_add_div (Nat.pow_pos (by omega)), Nat.div_eq_of_lt h1]; rfl
      have e2 : (y * 10 ^ b.length + val b) / 10 ^ b.length = y := by
        rw [Nat.mul_comm, Nat.mul_add_div (Nat.pow_pos (by omega)), Nat.div_eq_of_lt h2]; rfl
      rw [← e1, ← e2, hv]
    subst hxy
    rw [val_inj a b hl' (fun d hd => ha d (List.mem_cons_of_mem _ hd)) (fun d hd => hb d (List.mem_cons_of_mem _ hd)) (by omega)]
theorem val_replicate (k : Nat) (l : List Nat) : val (List.replicate k 0 ++ l) = val l := by
  induction k with
  | zero => simp
  | succ k ih => rw [List.replicate_succ, List.cons_append, val_cons, ih]; simp
def natDigits (u : Nat) : List Nat := if h : u < 10 then [u] else natDigits (u / 10) ++ [u % 10]
termination_by u
decreasing_by omega
theorem natDigits_small {u : Nat} (h : u < 10) : natDigits u = [u] := by rw [natDigits, dif_pos h]
theorem natDigits_big {u : Nat} (h : ¬ u < 10) : natDigits u = natDigits (u / 10) ++ [u % 10] := by rw [natDigits, dif_neg h]
theorem natDigits_digits (u : Nat) : ∀ d ∈ natDigits u, d < 10 := by
  induction u using Nat.strongRecOn with
  | _ u ih =>
    by_cases h : u < 10
    · rw [natDigits_small h]; simpa using h
    · rw [natDigits_big h]
      intro d hd
      rcases List.mem_append.1 hd with h1 | h1
      · exact ih (u / 10) (by omega) d h1
      · simp at h1; omega
theorem val_natDigits (u : Nat) : val (natDigits u) = u := by
  induction u using Nat.strongRecOn with
  | _ u ih =>
    by_cases h : u < 10
    · rw [natDigits_small h]; simp [val]
    · rw [natDigits_big h, val_snoc, ih (u / 10) (by omega)]; omega
theorem natDigits_pos (u : Nat) : 1 ≤ (natDigits u).length := by
  by_cases h : u < 10
  · rw [natDigits_small h]; simp
  · rw [natDigits_big h]; simp
theorem natDigits_length (k : Nat) : ∀ u, u < 10 ^ (k + 1) → (natDigits u).length ≤ k + 1 := by
  induction k with
  | zero => intro u h; rw [natDigits_small (by simpa using h)]; simp
  | succ k ih =>
    intro u h
    by_cases h1 : u < 10
    · rw [natDigits_small h1]; simp
    · rw [natDigits_big h1, List.length_append, List.length_singleton]
      have := ih (u / 10) (by rw [Nat.pow_succ] at h; omega)
      omega
def full : Nat → Nat → List Nat
  | 0, _ => []
  | k + 1, r => (r * 10 / 65536) :: full k (r * 10 % 65536)
def remk : Nat → Nat → Nat
  | 0, r => r
  | k + 1, r => remk k (r * 10 % 65536)
def fracD : Nat → Nat → List Nat
  | 0, _ => []
  | k + 1, r => if r = 0 then [] else (r * 10 / 65536) :: fracD k (r * 10 % 65536)
theorem full_length : ∀ k r, (full k r).length = k
  | 0, _ => rfl
  | k + 1, r => by simp [full, full_length k]
theorem full_digits : ∀ k r, r < 65536 → ∀ d ∈ full k r, d < 10
  | 0, _, _, d, h => by simp [full] at h
  | k + 1, r, hr, d, h => by
    simp only [full, List.mem_cons] at h
    rcases h with rfl | h
    · omega
    · exact full_digits k _ (Nat.mod_lt _ (by omega)) d h
theorem full_val : ∀ k r, r < 65536 → val (full k r) * 65536 + remk k r = r * 10 ^ k ∧ remk k r < 65536
  | 0, r, hr => by simp [full, remk, val, hr]
  | k + 1, r, hr => by
    obtain ⟨h1, h2⟩ := full_val k (r * 10 % 65536) (Nat.mod_lt _ (by omega))
    refine ⟨?_, h2⟩
    simp only [full, remk]
    rw [val_cons, full_length, Nat.add_mul, Nat.add_assoc, h1, Nat.pow_succ]
    have e : r * (10 ^ k * 10) = (r * 10) * 10 ^ k := by rw [Nat.mul_comm (10 ^ k) 10, Nat.mul_assoc]
    rw [e, Nat.mul_right_comm, ← Nat.add_mul, Nat.div_add_mod']
theorem fracD_zero (k : Nat) : fracD k 0 = [] := by cases k <;> simp [fracD]
theorem fracD_length : ∀ k r, (fracD k r).length ≤ k
  | 0, _ => by simp [fracD]
  | k + 1, r => by
    simp only [fracD]
    split
    · simp
    · have := fracD_length k (r * 10 % 65536)
      simp; omega
def trimZ (l : List Nat) : List Nat := (l.reverse.dropWhile (· == 0)).reverse
theorem dropWhile_append_ {α : Type} (p : α → Bool) (a b : List α) : (a ++ b).dropWhile p = if a.dropWhile p = [] then b.dropWhile p else a.dropWhile p ++ b := by
  induction a with
  | nil => simp
  | cons x a ih =>
    simp only [List.cons_append, List.dropWhile_cons]
    split
    · exact ih
    · simp
theorem trimZ_cons (d : Nat) (l : List Nat) : trimZ (d :: l) = if trimZ l = [] ∧ d = 0 then [] else d :: trimZ l := by
  unfold trimZ
  rw [List.reverse_cons, dropWhile_append_]
  by_cases h : l.reverse.dropWhile (· == 0) = []
  · rw [if_pos h, h]
    by_cases hd : d = 0
    · subst hd; simp
    · simp [hd]
  · rw [if_neg h]
    simp [h]
theorem trimZ_full : ∀ k r, r < 65536 → remk k r = 0 → trimZ (full k r) = fracD k r
  | 0, _, _, _ => rfl
  | k + 1, r, hr, h => by
    have ih := trimZ_full k (r * 10 % 65536) (Nat.mod_lt _ (by omega)) h
    simp only [full, trimZ_cons, ih, fracD]
    by_cases h0 : r = 0
    · subst h0; simp [fracD_zero]
    · rw [if_neg h0, if_neg]
      rintro ⟨h1, h2⟩
      have h3 : r * 10 % 65536 = 0 := by
        cases k with
        | zero => simpa [remk] using h
        | succ k =>
          simp only [fracD] at h1
          split at h1
          · assumption
          · cases h1
      omega
theorem ten16 : (10 : Nat) ^ 16 = 152587890625 * 65536 := by decide
theorem rem_key (v m r : Nat) (h1 : v * 65536 + m = r * 10 ^ 16) (h2 : m < 65536) : m = 0 ∧ v = r * 152587890625 := by
  rw [ten16, ← Nat.mul_assoc] at h1
  obtain ⟨q, hq⟩ : ∃ q, q = r * 152587890625 := ⟨_, rfl⟩
  rw [← hq] at h1 ⊢
  omega
theorem rem16 (r : Nat) (hr : r < 65536) : remk 16 r = 0 ∧ val (full 16 r) = r * 152587890625 :=
  rem_key _ _ r (full_val 16 r hr).1 (full_val 16 r hr).2
attribute [irreducible] full fracD remk
end Go.Proofs.YtckdgcpomkefpaaDoor.En
end
section
set_option linter.unusedVariables false
set_option linter.unusedSimpArgs false
set_option maxRecDepth 100000
namespace Go.Proofs.YtckdgcpomkefpaaDoor.En
open Go
def trimE : List AV → Bx → Option (Bool × Out)
  | [.v (.string s), .v (.string c)], [none, none] => (match c.data.toList with
    | [b] => some (Nat.blt b.toNat 128 && Nat.ble s.size 9223372036854775807, .ret (S ⟨(Lib.trimRightB s.data.toList b).toArray⟩) [none, none])
    | _ => none)
  | _, _ => none
theorem trim_sound {ext : CallF} (hext : SoundCall PR ext) : SoundCall PR (addF 58 trimE ext) := by
  refine sound_ext hext _ (fn := (PR.funcs[58]?).getD default) (by kernel_rfl) (by kernel_rfl) trimE fun xs bs out h g w vs hm hL hl hv hr => ?_
  unfold trimE at h
  split at h
  · rename_i s c
    split at h
    · rename_i b hb
      injection h with h
      injection h with hc h
      subst h
      rw [Bool.and_eq_true] at hc
      obtain rfl := args_v (P := PR) [.string s, .string c] hv hr
      have hc' : c = ⟨#[b]⟩ := by
        cases c with | mk d => cases d with | mk l => simp at hb; subst hb; rfl
      subst hc'
      refine (Tryd.strings_TrimRight_one s b (Nat.le_of_ble_eq_true hc.1) w (Nat.le_of_ble_eq_true hc.2)).mono fun e w' he => ?_
      obtain ⟨rfl, rfl⟩ := he
      exact post_v hm (by simp) rfl (Fr.refl _ _)
    · cases h
  · cases h
def repE : List AV → Bx → Option (Bool × Out)
  | [.v (.string s), .v (.int .i64 n)], [none, none] => some (decide (0 ≤ n) && (decide (n ≤ 9223372036854775807) && Nat.ble (s.size * n.toNat) 140737488355328), .ret (S ⟨(Lib.repeatL s.data.toList n.toNat).toArray⟩) [none, none])
  | _, _ => none
theorem rep_sound {ext : CallF} (hext : SoundCall PR ext) : SoundCall PR (addF 59 repE ext) := by
  refine sound_ext hext _ (fn := (PR.funcs[59]?).getD default) (by kernel_rfl) (by kernel_rfl) repE fun xs bs out h g w vs hm hL hl hv hr => ?_
  unfold repE at h
  split at h
  · rename_i s n
    injection h with h
    injection h with hc h
    subst h
    rw [Bool.and_eq_true, Bool.and_eq_true, decide_eq_true_eq, decide_eq_true_eq] at hc
    obtain ⟨c1, c2, c3⟩ := hc
    obtain rfl := args_v (P := PR) [.string s, .int .i64 n] hv hr
    have hn : ((n.toNat : Nat) : Int) = n := Int.toNat_of_nonneg c1
    have := Tryd.strings_Repeat s n.toNat w (by omega) (Nat.le_of_ble_eq_true c3)
    rw [hn] at this
    refine this.mono fun e w' he => ?_
    obtain ⟨rfl, hb⟩ := he
    exact post_v hm (by simp) rfl (Fr.of_below hb (Nat.le_refl _))
  · cases h
def fbE : List AV → Bx → Option (Bool × Out)
  | [.v (.bool b)], [none] => some (true, .ret (S (bif b then ⟨#[116, 114, 117, 101]⟩ else ⟨#[102, 97, 108, 115, 101]⟩)) [none])
  | _, _ => none
theorem fb_0 (call : CallF) (m : Nat) (b : Bool) : evFn PR TK call m 57 [B b] [none] = bif b then some (.ret (S ⟨#[116, 114, 117, 101]⟩) [none]) else some (.ret (S ⟨#[102, 97, 108, 115, 101]⟩) [none]) := by kernel_rfl
theorem fb_1 (ext : CallF) (m : Nat) (b : Bool) : evFn PR TK (addF 57 fbE ext) m 46 [B b] [none] = some (.ret (S (bif b then ⟨#[116, 114, 117, 101]⟩ else ⟨#[102, 97, 108, 115, 101]⟩)) [none]) := by kernel_rfl
theorem fb0_sound {ext : CallF} (hext : SoundCall PR ext) : SoundCall PR (addF 57 fbE ext) := by
  refine sound_add (takes := TK) hmixP hext _ (fn := (PR.funcs[57]?).getD default) (by kernel_rfl) (by kernel_rfl) fbE fun xs bs out h => ?_
  unfold fbE at h
  split at h
  · rename_i b
    cases h
    refine ⟨0, (fb_0 _ _ _).trans ?_⟩
    cases b <;> rfl
  · cases h
theorem fb_sound {ext : CallF} (hext : SoundCall PR ext) : SoundCall PR (addF 46 fbE ext) := by
  refine sound_both (sound_add (takes := TK) hmixP (fb0_sound sound_none) _ (fn := (PR.funcs[46]?).getD default) (by kernel_rfl) (by kernel_rfl) fbE fun xs bs out h => ?_) hext
  unfold fbE at h
  split at h
  · rename_i b
    cases h
    exact ⟨0, fb_1 _ _ _⟩
  · cases h
def itOk (n : Int) : Bool := decide (-9223372036854775808 ≤ n) && decide (n ≤ 9223372036854775807)
def itS (n : Int) : ByteArray := ⟨(itoaF n).toArray⟩
def glueO {β : Type} (a b : ByteArray) (k : ByteArray → Option β) : Option β := bif decide (a.size + b.size ≤ 4611686018427387904) then k (a ++ b) else none
def sh16 (x : Int) : Int := x.fdiv (2 ^ (min (16 : Int).toNat IntKind.i64.bits))
def an16 (x : Int) : Int := IntKind.i64.wrap (BitVec.ofInt IntKind.i64.bits x &&& BitVec.ofInt IntKind.i64.bits 65535).toNat
def repOk (n : Int) : Bool := decide (0 ≤ n) && (decide (n ≤ 9223372036854775807) && Nat.ble (1 * n.toNat) 140737488355328)
def zeros (n : Int) : ByteArray := ⟨(Lib.repeatL [48] n.toNat).toArray⟩
def cut0 (s : ByteArray) : ByteArray := ⟨(Lib.trimRightB s.data.toList 48).toArray⟩
noncomputable def dgC (ext : CallF) : CallF := addF 40 inE (addF 24 itoaE (addF 59 repE (addF 58 trimE ext)))
def dR (s : ByteArray) (b : Bool) : Option Out := some (.ret (.tup [S s, B b]) [none])
noncomputable def dgK (sg : ByteArray) (x : Int) : Option Out :=
  bif itOk (sh16 x) then glueO sg (itS (sh16 x)) fun s =>
    bif an16 x != 0 then (bif itOk (W (an16 x * 152587890625)) then
      (bif repOk (W (16 - (itS (W (an16 x * 152587890625))).size)) then glueO (zeros (W (16 - (itS (W (an16 x * 152587890625))).size))) (itS (W (an16 x * 152587890625))) fun t =>
        (bif Nat.ble t.size 9223372036854775807 then glueO ⟨#[46]⟩ (cut0 t) fun u => glueO s u fun v => dR v true else none) else none) else none)
    else dR s true else none
theorem dg_0 (ext : CallF) (m : Nat) (x : Int) : evFn PR TK (dgC ext) m 47 [I x] [none] =
  bif !inB x then dR ⟨#[]⟩ false else bif decide (x < 0) then dgK ⟨#[45]⟩ (W (0 - x)) else dgK ⟨#[]⟩ x := by kernel_rfl
end Go.Proofs.YtckdgcpomkefpaaDoor.En
end
section
set_option linter.unusedVariables false
set_option linter.unusedSimpArgs false
set_option maxRecDepth 100000
namespace Go.Proofs.YtckdgcpomkefpaaDoor.En
open Go
def bs (l : List UInt8) : ByteArray := ⟨l.toArray⟩
theorem bs_size (l : List UInt8) : (bs l).size = l.length := by simp [bs, ByteArray.size]
def asU (l : List Nat) : List UInt8 := l.map fun d => UInt8.ofNat (48 + d)
theorem asU_append (a b : List Nat) : asU (a ++ b) = asU a ++ asU b := by simp [asU]
theorem asU_length (a : List Nat) : (asU a).length = a.length := by simp [asU]
theorem ba_inj {a b : ByteArray} (h : a.data.toList = b.data.toList) : a = b := by
  cases a; cases b; simp only [Array.toList_inj] at h; subst h; rfl
theorem bs_append (a b : List UInt8) : bs a ++ bs b = bs (a ++ b) := ba_inj (by
  show (bs a ++ bs b).data.toList = _
  rw [ByteArray.data_append, Array.toList_append]; rfl)
theorem decDigits_asU (u : Nat) : Lib.decDigits u = asU (natDigits u) := by
  induction u using Nat.strongRecOn with
  | _ u ih =>
    rw [Lib.decDigits]
    by_cases h : u < 10
    · rw [dif_pos h, natDigits_small h]; rfl
    · rw [dif_neg h, natDigits_big h, asU_append, ih (u / 10) (by omega)]; rfl
theorem itS_nat (u : Nat) (h : u ≤ 9223372036854775807) : itS (u : Int) = bs (asU (natDigits u)) := by
  unfold itS
  rw [itoaF_eq (by omega) (by omega), Lib.itoa_nonneg, decDigits_asU]; rfl
theorem itOk_nat {u : Nat} (h : u ≤ 9223372036854775807) : itOk (u : Int) = true := by
  unfold itOk
  rw [decide_eq_true (by omega), decide_eq_true (by omega)]; rfl
theorem glueO_eq {β : Type} {a b : ByteArray} (k : ByteArray → Option β) (h : a.size + b.size ≤ 4611686018427387904) : glueO a b k = k (a ++ b) := by
  unfold glueO
  rw [decide_eq_true h]; rfl
theorem glue_bs {β : Type} {a b : List UInt8} (k : ByteArray → Option β) (h : a.length + b.length ≤ 1000000) : glueO (bs a) (bs b) k = k (bs (a ++ b)) := by
  rw [glueO_eq _ (by rw [bs_size, bs_size]; omega), bs_append]
theorem sh16_nat (u : Nat) : sh16 (u : Int) = ((u / 65536 : Nat) : Int) := by
  unfold sh16
  rw [show (2 : Int) ^ (min (16 : Int).toNat IntKind.i64.bits) = 65536 from rfl, Int.fdiv_eq_ediv_of_nonneg _ (by omega)]
  omega
theorem an16_nat (u : Nat) (h : u < 4611686018427387904) : an16 (u : Int) = ((u % 65536 : Nat) : Int) := by
  unfold an16
  have e : (BitVec.ofInt IntKind.i64.bits (u : Int) &&& BitVec.ofInt IntKind.i64.bits 65535).toNat = u % 65536 := by
    rw [BitVec.toNat_and, BitVec.toNat_ofInt, BitVec.toNat_ofInt]
    have e1 : ((u : Int) % ((2 ^ IntKind.i64.bits : Nat) : Int)).toNat = u := by
      show ((u : Int) % 18446744073709551616).toNat = u
      omega
    have e2 : ((65535 : Int) % ((2 ^ IntKind.i64.bits : Nat) : Int)).toNat = 2 ^ 16 - 1 := rfl
    rw [e1, e2, Nat.and_two_pow_sub_one_eq_mod]
  rw [e]
  exact IntWalk.i64_in _ (by omega)
def textBody (u : Nat) : List UInt8 := asU (natDigits (u / 65536)) ++ if u % 65536 = 0 then [] else 46 :: asU (fracD 16 (u % 65536))
def fixT (x : Int) : ByteArray := bs ((if x < 0 then [45] else []) ++ textBody x.natAbs)
theorem trimRight_asU (l : List Nat) (h : ∀ d ∈ l, d < 10) : Lib.trimRightB (asU l) 48 = asU (trimZ l) := by
  unfold Lib.trimRightB trimZ asU
  rw [← List.map_reverse]
  have h' : ∀ d ∈ l.reverse, d < 10 := fun d hd => h d (List.mem_reverse.1 hd)
  generalize l.reverse = m at h' ⊢
  rw [List.map_reverse]
  congr 1
  induction m with
  | nil => rfl
  | cons a m ih =>
    have ha := h' a List.mem_cons_self
    simp only [List.map_cons, List.dropWhile_cons]
    have e : (UInt8.ofNat (48 + a) == 48) = (a == 0) := by
      rw [Bool.eq_iff_iff, beq_iff_eq, beq_iff_eq]
      constructor
      · intro h1
        have := congrArg UInt8.toNat h1
        simp at this; omega
      · rintro rfl; rfl
    rw [e]
    split
    · exact ih (fun d hd => h' d (List.mem_cons_of_mem _ hd))
    · rfl
theorem repeat_asU (n : Nat) : Lib.repeatL [48] n = asU (List.replicate n 0) := by
  induction n with
  | zero => rfl
  | succ n ih => rw [Lib.repeatL, ih]; rfl
theorem padded (r : Nat) (hr : r < 65536) : List.replicate (16 - (natDigits (r * 152587890625)).length) 0 ++ natDigits (r * 152587890625) = full 16 r := by
  have hl : (natDigits (r * 152587890625)).length ≤ 16 := natDigits_length 15 _ (by omega)
  apply val_inj
  · rw [List.length_append, List.length_replicate, full_length]; omega
  · intro d hd
    rcases List.mem_append.1 hd with h | h
    · rw [List.eq_of_mem_replicate h]; omega
    · exact natDigits_digits _ d h
  · exact full_digits 16 r hr
  · rw [val_replicate, val_natDigits, (rem16 r hr).2]
theorem part_len (r : Nat) (hr : r < 65536) : (natDigits (r * 152587890625)).length ≤ 16 := natDigits_length 15 _ (by omega)
theorem cut0_eq (l : List UInt8) : cut0 (bs l) = bs (Lib.trimRightB l 48) := rfl
theorem zeros_eq (n : Nat) : zeros (n : Int) = bs (asU (List.replicate n 0)) := by
  unfold zeros
  rw [Int.toNat_natCast, repeat_asU]; rfl
theorem repOk_nat {n : Nat} (h : n ≤ 16) : repOk (n : Int) = true := by
  unfold repOk
  rw [decide_eq_true (by omega), decide_eq_true (by omega), Nat.ble_eq_true_of_le (by rw [Int.toNat_natCast]; omega)]; rfl
theorem dgK_run (u : Nat) (hu : u ≤ 1099511627776) (p : List UInt8) (hp : p.length ≤ 1) : dgK (bs p) (u : Int) = dR (bs (p ++ textBody u)) true := by
  have hl1 : (natDigits (u / 65536)).length ≤ 8 := natDigits_length 7 _ (by omega)
  unfold dgK
  rw [sh16_nat, itOk_nat (by omega), cond_true, itS_nat _ (by omega), glue_bs _ (by rw [asU_length]; omega), an16_nat u (by omega)]
  by_cases h0 : u % 65536 = 0
  · rw [h0]
    unfold textBody
    rw [if_pos h0, List.append_nil]; rfl
  · have hr : u % 65536 < 65536 := Nat.mod_lt _ (by omega)
    rw [show (((u % 65536 : Nat) : Int) != 0) = true by rw [bne_iff_ne]; omega, cond_true]
    unfold textBody
    rw [if_neg h0]
    generalize u % 65536 = r at hr ⊢
    have hpad := padded r hr
    have hl := part_len r hr
    have hl0 := natDigits_pos (r * 152587890625)
    rw [W_in (n := (r : Int) * 152587890625) (by omega), show (r : Int) * 152587890625 = ((r * 152587890625 : Nat) : Int) by omega, itOk_nat (by omega), cond_true, itS_nat _ (by omega)]
    generalize natDigits (r * 152587890625) = D at hpad hl hl0 ⊢
    generalize natDigits (u / 65536) = V at hl1 ⊢
    have hl3 := fracD_length 16 r
    have e5 : cut0 (bs (asU (full 16 r))) = bs (asU (fracD 16 r)) := by
      rw [cut0_eq, trimRight_asU _ (full_digits 16 _ hr), trimZ_full 16 _ hr (rem16 _ hr).1]
    have hfl := full_length 16 r
    generalize full 16 r = F at hpad e5 hfl
    generalize fracD 16 r = G at e5 hl3 ⊢
    rw [bs_size, asU_length, W_in (n := (16 : Int) - (D.length : Int)) (by omega), show (16 : Int) - (D.length : Int) = ((16 - D.length : Nat) : Int) by omega, repOk_nat (by omega), cond_true, zeros_eq,
      glue_bs _ (by rw [asU_length, asU_length, List.length_replicate]; omega), ← asU_append, hpad, bs_size, asU_length, hfl, e5, show Nat.ble 16 9223372036854775807 = true from rfl, cond_true]
    rw [show (⟨#[46]⟩ : ByteArray) = bs [46] from rfl, glue_bs _ (by rw [asU_length, List.length_singleton]; omega), glue_bs _ (by simp only [List.length_append, asU_length, List.length_cons, List.length_nil]; omega), List.append_assoc]
    rfl
theorem inB_of {x : Int} (h : inB x = true) : -1099511627776 ≤ x ∧ x ≤ 1099511627776 := by
  unfold inB at h
  rw [Bool.and_eq_true, decide_eq_true_eq, decide_eq_true_eq] at h
  exact h
def fixE : List AV → Bx → Option (Bool × Out)
  | [.v (.int .i64 x)], [none] => some (inB x, .ret (.tup [S (fixT x), B true]) [none])
  | _, _ => none
theorem dg_sound {ext : CallF} (hext : SoundCall PR ext) : SoundCall PR (addF 47 fixE ext) := by
  refine sound_both (sound_add (takes := TK) hmixP (in_sound (itoa_sound (rep_sound (trim_sound sound_none)))) _ (fn := (PR.funcs[47]?).getD default) (by kernel_rfl) (by kernel_rfl) fixE fun xs bs out h => ?_) hext
  unfold fixE at h
  split at h
  · rename_i x
    injection h with h
    injection h with h1 h2
    subst h2
    refine ⟨0, (dg_0 _ _ _).trans ?_⟩
    obtain ⟨b1, b2⟩ := inB_of h1
    rw [h1, Bool.not_true, cond_false]
    unfold fixT
    by_cases h3 : x < 0
    · rw [decide_eq_true h3, cond_true, if_pos h3, W_in (n := 0 - x) (by omega), show 0 - x = (x.natAbs : Int) by omega]
      exact dgK_run x.natAbs (by omega) [45] (by simp)
    · rw [decide_eq_false h3, cond_false, if_neg h3]
      have := dgK_run x.natAbs (by omega) [] (by simp)
      rw [show (x.natAbs : Int) = x by omega] at this
      exact this
  · cases h
end Go.Proofs.YtckdgcpomkefpaaDoor.En
end
end
