/- Part 5 of a proof: what it needs of the program's functions as plain Lean functions, with the proof that the machine's calls come to them, and of plain laws; put together out of smaller texts. No conditions besides those that each statement names. -/
import Derived.Deep.Slices
import Derived.Recover
import Derived.Shelf.Strings.Builder1
import Derived.SizedLaws
import Derived.Test.YtckdgcpomkefpaaGreatDoorLa0
import Derived.Test.YtckdgcpomkefpaaGreatDoorLa4
section
set_option linter.unusedVariables false
set_option linter.unusedSimpArgs false
namespace Go.Proofs.YtckdgcpomkefpaaGreatDoor.En
open Go Go.RowKit Go.ChangeShapes Go.WideShapes
inductive Sz (P : Program) : CK → Dat → Prop
  | int (k : IntKind) (d : Dat) : (Lit.int k d.toI).wf = true → Sz P (.int k) d
  | bool (d : Dat) : Sz P .bool d
  | str (d : Dat) : d.toS.size ≤ reachBytes → Sz P .str d
  | row (E : TypeId) (ks : List CK) (d : Dat) : kinds P E = some ks → d.toL.length * P.bytesOf E ≤ reachBytes → (∀ e ∈ d.toL, ∀ (j : Nat) k, ks[j]? = some k → Sz P k (e.at j)) → Sz P (.row E) d
  | self (d : Dat) : Sz P .self d
  | other (d : Dat) : Sz P .other d
structure Opn1 (P : Program) (w : World) (k : CK) (d : Dat) (u : Value) : Prop where
  one : u.oneCell' = true
  sc : scal k d u
  row : ∀ E, k = .row E → RepRow P (g0 w).G w E d.toL u
  sz : Sz P k d
structure Opn (P : Program) (w : World) (ks : List CK) (ds : List Dat) (cs : List Value) : Prop where
  ld : ds.length = ks.length
  lc : cs.length = ks.length
  each : ∀ (j : Nat) k d u, ks[j]? = some k → ds[j]? = some d → cs[j]? = some u → Opn1 P w k d u
theorem Opn.append {P : Program} {w : World} {ks ks' : List CK} {ds ds' : List Dat} {cs cs' : List Value} (h : Opn P w ks ds cs) (h' : Opn P w ks' ds' cs') : Opn P w (ks ++ ks') (ds ++ ds') (cs ++ cs') := by
  refine ⟨by simp [h.ld, h'.ld], by simp [h.lc, h'.lc], fun j k d u hk hd hu => ?_⟩
  rw [List.getElem?_append] at hk hd hu
  rw [h.ld] at hd
  rw [h.lc] at hu
  by_cases hj : j < ks.length
  · rw [if_pos hj] at hk hd hu
    exact h.each j k d u hk hd hu
  · rw [if_neg hj] at hk hd hu
    exact h'.each _ k d u hk hd hu
theorem Opn.nil {P : Program} {w : World} : Opn P w [] [] [] := ⟨rfl, rfl, fun j k d u h => by simp at h⟩
theorem Opn.single {P : Program} {w : World} {k : CK} {d : Dat} {u : Value} (h : Opn1 P w k d u) : Opn P w [k] [d] [u] :=
  ⟨rfl, rfl, fun j k' d' u' h1 h2 h3 => by
    cases j with
    | zero => cases h1; cases h2; cases h3; exact h
    | succ j => simp at h1⟩
def offsB (P : Program) (Rl : List TypeId) : Nat → List Field → Bool
  | _, [] => true
  | o, f :: r => f.offset == o && Rl.contains f.type && offsB P Rl (o + P.cellsOf f.type) r
def sumC (P : Program) (fs : List Field) : Nat := fs.foldr (fun f n => P.cellsOf f.type + n) 0
def closedB (P : Program) (Rl : List TypeId) : Bool := Rl.all fun T => match P.underlying T with
  | some (.int _) | some .bool | some .string | some (.pointer _) => true
  | some (.slice E) => Rl.contains E && (match kinds P E with | some ks => P.cellsOf E == ks.length && Nat.blt 0 ks.length | none => false)
  | some (.struct fs) => P.cellsOf T == sumC P fs.toList && offsB P Rl 0 fs.toList
  | _ => false
theorem weights_all {H : Type} {P : Program} {e : TypeId} : ∀ {l : List (DataW H)} {d : DataW H}, d ∈ l → ∀ n ∈ d.weights P e, n ∈ DataW.weightsAll P e l
  | [], d, h, n, hn => by simp at h
  | a :: l, d, h, n, hn => by
    rw [DataW.weightsAll, List.mem_append]
    rcases List.mem_cons.1 h with rfl | h
    · exact .inl hn
    · exact .inr (weights_all h n hn)
def fk (P : Program) (n : Nat) (T : TypeId) (f : Field) : Option (List CK) := match P.underlying f.type with
  | some (.pointer E) => some [bif E == T then CK.self else CK.other]
  | _ => kindsF P n f.type
def catO (l : List (Option (List CK))) : Option (List CK) := l.foldr (fun a b => a.bind fun x => b.bind fun y => some (x ++ y)) (some [])
theorem opn_fields {P : Program} {w : World} {n : Nat} {T : TypeId} {Rl : List TypeId} {cs : List Value} (rd : Field → List Value → Prop)
    (ih : ∀ f c ks, Rl.contains f.type = true → fk P n T f = some ks → rd f c → ∃ ds, Opn P w ks ds c) : ∀ (fs : List Field) (o : Nat) (ks : List CK), offsB P Rl o fs = true → catO (fs.map (fk P n T)) = some ks → cs.length = o + sumC P fs →
      (∀ f ∈ fs, rd f ((cs.drop f.offset).take (P.cellsOf f.type))) → ∃ ds, Opn P w ks ds (cs.drop o)
  | [], o, ks, ho, hk, hl, hr => by
    cases hk
    refine ⟨[], ?_⟩
    rw [List.drop_eq_nil_of_le (by simp [sumC] at hl; omega)]
    exact Opn.nil
  | f :: fs, o, ks, ho, hk, hl, hr => by
    simp only [offsB, Bool.and_eq_true] at ho
    obtain ⟨⟨h1, h2⟩, h3⟩ := ho
    have h1 : f.offset = o := by simpa using h1
    have hk' : ((fk P n T f).bind fun x => (catO (fs.map (fk P n T))).bind fun y => some (x ++ y)) = some ks := hk
    obtain ⟨k1, e1, hk'⟩ := Option.bind_eq_some_iff.1 hk'
    obtain ⟨k2, e2, hk'⟩ := Option.bind_eq_some_iff.1 hk'
    cases hk'
    have hl' : cs.length = o + (P.cellsOf f.type + sumC P fs) := hl
    obtain ⟨d1, o1⟩ := ih f _ k1 h2 e1 (hr f (by simp))
    obtain ⟨d2, o2⟩ := opn_fields rd ih fs (o + P.cellsOf f.type) k2 h3 e2 (by omega) (fun g hg => hr g (by simp [hg]))
    refine ⟨d1 ++ d2, ?_⟩
    have := o1.append o2
    rw [h1, ← List.drop_drop, List.take_append_drop] at this
    exact this
theorem opens {P : Program} {Rl : List TypeId} (hcl : closedB P Rl = true) {H : Type} {enc : TypeId × Value → H} {w : World} {base : Nat} {spare : Nat → Bool} {held : Bool} : ∀ (fuel n : Nat) (T : TypeId) (ks : List CK) (cs : List Value) (x : DataW H × List MemPlace),
    Rl.contains T = true → kindsF P n T = some ks → DataW.trod enc P w base spare held fuel T cs = some x → (∀ n ∈ x.1.weights P T, n ≤ reachBytes) → ∃ ds, Opn P w ks ds cs
  | 0, n, T, ks, cs, x, hT, hk, h, hw => by simp [DataW.trod] at h
  | fuel + 1, 0, T, ks, cs, x, hT, hk, h, hw => by simp [kindsF] at hk
  | fuel + 1, n + 1, T, ks, cs, x, hT, hk, h, hw => by
    have hc := List.all_eq_true.1 hcl T (by simpa using hT)
    unfold kindsF at hk
    cases hu : P.underlying T with
    | none => rw [hu] at hc; cases hc
    | some D =>
      rw [hu] at hc hk
      cases D <;> first | (cases hc; done) | skip
      case bool =>
        cases hk
        obtain ⟨b, rfl, _⟩ := DataW.trod_bool hu h
        exact ⟨[.bool b], Opn.single ⟨rfl, rfl, fun E e => (by cases e), .bool _⟩⟩
      case int k =>
        cases hk
        obtain ⟨m, rfl, _, hwf⟩ := DataW.trod_int hu h
        exact ⟨[.int m], Opn.single ⟨rfl, rfl, fun E e => (by cases e), .int k _ hwf⟩⟩
      case string =>
        cases hk
        obtain ⟨s, rfl, rfl, _⟩ := DataW.trod_string hu h
        have := hw s.data.toList.length (by simp [DataW.weights])
        exact ⟨[.str s], Opn.single ⟨rfl, rfl, fun E e => (by cases e), .str _ (by rwa [Array.length_toList] at this)⟩⟩
      case pointer e =>
        cases hk
        rcases DataW.trod_pointer hu h with ⟨rfl, _⟩ | ⟨a, cs', y, m, _, rfl, _⟩
        · exact ⟨[.int 0], Opn.single ⟨rfl, trivial, fun E e => (by cases e), .other _⟩⟩
        · exact ⟨[.int 0], Opn.single ⟨rfl, trivial, fun E e => (by cases e), .other _⟩⟩
      case struct fs =>
        simp only [Bool.and_eq_true] at hc
        obtain ⟨xs, m, hm, rfl, hcl', hxl, hf⟩ := DataW.trod_struct hu h
        cases hm
        have hsum : P.cellsOf T = sumC P fs.toList := by simpa using hc.1
        have hkk : catO (fs.toList.map (fk P n T)) = some ks := hk
        obtain ⟨ds, hds⟩ := opn_fields (P := P) (w := w) (n := n) (T := T) (Rl := Rl) (cs := cs) (fun f c => ∃ y, DataW.trod enc P w base spare held fuel f.type c = some y ∧ ∀ k ∈ y.1.weights P f.type, k ≤ reachBytes) (fun f c ks' hcf hkf hr => by
            obtain ⟨y, hy, hyw⟩ := hr
            unfold fk at hkf
            split at hkf
            · rename_i E hE
              cases hkf
              have hone : ∀ k, (k = CK.self ∨ k = CK.other) → ∀ u : Value, u.oneCell' = true → Opn1 P w k (.int 0) u := fun k hk u hu1 => by
                rcases hk with rfl | rfl
                · exact ⟨hu1, trivial, fun E e => (by cases e), .self _⟩
                · exact ⟨hu1, trivial, fun E e => (by cases e), .other _⟩
              have hk2 : (bif E == T then CK.self else CK.other) = CK.self ∨ (bif E == T then CK.self else CK.other) = CK.other := by cases E == T <;> simp
              rcases DataW.trod_pointer hE hy with ⟨rfl, _⟩ | ⟨a, cs', y', m', _, rfl, _⟩
              · exact ⟨[.int 0], Opn.single (hone _ hk2 _ rfl)⟩
              · exact ⟨[.int 0], Opn.single (hone _ hk2 _ rfl)⟩
            · exact opens hcl fuel n f.type ks' c y hcf hkf hy hyw) fs.toList 0 ks hc.2 hkk (by rw [hcl', hsum]; omega) (fun f hfm => by
            obtain ⟨i, hi, rfl⟩ := List.mem_iff_getElem.1 hfm
            have hi' : i < fs.size := by simpa using hi
            have hfi : fs[i]? = some fs.toList[i] := by simp [hi']
            have h2 := hf i _ hfi
            obtain ⟨y, hy⟩ : ∃ y, xs[i]? = some y := ⟨_, List.getElem?_eq_getElem (by omega)⟩
            refine ⟨y, by rw [h2, hy], fun k hk => hw k ?_⟩
            simp only [DataW.weights, hu]
            exact DataW.weights_mem_each (j := i) (t := fs.toList[i].type) (by simp [hi']) (by simp [hy]) k hk)
        rw [List.drop_zero] at hds
        exact ⟨ds, hds⟩
      case slice E =>
        simp only [Bool.and_eq_true] at hc
        cases hk
        cases hkE : kinds P E with
        | none => rw [hkE] at hc; cases hc.2
        | some kE =>
          rw [hkE] at hc
          simp only [Bool.and_eq_true] at hc
          have hcE : P.cellsOf E = kE.length := by simpa using hc.2.1
          have h0 : 0 < kE.length := Nat.le_of_ble_eq_true hc.2.2
          rcases DataW.trod_slice hu h with ⟨rfl, rfl⟩ | ⟨a, len, cap, elems, rest, m, hm, rfl, rfl, hb, hl, hmx, hlen, hel, _, _⟩
          · exact ⟨[.rows []], Opn.single ⟨rfl, trivial, fun E' e => (by cases e; exact .nil E none 0), .row E kE _ hkE (by simp [Dat.toL]) (fun e he => by simp [Dat.toL] at he)⟩⟩
          cases hm
          have each : ∀ i, i < len → ∃ p : List Dat × List Value, (∀ j u, p.2[j]? = some u → w.cell? (a.add (i * kE.length + j)) = some u) ∧ Opn P w kE p.1 p.2 := fun i hi => by
            have h2 := hel i hi
            obtain ⟨y, hy⟩ : ∃ y, elems[i]? = some y := ⟨_, List.getElem?_eq_getElem (by omega)⟩
            rw [hy] at h2
            obtain ⟨cs', h3, h4⟩ := Option.bind_eq_some_iff.1 h2
            obtain ⟨_, e1, e2⟩ := World.cells?_some h3
            obtain ⟨ds, hds⟩ := opens hcl fuel 9 E kE cs' y hc.1 hkE h4 (fun k hk => hw k (by
              simp only [DataW.weights, hu, List.mem_cons, List.mem_append]
              exact .inr (.inl (weights_all (List.mem_map.2 ⟨y, List.mem_of_getElem? hy, rfl⟩) k hk))))
            refine ⟨(ds, cs'), fun j u hj => ?_, hds⟩
            have hjl : j < P.cellsOf E := by rw [← e1]; exact (List.getElem?_eq_some_iff.1 hj).1
            have := e2 j hjl
            rw [Deep.add_add, hcE] at this
            rw [this]; exact hj
          obtain ⟨F, hF⟩ := Deep.choose_lt each
          let L : List Dat := (List.range len).map fun i => .agg (F i).1
          have hLl : L.length = len := by simp [L]
          have hLget : ∀ i d, L[i]? = some d → i < len ∧ d = .agg (F i).1 := fun i d hi => by
            have hlt := (List.getElem?_eq_some_iff.1 hi).1
            rw [hLl] at hlt
            simp only [L, List.getElem?_map, List.getElem?_range hlt, Option.map_some] at hi
            cases hi
            exact ⟨hlt, rfl⟩
          have hat : ∀ i j, ∀ hj : j < (F i).1.length, (Dat.agg (F i).1).at j = (F i).1[j] := fun i j hj => by
            show (F i).1.getD j (.int 0) = _
            rw [List.getD_eq_getElem?_getD, List.getElem?_eq_getElem hj]; rfl
          have hcells : ∀ i j k, i < len → kE[j]? = some k → ∃ d u, (F i).1[j]? = some d ∧ (F i).2[j]? = some u ∧ Opn1 P w k d u := fun i j k hi hj => by
            have hjl := (List.getElem?_eq_some_iff.1 hj).1
            obtain ⟨_, ho⟩ := hF i hi
            have q1 := List.getElem?_eq_getElem (l := (F i).1) (i := j) (by rw [ho.ld]; exact hjl)
            have q2 := List.getElem?_eq_getElem (l := (F i).2) (i := j) (by rw [ho.lc]; exact hjl)
            exact ⟨_, _, q1, q2, ho.each j k _ _ hj q1 q2⟩
          have hsz : Sz P (.row E) (.rows L) := by
            refine .row E kE _ hkE ?_ (fun e he j k hj => ?_)
            · have := hw (((elems.map (·.1)).length + (rest.map (·.1)).length) * P.bytesOf E) (by simp [DataW.weights, hu])
              show L.length * P.bytesOf E ≤ reachBytes
              rw [hLl]
              refine Nat.le_trans (Nat.mul_le_mul_right _ ?_) this
              simp
              omega
            · obtain ⟨i, hi⟩ := List.getElem?_of_mem (show e ∈ L from he)
              obtain ⟨hlt, rfl⟩ := hLget i e hi
              obtain ⟨d, u, q1, q2, q3⟩ := hcells i j k hlt hj
              have hl2 := (List.getElem?_eq_some_iff.1 q1).1
              rw [hat i j hl2]
              rw [List.getElem?_eq_getElem hl2] at q1
              cases q1
              exact q3.sz
          refine ⟨[.rows L], Opn.single ⟨rfl, trivial, fun E' e => ?_, hsz⟩⟩
          cases e
          show RepRow P (g0 w).G w E L (.slice (some a) len cap)
          cases len with
          | zero =>
            have : L = [] := List.length_eq_zero_iff.1 hLl
            rw [this]
            exact .nil E (some a) cap
          | succ len' =>
            have hspot : a.spot = none := by
              obtain ⟨k0, hk0⟩ : ∃ k0, kE[0]? = some k0 := ⟨_, List.getElem?_eq_getElem h0⟩
              obtain ⟨d, u, _, q2, _⟩ := hcells 0 0 k0 (by omega) hk0
              have h1 := (hF 0 (by omega)).1 0 u q2
              rw [Nat.zero_mul, Nat.zero_add] at h1
              have h1 : w.cell? a = some u := h1
              unfold World.cell? at h1
              split at h1
              · cases hs : a.spot with
                | none => rfl
                | some z => rw [hs] at h1; cases h1
              · cases h1
            obtain ⟨β, off, spot⟩ := a
            dsimp only at hspot
            subst hspot
            have := RepRow.of_cells (P := P) (w := w) (E := E) (ks := kE) (l := L) (β := β) (off := off) (cap := cap) (vals := fun i j => (F i).2.getD j undef) hkE (by rw [hLl]; exact hl) (fun i j hi hj => by
              rw [hLl] at hi
              obtain ⟨d, u, _, q2, q3⟩ := hcells i j kE[j] hi (List.getElem?_eq_getElem hj)
              have h1 := (hF i hi).1 j u q2
              rw [add_lit] at h1
              rw [List.getD_eq_getElem?_getD, q2]
              exact ⟨by rw [show off + i * kE.length + j = off + (i * kE.length + j) by omega]; exact h1, q3.one⟩) (fun i j d k hi hj => by
              obtain ⟨hlt, rfl⟩ := hLget i d hi
              obtain ⟨d, u, q1, q2, q3⟩ := hcells i j k hlt hj
              have hl2 := (List.getElem?_eq_some_iff.1 q1).1
              rw [hat i j hl2, List.getD_eq_getElem?_getD, q2]
              rw [List.getElem?_eq_getElem hl2] at q1
              cases q1
              exact q3.sc) (fun i j d E' hi hj => by
              obtain ⟨hlt, rfl⟩ := hLget i d hi
              obtain ⟨d, u, q1, q2, q3⟩ := hcells i j _ hlt hj
              have hl2 := (List.getElem?_eq_some_iff.1 q1).1
              rw [hat i j hl2, List.getD_eq_getElem?_getD, q2]
              rw [List.getElem?_eq_getElem hl2] at q1
              cases q1
              exact q3.row E' rfl)
            rw [hLl] at this
            exact this
end Go.Proofs.YtckdgcpomkefpaaGreatDoor.En
end
section
set_option linter.unusedVariables false
set_option linter.unusedSimpArgs false
namespace Go.Proofs.YtckdgcpomkefpaaGreatDoor.En
open Go Go.RowKit Go.ChangeShapes Go.WideShapes
def avOf (k : CK) (d : Dat) : AV := match k with
  | .int k => .v (.int k d.toI)
  | .bool => .v (.bool d.toB)
  | .str => .v (.string d.toS)
  | .row E => .row none E d.toL
  | _ => .dead
theorem avOf_rep {P : Program} {w : World} {k : CK} {d : Dat} {u : Value} (h : Opn1 P w k d u) : RepC P (g0 w) w (avOf k d) u := by
  cases k with
  | int k => exact ⟨h.sc, rfl⟩
  | bool => exact ⟨h.sc, rfl⟩
  | str => exact ⟨h.sc, rfl⟩
  | row E => exact ⟨h.row E rfl, fun n hn => by cases hn⟩
  | self => exact h.one
  | other => exact h.one
theorem list_rep {P : Program} {w : World} {E : TypeId} {ds : List Dat} {v : Value} (h : Opn P w [.row E] ds [v]) : ∃ l, ds = [l] ∧ RepS P (g0 w) w (.row none E l.toL) v ∧ Sz P (.row E) l := by
  obtain ⟨d, rfl⟩ : ∃ d, ds = [d] := by
    have := h.ld
    match ds, this with
    | [d], _ => exact ⟨d, rfl⟩
  have h1 := h.each 0 _ d v rfl rfl rfl
  exact ⟨d, rfl, (avOf_rep h1).S, h1.sz⟩
end Go.Proofs.YtckdgcpomkefpaaGreatDoor.En
end
section
set_option linter.unusedVariables false
set_option maxRecDepth 100000
namespace Go.Proofs.YtckdgcpomkefpaaGreatDoor.En
open Go
def obA (k n : Int) (b : Bool) (s : ByteArray) (ks l : List Dat) : List AV := [I k, B b, I n, S s, .row none 9 ks, .row none 43 l]
end Go.Proofs.YtckdgcpomkefpaaGreatDoor.En
end
section
set_option linter.unusedVariables false
set_option linter.unusedSimpArgs false
set_option maxRecDepth 100000
namespace Go.Proofs.YtckdgcpomkefpaaGreatDoor.En
open Go
theorem hmixP : PR.follows .mixedOrders = true := by kernel_rfl
def mkO (k n : Int) (b : Bool) (s : ByteArray) (ks l : List Dat) : Dat := .agg [.int k, .bool b, .int n, .str s, .rows ks, .rows l]
def obD (d : Dat) : List AV := obA (d.at 0).toI (d.at 2).toI (d.at 1).toB (d.at 3).toS (d.at 4).toL (d.at 5).toL
def nrm (d : Dat) : Dat := mkO (d.at 0).toI (d.at 2).toI (d.at 1).toB (d.at 3).toS (d.at 4).toL (d.at 5).toL
def orK {β : Type} (c : Bool) (d : Bool) (k : Bool → Option β) : Option β := (bif c then some true else some d).bind k
theorem orK_eq {β : Type} (c d : Bool) (k : Bool → Option β) : orK c d k = k (c || d) := by cases c <;> rfl
def fitO : Nat → List Dat → List Dat → Prop
  | 0, _, _ => False
  | k + 1, ks, l => ks.length ≤ 1000000 ∧ l.length ≤ 1000000 ∧ ∀ d ∈ l, fitO k (d.at 4).toL (d.at 5).toL
noncomputable def decP (p : Prop) : Bool := @decide p (Classical.propDecidable p)
theorem decP_eq {p : Prop} (h : p) : decP p = true := @decide_eq_true p (Classical.propDecidable p) h
theorem decP_of {p : Prop} (h : decP p = true) : p := @of_decide_eq_true p (Classical.propDecidable p) h
noncomputable def fitB (k : Nat) (ks l : List Dat) : Bool := decP (fitO k ks l)
theorem fitB_eq {k : Nat} {ks l : List Dat} (h : fitO k ks l) : fitB k ks l = true := decP_eq h
theorem fitB_of {k : Nat} {ks l : List Dat} (h : fitB k ks l = true) : fitO k ks l := decP_of h
def keysEq : List Dat → List Dat → Bool
  | [], [] => true
  | d :: l, e :: m => ((d.at 0).toS.toList == (e.at 0).toS.toList) && keysEq l m
  | _, _ => false
def allEq (f : Dat → Dat → Bool) : List Dat → List Dat → Bool
  | [], [] => true
  | d :: l, e :: m => f d e && allEq f l m
  | _, _ => false
def sameO : Nat → Dat → Dat → Bool
  | 0, _, _ => false
  | k + 1, a, b => ((a.at 0).toI == (b.at 0).toI) && (((a.at 1).toB == (b.at 1).toB) && (((a.at 2).toI == (b.at 2).toI) && (((a.at 3).toS.toList == (b.at 3).toS.toList) && (keysEq (a.at 4).toL (b.at 4).toL && allEq (sameO k) (a.at 5).toL (b.at 5).toL))))
theorem sameO_nrm (k : Nat) (a b : Dat) : sameO k (nrm a) (nrm b) = sameO k a b := by cases k <;> rfl
noncomputable def sameE (k : Nat) : List AV → Bx → Option (Bool × Out)
  | [.agg [.v (.int .i64 k1), .v (.bool b1), .v (.int .i64 n1), .v (.string s1), .row none 9 ks1, .row none 43 l1], .agg [.v (.int .i64 k2), .v (.bool b2), .v (.int .i64 n2), .v (.string s2), .row none 9 ks2, .row none 43 l2]], [none, none] =>
    some (fitB k ks1 l1, .ret (B (sameO k (mkO k1 n1 b1 s1 ks1 l1) (mkO k2 n2 b2 s2 ks2 l2))) [none, none])
  | _, _ => none
noncomputable def sameC (k : Nat) (ext : CallF) : CallF := addF 28 (sameE k) ext
noncomputable def sameL1 (call : CallF) (m r : Nat) (k1 n1 k2 n2 : Int) (b1 b2 : Bool) (s1 s2 : ByteArray) (ks1 l1 ks2 l2 : List Dat) (i : Int) := loopF PR TK call m 28 [none, none] [true, true, false, true] r (sp 88 [(2, .box 2 0), (3, .box 3 0), (5, I i)] [(2, obA k1 n1 b1 s1 ks1 l1), (3, obA k2 n2 b2 s2 ks2 l2)])
noncomputable def sameL2 (call : CallF) (m r : Nat) (k1 n1 k2 n2 : Int) (b1 b2 : Bool) (s1 s2 : ByteArray) (ks1 l1 ks2 l2 : List Dat) (i : Int) := loopF PR TK call m 28 [none, none] [true, true, true, false, true] r (sp 88 [(2, .box 2 0), (3, .box 3 0), (6, I i)] [(2, obA k1 n1 b1 s1 ks1 l1), (3, obA k2 n2 b2 s2 ks2 l2)])
section
variable (call ext : CallF) (k m r : Nat) (k1 n1 k2 n2 : Int) (b1 b2 : Bool) (s1 s2 : ByteArray) (ks1 l1 ks2 l2 : List Dat) (i : Int)
theorem same_0 : evFn PR TK call m 28 [.agg (obA k1 n1 b1 s1 ks1 l1), .agg (obA k2 n2 b2 s2 ks2 l2)] [none, none] =
    orK (k1 != k2) (!(b1 == b2)) fun t => orK t (n1 != n2) fun t => orK t (!(s1.toList == s2.toList)) fun t => orK t ((ks1.length : Int) != ks2.length) fun t => orK t ((l1.length : Int) != l2.length) fun t =>
      bif t then some (.ret (B false) [none, none]) else sameL1 call m m k1 n1 k2 n2 b1 b2 s1 s2 ks1 l1 ks2 l2 0 := by kernel_rfl
theorem same_1 : sameL1 call m (r + 1) k1 n1 k2 n2 b1 b2 s1 s2 ks1 l1 ks2 l2 i = bif decide (i < ks1.length) then (idx ks1 i).bind fun d => (idx ks2 i).bind fun e =>
      bif !((d.at 0).toS.toList == (e.at 0).toS.toList) then some (.ret (B false) [none, none]) else sameL1 call m r k1 n1 k2 n2 b1 b2 s1 s2 ks1 l1 ks2 l2 (IntKind.i64.wrap (i + 1))
    else sameL2 call m m k1 n1 k2 n2 b1 b2 s1 s2 ks1 l1 ks2 l2 0 := by kernel_rfl
theorem same_2 : sameL2 (sameC k ext) m (r + 1) k1 n1 k2 n2 b1 b2 s1 s2 ks1 l1 ks2 l2 i = bif decide (i < l1.length) then (idx l1 i).bind fun d => (idx l2 i).bind fun e =>
      bif fitB k (d.at 4).toL (d.at 5).toL then (bif !(sameO k (nrm d) (nrm e)) then some (.ret (B false) [none, none]) else sameL2 (sameC k ext) m r k1 n1 k2 n2 b1 b2 s1 s2 ks1 l1 ks2 l2 (IntKind.i64.wrap (i + 1))) else none
    else some (.ret (B true) [none, none]) := by kernel_rfl
end
def bR (x : Bool) : Option Out := some (.ret (B x) [none, none])
theorem same_loop2 {ext : CallF} {k m : Nat} {k1 n1 k2 n2 : Int} {b1 b2 : Bool} {s1 s2 : ByteArray} {ks1 l1 ks2 l2 : List Dat} (hl : l1.length = l2.length) (hf : l1.length ≤ 1000000) (hk : ∀ d ∈ l1, fitO k (d.at 4).toL (d.at 5).toL) :
    ∀ (n i r : Nat), i + n = l1.length → n < r → sameL2 (sameC k ext) m r k1 n1 k2 n2 b1 b2 s1 s2 ks1 l1 ks2 l2 (i : Int) = bR (allEq (sameO k) (l1.drop i) (l2.drop i))
  | n, i, 0, _, h => by omega
  | 0, i, r + 1, hi, _ => by
    rw [same_2, show decide ((i : Int) < l1.length) = false from decide_eq_false (by omega), List.drop_eq_nil_of_le (by omega), List.drop_eq_nil_of_le (by omega)]
    rfl
  | n + 1, i, r + 1, hi, hm => by
    have h1 : i < l1.length := by omega
    have h2 : i < l2.length := by omega
    rw [same_2, show decide ((i : Int) < l1.length) = true from decide_eq_true (by omega), idx_at h1, idx_at h2, IntWalk.i64_in _ (by omega)]
    simp only [cond_true, Option.bind_some]
    rw [fitB_eq (hk _ (List.getElem_mem h1)), cond_true, sameO_nrm, List.drop_eq_getElem_cons h1, List.drop_eq_getElem_cons h2]
    have ih := same_loop2 (ext := ext) (m := m) (k1 := k1) (n1 := n1) (k2 := k2) (n2 := n2) (b1 := b1) (b2 := b2) (s1 := s1) (s2 := s2) (ks1 := ks1) (ks2 := ks2) hl hf hk n (i + 1) r (by omega) (by omega)
    rw [show ((i + 1 : Nat) : Int) = (i : Int) + 1 by omega] at ih
    rw [ih]
    show _ = bR (sameO k l1[i] l2[i] && allEq (sameO k) (l1.drop (i + 1)) (l2.drop (i + 1)))
    cases sameO k l1[i] l2[i] <;> rfl
theorem same_loop1 {ext : CallF} {k m : Nat} {k1 n1 k2 n2 : Int} {b1 b2 : Bool} {s1 s2 : ByteArray} {ks1 l1 ks2 l2 : List Dat} (hlk : ks1.length = ks2.length) (hl : l1.length = l2.length) (hfk : ks1.length ≤ 1000000) (hf : l1.length ≤ 1000000) (hk : ∀ d ∈ l1, fitO k (d.at 4).toL (d.at 5).toL) (hm : l1.length < m) :
    ∀ (n i r : Nat), i + n = ks1.length → n < r → sameL1 (sameC k ext) m r k1 n1 k2 n2 b1 b2 s1 s2 ks1 l1 ks2 l2 (i : Int) = bR (keysEq (ks1.drop i) (ks2.drop i) && allEq (sameO k) l1 l2) := by
  have e0 := same_loop2 (ext := ext) (k := k) (m := m) (k1 := k1) (n1 := n1) (k2 := k2) (n2 := n2) (b1 := b1) (b2 := b2) (s1 := s1) (s2 := s2) (ks1 := ks1) (ks2 := ks2) hl hf hk l1.length 0 m (by omega) hm
  rw [List.drop_zero, List.drop_zero, show ((0 : Nat) : Int) = 0 from rfl] at e0
  intro n
  induction n with
  | zero =>
    intro i r hi hr
    cases r with
    | zero => omega
    | succ r =>
      rw [same_1, show decide ((i : Int) < ks1.length) = false from decide_eq_false (by omega), List.drop_eq_nil_of_le (by omega), List.drop_eq_nil_of_le (by omega), e0]
      rfl
  | succ n ih =>
    intro i r hi hr
    cases r with
    | zero => omega
    | succ r =>
      have h1 : i < ks1.length := by omega
      have h2 : i < ks2.length := by omega
      have ih := ih (i + 1) r (by omega) (by omega)
      rw [show ((i + 1 : Nat) : Int) = (i : Int) + 1 by omega] at ih
      rw [same_1, e0, show decide ((i : Int) < ks1.length) = true from decide_eq_true (by omega), idx_at h1, idx_at h2, IntWalk.i64_in _ (by omega)]
      simp only [cond_true, Option.bind_some]
      rw [List.drop_eq_getElem_cons h1, List.drop_eq_getElem_cons h2, ih]
      show _ = bR ((((ks1[i].at 0).toS.toList == (ks2[i].at 0).toS.toList) && keysEq (ks1.drop (i + 1)) (ks2.drop (i + 1))) && allEq (sameO k) l1 l2)
      cases ((ks1[i].at 0).toS.toList == (ks2[i].at 0).toS.toList) <;> rfl
theorem keysEq_len : ∀ {l m : List Dat}, keysEq l m = true → l.length = m.length
  | [], [], _ => rfl
  | d :: l, e :: m, h => by
    rw [keysEq, Bool.and_eq_true] at h
    simp [keysEq_len h.2]
  | [], _ :: _, h => by cases h
  | _ :: _, [], h => by cases h
theorem allEq_len {f : Dat → Dat → Bool} : ∀ {l m : List Dat}, allEq f l m = true → l.length = m.length
  | [], [], _ => rfl
  | d :: l, e :: m, h => by
    rw [allEq, Bool.and_eq_true] at h
    simp [allEq_len h.2]
  | [], _ :: _, h => by cases h
  | _ :: _, [], h => by cases h
theorem ne_len {α : Type} {l m : List α} : ((l.length : Int) != m.length) = !decide (l.length = m.length) := by
  by_cases h : l.length = m.length
  · simp [h]
  · have : (l.length : Int) ≠ m.length := by omega
    simp [h, this]
theorem same_run {ext : CallF} {k m : Nat} {k1 n1 k2 n2 : Int} {b1 b2 : Bool} {s1 s2 : ByteArray} {ks1 l1 ks2 l2 : List Dat} (h : fitO (k + 1) ks1 l1) (hm : 1000000 < m) :
    evFn PR TK (sameC k ext) m 28 [.agg (obA k1 n1 b1 s1 ks1 l1), .agg (obA k2 n2 b2 s2 ks2 l2)] [none, none] = bR (sameO (k + 1) (mkO k1 n1 b1 s1 ks1 l1) (mkO k2 n2 b2 s2 ks2 l2)) := by
  obtain ⟨h1, h2, h3⟩ := h
  rw [same_0]
  simp only [orK_eq]
  show (bif ((((((k1 != k2) || !(b1 == b2)) || (n1 != n2)) || !(s1.toList == s2.toList)) || ((ks1.length : Int) != ks2.length)) || ((l1.length : Int) != l2.length)) then bR false else _) =
    bR ((k1 == k2) && ((b1 == b2) && ((n1 == n2) && ((s1.toList == s2.toList) && (keysEq ks1 ks2 && allEq (sameO k) l1 l2)))))
  rw [ne_len, ne_len]
  unfold bne
  cases (k1 == k2) <;> cases (b1 == b2) <;> cases (n1 == n2) <;> cases (s1.toList == s2.toList) <;> try rfl
  by_cases e1 : ks1.length = ks2.length
  · by_cases e2 : l1.length = l2.length
    · rw [decide_eq_true e1, decide_eq_true e2]
      have e := same_loop1 (ext := ext) (k := k) (m := m) (k1 := k1) (n1 := n1) (k2 := k2) (n2 := n2) (b1 := b1) (b2 := b2) (s1 := s1) (s2 := s2) e1 e2 h1 h2 h3 (by omega) ks1.length 0 m (by omega) (by omega)
      rw [List.drop_zero, List.drop_zero, show ((0 : Nat) : Int) = 0 from rfl] at e
      show sameL1 _ _ _ _ _ _ _ _ _ _ _ _ _ _ _ 0 = _
      rw [e]; rfl
    · rw [decide_eq_false e2]
      have : allEq (sameO k) l1 l2 = false := by
        cases hq : allEq (sameO k) l1 l2
        · rfl
        · exact absurd (allEq_len hq) e2
      rw [this]
      cases decide (ks1.length = ks2.length) <;> cases keysEq ks1 ks2 <;> rfl
  · rw [decide_eq_false e1]
    have : keysEq ks1 ks2 = false := by
      cases hq : keysEq ks1 ks2
      · rfl
      · exact absurd (keysEq_len hq) e1
    rw [this]; rfl
theorem same_sound {ext : CallF} (hext : SoundCall PR ext) : ∀ k, SoundCall PR (sameC k ext) := by
  refine sound_rec (takes := TK) hmixP hext _ (fn := (PR.funcs[28]?).getD default) (by kernel_rfl) (by kernel_rfl) sameE (fun xs bs out h => ?_) (fun k xs bs out h => ?_)
  · unfold sameE at h
    split at h
    · injection h with h
      injection h with h _
      exact fitB_of h
    · cases h
  · unfold sameE at h
    split at h
    · injection h with h
      injection h with h1 h2
      subst h2
      exact ⟨1000001, same_run (fitB_of h1) (by omega)⟩
    · cases h
def copyO : Nat → Dat → Dat
  | 0, d => d
  | k + 1, d => mkO (d.at 0).toI (d.at 2).toI (d.at 1).toB (d.at 3).toS (d.at 4).toL ((d.at 5).toL.map (copyO k))
def obT (k n : Int) (b : Bool) (s : ByteArray) (ks l : List Dat) : List AV := [I k, B b, I n, S s, .row (some (sub 2 4)) 9 ks, .row (some (sub 2 5)) 43 l]
noncomputable def copyE (k : Nat) : List AV → Bx → Option (Bool × Out)
  | [.agg [.v (.int .i64 k1), .v (.bool b1), .v (.int .i64 n1), .v (.string s1), .row none 9 ks1, .row none 43 l1]], [none] =>
    some (fitB k ks1 l1, .ret (.agg (obT k1 n1 b1 s1 ks1 (l1.map (copyO (k - 1))))) [none])
  | _, _ => none
noncomputable def copyC (k : Nat) (ext : CallF) : CallF := addF 25 (copyE k) ext
noncomputable def copyL (call : CallF) (m r : Nat) (k1 n1 : Int) (b1 : Bool) (s1 : ByteArray) (ks1 l1 acc : List Dat) (i : Int) := loopF PR TK call m 25 [none] [true, true, true, false, true] r
  (sp 29 [(1, .box 1 0), (2, .box 2 0), (3, .row (some 3) 43 acc), (4, I i)] [(1, [I k1, B b1, I n1, S s1, .row (some (sub 1 4)) 9 ks1, .row none 43 l1]), (2, [I 0, B false, I 0, S ⟨#[]⟩, .row (some (sub 2 4)) 9 [], .row (some (sub 2 5)) 43 []])])
section
variable (call ext : CallF) (k m r : Nat) (k1 n1 : Int) (b1 : Bool) (s1 : ByteArray) (ks1 l1 acc : List Dat) (i : Int)
theorem copy_0 : evFn PR TK call m 25 [.agg (obA k1 n1 b1 s1 ks1 l1)] [none] = bif Nat.ble (0 + ks1.length) fitsN then copyL call m m k1 n1 b1 s1 ks1 l1 [] 0 else none := by kernel_rfl
theorem copy_1 : copyL (copyC k ext) m (r + 1) k1 n1 b1 s1 ks1 l1 acc i = bif decide (i < l1.length) then (idx l1 i).bind fun d =>
      bif fitB k (d.at 4).toL (d.at 5).toL then (bif Nat.ble (acc.length + 1) fitsN then copyL (copyC k ext) m r k1 n1 b1 s1 ks1 l1 (acc ++ [mkO (d.at 0).toI (d.at 2).toI (d.at 1).toB (d.at 3).toS (d.at 4).toL ((d.at 5).toL.map (copyO (k - 1)))]) (IntKind.i64.wrap (i + 1)) else none) else none
    else some (.ret (.agg (obT k1 n1 b1 s1 ks1 acc)) [none]) := by kernel_rfl
end
end Go.Proofs.YtckdgcpomkefpaaGreatDoor.En
end
section
set_option linter.unusedVariables false
set_option linter.unusedSimpArgs false
set_option maxRecDepth 100000
namespace Go.Proofs.YtckdgcpomkefpaaGreatDoor.En
open Go
theorem fits_ble {n : Nat} (h : n ≤ 1000001) : Nat.ble n fitsN = true := Nat.ble_eq_true_of_le (by unfold fitsN; omega)
theorem copy_loop {ext : CallF} {k m : Nat} {k1 n1 : Int} {b1 : Bool} {s1 : ByteArray} {ks1 l1 : List Dat} (hk0 : 0 < k) (hf : l1.length ≤ 1000000) (hk : ∀ d ∈ l1, fitO k (d.at 4).toL (d.at 5).toL) :
    ∀ (n i r : Nat) (acc : List Dat), i + n = l1.length → n < r → acc.length = i → copyL (copyC k ext) m r k1 n1 b1 s1 ks1 l1 acc (i : Int) = some (.ret (.agg (obT k1 n1 b1 s1 ks1 (acc ++ (l1.drop i).map (copyO k)))) [none]) := by
  intro n
  induction n with
  | zero =>
    intro i r acc hi hr ha
    cases r with
    | zero => omega
    | succ r =>
      rw [copy_1, show decide ((i : Int) < l1.length) = false from decide_eq_false (by omega), List.drop_eq_nil_of_le (by omega), List.map_nil, List.append_nil]
      rfl
  | succ n ih =>
    intro i r acc hi hr ha
    cases r with
    | zero => omega
    | succ r =>
      have h1 : i < l1.length := by omega
      have e : mkO (l1[i].at 0).toI (l1[i].at 2).toI (l1[i].at 1).toB (l1[i].at 3).toS (l1[i].at 4).toL ((l1[i].at 5).toL.map (copyO (k - 1))) = copyO k l1[i] := by
        obtain ⟨j, rfl⟩ : ∃ j, k = j + 1 := ⟨k - 1, by omega⟩
        rfl
      have ih := ih (i + 1) r (acc ++ [copyO k l1[i]]) (by omega) (by omega) (by simp; omega)
      rw [show ((i + 1 : Nat) : Int) = (i : Int) + 1 by omega] at ih
      rw [copy_1, show decide ((i : Int) < l1.length) = true from decide_eq_true (by omega), idx_at h1, IntWalk.i64_in _ (by omega)]
      simp only [cond_true, Option.bind_some]
      rw [fitB_eq (hk _ (List.getElem_mem h1)), cond_true, fits_ble (by omega), cond_true, e, ih, List.drop_eq_getElem_cons h1, List.map_cons, List.append_assoc]
      rfl
theorem copy_run {ext : CallF} {k m : Nat} {k1 n1 : Int} {b1 : Bool} {s1 : ByteArray} {ks1 l1 : List Dat} (h : fitO (k + 1) ks1 l1) (hm : 1000000 < m) :
    evFn PR TK (copyC k ext) m 25 [.agg (obA k1 n1 b1 s1 ks1 l1)] [none] = some (.ret (.agg (obT k1 n1 b1 s1 ks1 (l1.map (copyO k)))) [none]) := by
  obtain ⟨h1, h2, h3⟩ := h
  rw [copy_0, fits_ble (by omega), cond_true]
  cases l1 with
  | nil =>
    obtain ⟨m, rfl⟩ : ∃ j, m = j + 1 := ⟨m - 1, by omega⟩
    rw [copy_1]; rfl
  | cons d l =>
    have hk0 : 0 < k := by
      cases k with
      | zero => exact (h3 d (by simp)).elim
      | succ k => omega
    have e := copy_loop (ext := ext) (m := m) (k1 := k1) (n1 := n1) (b1 := b1) (s1 := s1) (ks1 := ks1) hk0 h2 h3 (d :: l).length 0 m [] (by omega) (by omega) rfl
    rw [List.drop_zero, List.nil_append, show ((0 : Nat) : Int) = 0 from rfl] at e
    exact e
theorem copy_sound {ext : CallF} (hext : SoundCall PR ext) : ∀ k, SoundCall PR (copyC k ext) := by
  refine sound_rec (takes := TK) hmixP hext _ (fn := (PR.funcs[25]?).getD default) (by kernel_rfl) (by kernel_rfl) copyE (fun xs bs out h => ?_) (fun k xs bs out h => ?_)
  · unfold copyE at h
    split at h
    · injection h with h
      injection h with h _
      exact fitB_of h
    · cases h
  · unfold copyE at h
    split at h
    · injection h with h
      injection h with h1 h2
      subst h2
      exact ⟨1000001, copy_run (fitB_of h1) (by omega)⟩
    · cases h
def andK {β : Type} (c d : Bool) (k : Bool → Option β) : Option β := (bif c then some d else some false).bind k
theorem andK_eq {β : Type} (c d : Bool) (k : Bool → Option β) : andK c d k = k (c && d) := by cases c <;> rfl
end Go.Proofs.YtckdgcpomkefpaaGreatDoor.En
end
section
set_option linter.unusedVariables false
set_option linter.unusedSimpArgs false
set_option maxRecDepth 100000
namespace Go.Proofs.YtckdgcpomkefpaaGreatDoor.En
open Go
def keysN : List Dat → Int → Int
  | [], n => n
  | d :: ks, n => keysN ks (n + ((d.at 0).toS.size : Int).tdiv 100)
def itemsN (f : Dat → Int → Int) : List Dat → Int → Int
  | [], n => n
  | d :: l, n => bif decide (n ≥ 0) then itemsN f l (f d n) else n
def headN (s : ByteArray) (ks l : List Dat) (ahead : Int) : Int := ahead + 1 + ks.length + l.length + (s.size : Int).tdiv 100
def largeO : Nat → Dat → Int → Int → Int
  | 0, _, _, _ => -1
  | k + 1, d, nest, ahead => bif decide (headN (d.at 3).toS (d.at 4).toL (d.at 5).toL ahead > 2000) || decide (nest > 100) then -1
    else itemsN (fun e n => largeO k e (nest + 1) n) (d.at 5).toL (keysN (d.at 4).toL (headN (d.at 3).toS (d.at 4).toL (d.at 5).toL ahead))
def fitZ : Nat → ByteArray → List Dat → List Dat → Prop
  | 0, _, _, _ => True
  | k + 1, s, ks, l => s.size ≤ 140737488355328 ∧ ks.length ≤ 140737488355328 ∧ l.length ≤ 140737488355328 ∧ (∀ d ∈ ks, (d.at 0).toS.size ≤ 140737488355328) ∧ ∀ d ∈ l, fitZ k (d.at 3).toS (d.at 4).toL (d.at 5).toL
def okZ (k : Nat) (s : ByteArray) (ks l : List Dat) (nest ahead : Int) : Prop := 102 ≤ k + nest ∧ 0 ≤ nest ∧ nest ≤ 101 ∧ 0 ≤ ahead ∧ ahead ≤ 4503599627370496 ∧ fitZ k s ks l
noncomputable def zB (k : Nat) (s : ByteArray) (ks l : List Dat) (nest ahead : Int) : Bool := decP (okZ k s ks l nest ahead)
noncomputable def largeE (k : Nat) : List AV → Bx → Option (Bool × Out)
  | [.agg [.v (.int .i64 k1), .v (.bool b1), .v (.int .i64 n1), .v (.string s1), .row none 9 ks1, .row none 43 l1], .v (.int .i64 nest), .v (.int .i64 ahead)], [none, none, none] =>
    some (zB k s1 ks1 l1 nest ahead, .ret (I (largeO k (mkO k1 n1 b1 s1 ks1 l1) nest ahead)) [none, none, none])
  | _, _ => none
noncomputable def largeC (k : Nat) (ext : CallF) : CallF := addF 43 (largeE k) ext
noncomputable def largeL1 (call : CallF) (m r : Nat) (k1 n1 : Int) (b1 : Bool) (s1 : ByteArray) (ks1 l1 : List Dat) (nest n i : Int) := loopF PR TK call m 43 [none, none, none] [true, true, true, false, true] r (sp 68 [(1, I nest), (3, .box 3 0), (7, I n), (8, I i)] [(3, obA k1 n1 b1 s1 ks1 l1)])
noncomputable def largeL2 (call : CallF) (m r : Nat) (k1 n1 : Int) (b1 : Bool) (s1 : ByteArray) (ks1 l1 : List Dat) (nest n i : Int) := loopF PR TK call m 43 [none, none, none] [true, true, true, true, false, true] r (sp 68 [(1, I nest), (3, .box 3 0), (7, I n), (9, I i)] [(3, obA k1 n1 b1 s1 ks1 l1)])
def nR (n : Int) : Option Out := some (.ret (I n) [none, none, none])
def W (n : Int) : Int := IntKind.i64.wrap n
section
variable (call ext : CallF) (k m r : Nat) (k1 n1 : Int) (b1 : Bool) (s1 : ByteArray) (ks1 l1 : List Dat) (nest ahead n i : Int)
theorem large_0 : evFn PR TK call m 43 [.agg (obA k1 n1 b1 s1 ks1 l1), I nest, I ahead] [none, none, none] =
    orK (decide (W (W (W (W (ahead + 1) + ks1.length) + l1.length) + W ((s1.size : Int).tdiv 100)) > 2000)) (decide (nest > 100)) fun t => bif t then nR (-1) else
      largeL1 call m m k1 n1 b1 s1 ks1 l1 nest (W (W (W (W (ahead + 1) + ks1.length) + l1.length) + W ((s1.size : Int).tdiv 100))) 0 := by kernel_rfl
theorem large_1 : largeL1 call m (r + 1) k1 n1 b1 s1 ks1 l1 nest n i = bif decide (i < ks1.length) then (idx ks1 i).bind fun d => largeL1 call m r k1 n1 b1 s1 ks1 l1 nest (W (n + W (((d.at 0).toS.size : Int).tdiv 100))) (W (i + 1))
    else largeL2 call m m k1 n1 b1 s1 ks1 l1 nest n 0 := by kernel_rfl
theorem large_2 : largeL2 (largeC k ext) m (r + 1) k1 n1 b1 s1 ks1 l1 nest n i = andK (decide (i < l1.length)) (decide (n ≥ 0)) fun t => bif t then (idx l1 i).bind fun d =>
      bif zB k (d.at 3).toS (d.at 4).toL (d.at 5).toL (W (nest + 1)) n then largeL2 (largeC k ext) m r k1 n1 b1 s1 ks1 l1 nest (largeO k (nrm d) (W (nest + 1)) n) (W (i + 1)) else none
    else nR n := by kernel_rfl
end
theorem W_in {n : Int} (h : -9223372036854775808 ≤ n ∧ n ≤ 9223372036854775807) : W n = n := IntWalk.i64_in _ h
theorem div_nat (n : Nat) : ((n : Int).tdiv 100) = ((n / 100 : Nat) : Int) := by
  rw [Int.tdiv_eq_ediv_of_nonneg (by omega)]; omega
theorem largeO_nrm (k : Nat) (d : Dat) (nest ahead : Int) : largeO k (nrm d) nest ahead = largeO k d nest ahead := by cases k <;> rfl
theorem keysN_bd : ∀ (ks : List Dat) (n : Int), (∀ d ∈ ks, (d.at 0).toS.size ≤ 140737488355328) → n ≤ keysN ks n ∧ keysN ks n ≤ n + ks.length * 1407374883553
  | [], n, _ => by simp [keysN]
  | d :: ks, n, h => by
    have h0 := h d (by simp)
    have ih := keysN_bd ks (n + ((d.at 0).toS.size : Int).tdiv 100) fun e he => h e (by simp [he])
    rw [div_nat] at ih
    show _ ≤ keysN ks (n + ((d.at 0).toS.size : Int).tdiv 100) ∧ keysN ks (n + ((d.at 0).toS.size : Int).tdiv 100) ≤ _
    rw [div_nat, List.length_cons]
    omega
theorem itemsN_bd {f : Dat → Int → Int} {M : Int} : ∀ (l : List Dat) (n : Int), (∀ d ∈ l, ∀ n, 0 ≤ n → n ≤ M → -1 ≤ f d n ∧ f d n ≤ M) → -1 ≤ n → n ≤ M → -1 ≤ itemsN f l n ∧ itemsN f l n ≤ M
  | [], n, _, h1, h2 => ⟨h1, h2⟩
  | d :: l, n, hf, h1, h2 => by
    show -1 ≤ (bif decide (n ≥ 0) then itemsN f l (f d n) else n) ∧ (bif decide (n ≥ 0) then itemsN f l (f d n) else n) ≤ M
    by_cases h : n ≥ 0
    · rw [decide_eq_true h]
      have := hf d (by simp) n h h2
      exact itemsN_bd l _ (fun e he => hf e (by simp [he])) this.1 this.2
    · rw [decide_eq_false h]; exact ⟨h1, h2⟩
theorem headN_eq (s : ByteArray) (ks l : List Dat) (ahead : Int) : headN s ks l ahead = ahead + 1 + ks.length + l.length + ((s.size / 100 : Nat) : Int) := by unfold headN; rw [div_nat]
theorem largeO_bd : ∀ (k : Nat) (d : Dat) (nest ahead : Int), 0 ≤ ahead → fitZ k (d.at 3).toS (d.at 4).toL (d.at 5).toL → -1 ≤ largeO k d nest ahead ∧ largeO k d nest ahead ≤ 4503599627370496
  | 0, d, nest, ahead, _, _ => by simp [largeO]
  | k + 1, d, nest, ahead, h0, hz => by
    obtain ⟨z1, z2, z3, z4, z5⟩ := hz
    unfold largeO
    cases hc : decide (headN (d.at 3).toS (d.at 4).toL (d.at 5).toL ahead > 2000) || decide (nest > 100)
    · rw [Bool.or_eq_false_iff] at hc
      have h1 := of_decide_eq_false hc.1
      rw [headN_eq] at h1
      have hk := keysN_bd (d.at 4).toL (headN (d.at 3).toS (d.at 4).toL (d.at 5).toL ahead) z4
      rw [headN_eq] at hk
      simp only [cond_false]
      rw [headN_eq]
      exact itemsN_bd _ _ (fun e he n hn _ => largeO_bd k e (nest + 1) n hn (z5 e he)) (by omega) (by omega)
    · exact ⟨by simp, by simp⟩
theorem large_loop2 {ext : CallF} {k m : Nat} {k1 n1 : Int} {b1 : Bool} {s1 : ByteArray} {ks1 l1 : List Dat} {nest : Int} (h1 : 102 ≤ k + (nest + 1)) (h2 : 0 ≤ nest) (h3 : nest ≤ 100) (hl : l1.length ≤ 2000) (hz : ∀ d ∈ l1, fitZ k (d.at 3).toS (d.at 4).toL (d.at 5).toL) :
    ∀ (q i r : Nat) (n : Int), i + q = l1.length → q < r → -1 ≤ n → n ≤ 4503599627370496 → largeL2 (largeC k ext) m r k1 n1 b1 s1 ks1 l1 nest n (i : Int) = nR (itemsN (fun e n => largeO k e (nest + 1) n) (l1.drop i) n) := by
  intro q
  induction q with
  | zero =>
    intro i r n hi hr hn1 hn2
    cases r with
    | zero => omega
    | succ r =>
      rw [large_2, andK_eq, show decide ((i : Int) < l1.length) = false from decide_eq_false (by omega), List.drop_eq_nil_of_le (by omega)]
      rfl
  | succ q ih =>
    intro i r n hi hr hn1 hn2
    cases r with
    | zero => omega
    | succ r =>
      have hlt : i < l1.length := by omega
      rw [large_2, andK_eq, show decide ((i : Int) < l1.length) = true from decide_eq_true (by omega), idx_at hlt, List.drop_eq_getElem_cons hlt, W_in (n := (i : Int) + 1) (by omega), W_in (n := nest + 1) (by omega), Bool.true_and]
      show _ = nR (bif decide (n ≥ 0) then itemsN (fun e n => largeO k e (nest + 1) n) (l1.drop (i + 1)) (largeO k l1[i] (nest + 1) n) else n)
      by_cases hn : n ≥ 0
      · have hd := hz _ (List.getElem_mem hlt)
        have hb := largeO_bd k l1[i] (nest + 1) n hn hd
        have ih := ih (i + 1) r (largeO k l1[i] (nest + 1) n) (by omega) (by omega) hb.1 hb.2
        rw [show ((i + 1 : Nat) : Int) = (i : Int) + 1 by omega] at ih
        have hzb : zB k (l1[i].at 3).toS (l1[i].at 4).toL (l1[i].at 5).toL (nest + 1) n = true := decP_eq ⟨h1, by omega, by omega, hn, by omega, hd⟩
        rw [decide_eq_true hn, cond_true, Option.bind_some, hzb, cond_true, largeO_nrm, ih]
        rfl
      · rw [decide_eq_false hn]; rfl
theorem large_loop1 {ext : CallF} {k m : Nat} {k1 n1 : Int} {b1 : Bool} {s1 : ByteArray} {ks1 l1 : List Dat} {nest : Int} (h1 : 102 ≤ k + (nest + 1)) (h2 : 0 ≤ nest) (h3 : nest ≤ 100) (hl : l1.length ≤ 2000) (hlk : ks1.length ≤ 2000) (hz : ∀ d ∈ l1, fitZ k (d.at 3).toS (d.at 4).toL (d.at 5).toL) (hzk : ∀ d ∈ ks1, (d.at 0).toS.size ≤ 140737488355328) (hm : 2000 < m) :
    ∀ (q i r : Nat) (n : Int), i + q = ks1.length → q < r → 0 ≤ n → n ≤ 2000 + i * 1407374883553 → largeL1 (largeC k ext) m r k1 n1 b1 s1 ks1 l1 nest n (i : Int) = nR (itemsN (fun e n => largeO k e (nest + 1) n) l1 (keysN (ks1.drop i) n)) := by
  intro q
  induction q with
  | zero =>
    intro i r n hi hr hn1 hn2
    cases r with
    | zero => omega
    | succ r =>
      have e := large_loop2 (ext := ext) (m := m) (k1 := k1) (n1 := n1) (b1 := b1) (s1 := s1) (ks1 := ks1) h1 h2 h3 hl hz l1.length 0 m n (by omega) (by omega) (by omega) (by omega)
      rw [List.drop_zero, show ((0 : Nat) : Int) = 0 from rfl] at e
      rw [large_1, e, show decide ((i : Int) < ks1.length) = false from decide_eq_false (by omega), List.drop_eq_nil_of_le (by omega)]
      rfl
  | succ q ih =>
    intro i r n hi hr hn1 hn2
    cases r with
    | zero => omega
    | succ r =>
      have hlt : i < ks1.length := by omega
      have hd := hzk _ (List.getElem_mem hlt)
      have ih := ih (i + 1) r (n + ((ks1[i].at 0).toS.size : Int).tdiv 100) (by omega) (by omega) (by rw [div_nat]; omega) (by rw [div_nat]; omega)
      rw [show ((i + 1 : Nat) : Int) = (i : Int) + 1 by omega] at ih
      have e := large_loop2 (ext := ext) (m := m) (k1 := k1) (n1 := n1) (b1 := b1) (s1 := s1) (ks1 := ks1) h1 h2 h3 hl hz l1.length 0 m n (by omega) (by omega) (by omega) (by omega)
      rw [List.drop_zero, show ((0 : Nat) : Int) = 0 from rfl] at e
      rw [large_1, e, show decide ((i : Int) < ks1.length) = true from decide_eq_true (by omega), idx_at hlt, List.drop_eq_getElem_cons hlt, cond_true, Option.bind_some]
      have w1 : W (((ks1[i].at 0).toS.size : Int).tdiv 100) = ((ks1[i].at 0).toS.size : Int).tdiv 100 := W_in (by rw [div_nat]; omega)
      have w2 : W (n + ((ks1[i].at 0).toS.size : Int).tdiv 100) = n + ((ks1[i].at 0).toS.size : Int).tdiv 100 := W_in (by rw [div_nat]; omega)
      rw [w1, w2, W_in (n := (i : Int) + 1) (by omega), ih]
      rfl
theorem large_run {ext : CallF} {k m : Nat} {k1 n1 : Int} {b1 : Bool} {s1 : ByteArray} {ks1 l1 : List Dat} {nest ahead : Int} (h : okZ (k + 1) s1 ks1 l1 nest ahead) (hm : 2000 < m) :
    evFn PR TK (largeC k ext) m 43 [.agg (obA k1 n1 b1 s1 ks1 l1), I nest, I ahead] [none, none, none] = nR (largeO (k + 1) (mkO k1 n1 b1 s1 ks1 l1) nest ahead) := by
  obtain ⟨h1, h2, h3, h4, h5, z1, z2, z3, z4, z5⟩ := h
  rw [large_0, orK_eq]
  have w0 := div_nat s1.size
  rw [W_in (n := (s1.size : Int).tdiv 100) (by omega), W_in (n := ahead + 1) (by omega), W_in (n := ahead + 1 + ks1.length) (by omega), W_in (n := ahead + 1 + ks1.length + l1.length) (by omega), W_in (n := ahead + 1 + ks1.length + l1.length + (s1.size : Int).tdiv 100) (by omega)]
  show _ = nR (bif decide (headN s1 ks1 l1 ahead > 2000) || decide (nest > 100) then -1 else itemsN (fun e n => largeO k e (nest + 1) n) l1 (keysN ks1 (headN s1 ks1 l1 ahead)))
  change (bif decide (headN s1 ks1 l1 ahead > 2000) || decide (nest > 100) then nR (-1) else largeL1 _ _ _ _ _ _ _ _ _ _ (headN s1 ks1 l1 ahead) 0) = _
  cases hc : decide (headN s1 ks1 l1 ahead > 2000) || decide (nest > 100)
  · rw [Bool.or_eq_false_iff] at hc
    have c1 := of_decide_eq_false hc.1
    have c2 := of_decide_eq_false hc.2
    rw [headN_eq] at c1
    have e := large_loop1 (ext := ext) (k := k) (m := m) (k1 := k1) (n1 := n1) (b1 := b1) (s1 := s1) (ks1 := ks1) (l1 := l1) (nest := nest) (by push_cast at h1; omega) h2 (by omega) (by omega) (by omega) z5 z4 hm ks1.length 0 m (headN s1 ks1 l1 ahead) (by omega) (by omega) (by rw [headN_eq]; omega) (by rw [headN_eq]; omega)
    rw [List.drop_zero, show ((0 : Nat) : Int) = 0 from rfl] at e
    rw [cond_false, cond_false, e]
  · rfl
theorem large_sound {ext : CallF} (hext : SoundCall PR ext) : ∀ k, SoundCall PR (largeC k ext) := by
  refine sound_rec (takes := TK) hmixP hext _ (fn := (PR.funcs[43]?).getD default) (by kernel_rfl) (by kernel_rfl) largeE (fun xs bs out h => ?_) (fun k xs bs out h => ?_)
  · unfold largeE at h
    split at h
    · injection h with h
      injection h with h _
      obtain ⟨h1, h2, h3, _⟩ := decP_of h
      simp at h1
      omega
    · cases h
  · unfold largeE at h
    split at h
    · injection h with h
      injection h with h1 h2
      subst h2
      exact ⟨2001, large_run (decP_of h1) (by omega)⟩
    · cases h
end Go.Proofs.YtckdgcpomkefpaaGreatDoor.En
end
section
set_option linter.unusedVariables false
set_option linter.unusedSimpArgs false
namespace Go.Proofs.YtckdgcpomkefpaaGreatDoor.En
open Go
def deferOf : Code → Option (Nat × FuncId × List Operand)
  | .region _ ops false => match ops.toList with
    | [⟨some t, .makeFunc (.func h) xs cs, _, _, _, none⟩, ⟨none, .defer { callee := .value (.tmp t'), args := ys, argTypes := _ }, _, _, _, none⟩] => bif Nat.beq t t' && xs.isEmpty && ys.isEmpty then some (t, h, cs.toList) else none
    | _ => none
  | _ => none
def recOf : Code → Option (Nat × Code)
  | .seq (.region _ ops false) rest => match ops.toList with
    | [⟨some t, .call { callee := .builtin .recover, args := _, argTypes := _ }, _, _, _, none⟩] => some (t, rest)
    | _ => none
  | _ => none
def unitK : Ex → St → Option Unit := fun x s => match x with | .normal => some () | .ret => some () | .exit _ => none
section
variable (P : Program) (takes : FuncId → Option Nat) (call : CallF)
def cloSt (fn : Func) (t : Nat) (v : Value) : St := (⟨List.replicate fn.ntmps .dead, List.replicate fn.ntmps none⟩ : St).put (some t) (.v v)
def cloRet (n : Nat) (h : FuncId) (m : Nat) : Bool := match P.funcs[h]? with
  | some fn => (match fn.body with
    | some c => (match recOf c with
      | some (t, rest) => fn.results.isEmpty && Nat.ble m fn.ntmps && !(fn.name == "runtime.NumGoroutine") && (evC P 0 takes call 0 n (fun _ _ => none) rest 0 [] (cloSt fn t .nilIface) unitK).isSome
      | none => false)
    | none => false)
  | none => false
def finK {β : Type} (fin : St → Option β) : Ex → St → Option β := fun x s => match x with | .normal => fin s | .ret => fin s | .exit _ => none
def capD (s : St) : List Operand → Option (List Nat)
  | [] => some []
  | c :: r => (capD s r).bind fun l => match s.ev c with
    | .box d off => bif Nat.beq off 0 && (s.boxAt d).isSome && !l.contains d then some (d :: l) else none
    | _ => none
def topB (s : St) : List ResultVar → Nat → Nat
  | [], m => m
  | .cell t _ :: rs, m => topB s rs (match s.get t with | .box d _ => bif Nat.ble m d then d + 1 else m | _ => m)
  | .tmp _ :: rs, m => topB s rs m
def keepT (np : Nat) (s s1 : St) : List ResultVar → Bool
  | [] => true
  | .cell t _ :: rs => (match s.get t, s1.get t with
    | .box d off, .box e off' => Nat.beq d e && Nat.beq off off' && Nat.blt d np
    | _, _ => false) && keepT np s s1 rs
  | .tmp _ :: _ => false
def upB : Nat → List Nat → List AV
  | _, [] => []
  | i, _ :: r => .box i 0 :: upB (i + 1) r
def deadL (cs : List AV) : List AV := cs.map fun _ => .dead
def deadB (b : Bx) (d : Nat) : Option (List AV) := (b.getD d none).map deadL
def cloStT (fn : Func) (t : Nat) (v : Value) (b : Bx) (ds : List Nat) : St :=
  (⟨upB 0 ds ++ List.replicate (fn.ntmps - ds.length) .dead, ds.map (deadB b) ++ List.replicate (fn.ntmps - ds.length) none⟩ : St).put (some t) (.v v)
def fnd (d : Nat) : Nat → List Nat → Option Nat
  | _, [] => none
  | i, e :: r => bif Nat.beq e d then some i else fnd d (i + 1) r
def resB (np : Nat) (ds : List Nat) (b2 : Bx) : Nat → Bx → Bx
  | _, [] => []
  | d, o :: r => (match fnd d 0 ds with | some i => (b2.getD i none).map (List.map AV.bare) | none => bif Nat.blt d np then o.map deadL else none) :: resB np ds b2 (d + 1) r
def isRes (rs : List ResultVar) (i : Nat) : Bool := rs.any fun r => match r with | .cell t _ => Nat.beq t i | .tmp _ => false
def resT (rs : List ResultVar) : Nat → List AV → List AV
  | _, [] => []
  | i, x :: r => (bif isRes rs i then x else .dead) :: resT rs (i + 1) r
def resSt (np : Nat) (rs : List ResultVar) (ds : List Nat) (s s2 : St) : St := ⟨resT rs 0 s.t, resB np ds s2.b 0 s.b⟩
def isIf : Value → Bool | .iface _ _ => true | _ => false
def cloThr {β : Type} (n : Nat) (h : FuncId) (np : Nat) (rs : List ResultVar) (s : St) (ds : List Nat) (fin : St → Option β) (v : Value) : Option β := match P.funcs[h]? with
  | some fn => (match fn.body with
    | some c => (match recOf c with
      | some (t, rest) => bif fn.results.isEmpty && Nat.ble ds.length fn.ntmps && !(fn.name == "runtime.NumGoroutine") && isIf v then
          evC P ds.length takes call 0 n (fun _ _ => none) rest 0 [] (cloStT fn t v s.b ds) (fun x s2 => match x with | .normal => fin (resSt np rs ds s s2) | .ret => fin (resSt np rs ds s s2) | .exit _ => none)
        else none
      | none => none)
    | none => none)
  | none => none
def evS {β : Type} (np ret n : Nat) (rs : List ResultVar) (fin : St → Option β) : Code → St → Option β
  | .seq a b, s => match deferOf a with
    | some (t, h, cs) => bif Nat.blt t s.t.length && cloRet P takes call n h cs.length then (capD s cs).bind fun ds =>
        evC P (topB s rs np) takes call ret n (fun s1 v => bif Nat.beq s1.t.length s.t.length && keepT (topB s rs np) (s.put (some t) .dead) s1 rs then cloThr P takes call n h np rs (s.put (some t) .dead) ds fin v else none) b ret [] (s.put (some t) .dead) (finK fin) else none
    | none => evC P np takes call ret n (fun _ _ => none) a (liveC ret b ret []) [] s (fun x s => match x with | .normal => evS np ret n rs fin b (s.prune np (liveC ret b ret [])) | .ret => fin s | .exit _ => none)
  | _, _ => none
def okS : Code → Bool
  | .seq a b => match deferOf a with
    | some (t, h, cs) => okCode P b && (match (P.funcs[h]?).bind (·.body) with
      | some c => (match recOf c with | some (_, rest) => okCode P rest | none => false)
      | none => false)
    | none => okCode P a && okS b
  | _ => false
def okFnD (fn : Func) : Bool := !(fn.name == "runtime.NumGoroutine") && (match fn.body with | some c => okS P c | none => false)
def evFnD (n : Nat) (f : FuncId) (xs : List AV) (bx : Bx) : Option Out := match P.funcs[f]? with
  | some fn => (match fn.body with
    | some c => bif Nat.beq xs.length fn.params.size && Nat.beq bx.length fn.params.size && Nat.ble fn.params.size fn.ntmps then evS P takes call fn.params.size (retMask fn.results.toList) n fn.results.toList (outOf P fn bx) c (entry fn xs bx) else none
    | none => none)
  | none => none
end
section
variable {P : Program} {F : Fx} {g g' : Gh} {s s' : St} {a a' : Act} {w w' : World} {takes : FuncId → Option Nat} {call : CallF}
theorem Inv.still (h : Inv P F g s a w) (hw : Fr (fun _ _ => False) w w') : Inv P F g s a w' := by
  have hle : g.Le g w w' := ⟨fun β j hj => ⟨hj, hw.cell (h.mem.gsz β j hj) fun t => t⟩, fun n v hv => hv, fun d β hd => hd⟩
  have same : ∀ β, β < w.heap.size → w'.heap[β]? = w.heap[β]? := fun β hβ => hw.same hβ fun _ t => t
  refine ⟨⟨fun β j hj => Nat.lt_of_lt_of_le (h.mem.gsz β j hj) hw.size, fun d cs hd => ?_, h.mem.apart, fun n v E hn => ?_, h.mem.tkap, h.mem.tkbx, fun d cs β hd hβ => (h.mem.ty d cs β hd hβ).mono hw⟩, h.blen, h.len, fun i x hi => ?_, h.dfr, h.fr.trans hw (fun _ _ _ t => t) (fun _ _ _ t => t.elim), h.g0, h.gfr, h.tb, h.bb, h.pbx⟩
  · obtain ⟨β, us, T, e1, e2, e3, e4, e5⟩ := h.mem.box d cs hd
    have hlt := (Array.getElem?_eq_some_iff.1 e2).1
    exact ⟨β, us, T, e1, (same β hlt).trans e2, e3, e4, fun j c hc => let ⟨u, hu, hr⟩ := e5 j c hc; ⟨u, hu, hr.mono hle⟩⟩
  · exact (h.mem.own n v E hn).keep fun β hβ => ⟨same β ((h.mem.own n v E hn).lt hβ), fun j hj => hj⟩
  · obtain ⟨v, h1, h2⟩ := h.tm i x hi
    exact ⟨v, h1, h2.mono hle⟩
def Fx.anew (P : Program) (F : Fx) (g : Gh) (s : St) (a : Act) (w : World) (h : Inv P F g s a w) (np : Nat) (ds : List Deferred) : Fx := ⟨w, g.G, TBof g, BBof g s.b, g.bx, np, ds, fun β hβ => ⟨h.laid.G β hβ, fun ⟨i, cs, hi, hb⟩ => by
  obtain ⟨β', us, T, h1, _, _, h2, _⟩ := h.mem.box i cs hi
  rw [hb] at h1
  cases h1
  exact h2 0 (h.laid.G β hβ 0)⟩, h.laid.P⟩
theorem Inv.anew (h : Inv P F g s a w) (np : Nat) (ds : List Deferred) : Inv P (F.anew P g s a w h np ds) g s { a with defers := ds } w :=
  ⟨h.mem, h.blen, h.len, h.tm, rfl, Fr.refl _ _, fun β j hj => hj, fun β j hj _ => .inl hj, fun n v E β hn hv => .inr ⟨n, v, E, hn, hv⟩, fun d cs β hd hb => .inr ⟨d, cs, hd, hb⟩, fun i _ _ => rfl⟩
theorem Inv.back (h : Inv P F g s a w) {np : Nat} (hnp : F.np ≤ np) {ds : List Deferred} (h' : Inv P (F.anew P g s a w h np ds) g' s' a' w') : Inv P F g' s' { a' with defers := F.ds } w' := by
  have size := h.fr.size
  refine ⟨h'.mem, h'.blen, h'.len, h'.tm, rfl, h.fr.trans h'.fr (fun _ _ _ t => t) (fun β j hlt t => ?_), fun β j hj => h'.g0 β j (h.g0 β j hj), fun β j hj hlt => ?_, fun n v E β hn hv => ?_, fun d cs β hd hb => ?_, fun i hi hne => ?_⟩
  · rcases t with ⟨d, cs, hd, hb⟩ | ⟨⟨n, y, E, hn, hy⟩, hg⟩
    · rcases h.bb d cs β hd hb with h1 | h1
      · omega
      · exact .inl h1
    · rcases h.tb n y E β hn hy with h1 | h1
      · omega
      · exact .inr ⟨h1, fun hG => hg (h.g0 β j hG)⟩
  · rcases h'.gfr β j hj (Nat.lt_of_lt_of_le hlt size) with h1 | ⟨n, y, E, hn, hy⟩
    · exact h.gfr β j h1 hlt
    · rcases h.tb n y E β hn hy with h2 | h2
      · omega
      · exact .inr h2
  · rcases h'.tb n v E β hn hv with h1 | ⟨n2, y, E2, hn2, hy⟩
    · exact .inl (Nat.le_trans size h1)
    · exact h.tb n2 y E2 β hn2 hy
  · rcases h'.bb d cs β hd hb with h1 | ⟨d2, cs2, hd2, hb2⟩
    · exact .inl (Nat.le_trans size h1)
    · exact h.bb d2 cs2 β hd2 hb2
  · have h1 := h.pbx i hi hne
    have h2 := h'.pbx i (Nat.lt_of_lt_of_le hi hnp) (by show g.bx i ≠ none; rw [h1]; exact hne)
    exact h2.trans h1
theorem deferOf_eq {c : Code} {t : Nat} {h : FuncId} {cs : List Operand} (hd : deferOf c = some (t, h, cs)) : ∃ (id : Nat) (caps : Array Operand) (ty1 ty2 : TypeId) (p1 p2 : String) (a1 a2 : Array Edge) (Ts : Array TypeId), cs = caps.toList ∧
    c = .region id #[⟨some t, .makeFunc (.func h) #[] caps, ty1, p1, a1, none⟩, ⟨none, .defer { callee := .value (.tmp t), args := #[], argTypes := Ts }, ty2, p2, a2, none⟩] false := by
  unfold deferOf at hd
  split at hd
  · rename_i id ops
    split at hd
    · rename_i t1 h1 xs caps ty1 p1 a1 t2 ys Ts ty2 p2 a2 hops
      obtain ⟨hc, hd⟩ := bif_some hd
      cases hd
      simp only [Bool.and_eq_true] at hc
      obtain ⟨⟨c1, c2⟩, c3⟩ := hc
      have e1 := Nat.eq_of_beq_eq_true c1
      subst e1
      have e2 : xs = #[] := by simpa using c2
      have e3 : ys = #[] := by simpa using c3
      subst e2 e3
      refine ⟨id, caps, ty1, ty2, p1, p2, a1, a2, Ts, rfl, ?_⟩
      have e4 : ops = #[_, _] := Array.ext' hops
      rw [e4]
    · cases hd
  · cases hd
theorem recOf_eq {c : Code} {t : Nat} {rest : Code} (h : recOf c = some (t, rest)) : ∃ (id : Nat) (xs : Array Operand) (Ts : Array TypeId) (ty : TypeId) (p : String) (af : Array Edge),
    c = .seq (.region id #[⟨some t, .call { callee := .builtin .recover, args := xs, argTypes := Ts }, ty, p, af, none⟩] false) rest := by
  unfold recOf at h
  split at h
  · rename_i id ops rest'
    split at h
    · rename_i t1 xs Ts ty p af hops
      cases h
      refine ⟨id, xs, Ts, ty, p, af, ?_⟩
      have e4 : ops = #[_] := Array.ext' hops
      rw [e4]
    · cases h
  · cases h
def gN (g : Gh) : Gh := ⟨g.G, fun _ => none, fun _ => none⟩
theorem gN_mem (hm : Mem P g w s.b) (b : Bx) (hb : ∀ x ∈ b, x = none) : Mem P (gN g) w b := by
  have hn : ∀ d cs, b[d]? = some (some cs) → False := fun d cs h => by have := hb _ (List.mem_of_getElem? h); cases this
  exact ⟨hm.gsz, fun d cs h => (hn d cs h).elim, fun d d' β cs cs' h => (hn d cs h).elim, fun n v E h => (by cases h), fun n m v v' E E' β h => (by cases h), fun n v E β d cs h => (by cases h), fun d cs β h _ => (hn d cs h).elim⟩
theorem clo_ret (hmix : P.follows .mixedOrders = true) (hcall : SoundCall P call) {n : Nat} {h : FuncId} {args : Array Value} (hc : cloRet P takes call n h args.size = true)
    (hok : (match (P.funcs[h]?).bind (·.body) with
      | some c => (match recOf c with | some (_, rest) => okCode P rest | none => false)
      | none => false) = true) (hI : Inv P F g s a w) : CallsD P h args .returning w fun e u' w' => u' = .returning ∧ (∃ v, e = .returned v) ∧ Fr (fun _ _ => False) w w' := by
  unfold cloRet at hc
  cases hf : P.funcs[h]? with
  | none => rw [hf] at hc; cases hc
  | some fn =>
    rw [hf] at hc hok
    dsimp only at hc
    cases hb : fn.body with
    | none => rw [hb] at hc; cases hc
    | some c =>
      rw [hb] at hc
      simp only [Option.bind_some, hb] at hok
      dsimp only at hc
      cases hr : recOf c with
      | none => rw [hr] at hc; cases hc
      | some tr =>
        obtain ⟨t, rest⟩ := tr
        rw [hr] at hc hok
        dsimp only at hc hok
        simp only [Bool.and_eq_true] at hc
        obtain ⟨⟨⟨c1, c2⟩, c3⟩, c4⟩ := hc
        have hm := Nat.le_of_ble_eq_true c2
        obtain ⟨o, ho⟩ := Option.isSome_iff_exists.1 c4
        obtain ⟨id, xs, Ts, ty, p, af, rfl⟩ := recOf_eq hr
        refine callsD_of_wpS hf hb fun c₀ cs hu => wpS_seq (wpS_region ?_)
        simp only [show (List.range (#[(⟨some t, .call { callee := .builtin .recover, args := xs, argTypes := Ts }, ty, p, af, none⟩ : Oper)]).size) = [0] from rfl, wpOpsS, List.getElem?_toArray, List.getElem?_cons_zero, Region.wanted, if_true]
        have hrun : (execOp (({ tmps := args ++ Array.replicate (fn.ntmps - args.size) undef, defers := [] } : Act).eval) (⟨some t, .call { callee := .builtin .recover, args := xs, argTypes := Ts }, ty, p, af, none⟩ : Oper)).run P w = .ok .recover w := by
          simp [execOp, resolve, invoke, builtin]
        rw [hrun]
        dsimp only
        have hrec : recoverD (c₀ :: cs) = none := by
          simp [recoverD, hu]
        rw [hrec]
        dsimp only
        show Code.wpS P rest _ _ _ _
        refine wpS_of_wp ?_
        have hL : Laid (gN g) w := ⟨hI.laid.G, hI.laid.P⟩
        have hM : ∀ b : Bx, (∀ x ∈ b, x = none) → Mem P (gN g) w b := fun b hb => gN_mem hI.mem b hb
        have h0 : Mem P (gN g) w (List.replicate fn.ntmps none) := hM _ fun x hx => (List.mem_replicate.1 hx).2
        have hInv : Inv P (fxOf (gN g) w (List.replicate fn.ntmps none) 0 h0 hL) (gN g) (cloSt fn t .nilIface) (({ tmps := args ++ Array.replicate (fn.ntmps - args.size) undef, defers := [] } : Act).put (some t) .nilIface) w := by
          refine ⟨h0, by simp [cloSt, St.put], by simp [cloSt, St.put, Act.put]; omega, fun i x hi => ?_, rfl, Fr.refl _ _, fun β j h => h, fun β j h _ => .inl h, fun n v E β h1 h2 => (by cases h1), fun d cs β h1 h2 => (by
            have : (List.replicate fn.ntmps (none : Option (List AV)))[d]? = some (some cs) := h1
            rw [List.getElem?_replicate] at this
            split at this <;> cases this), fun i _ _ => rfl⟩
          have hi' : ((List.replicate fn.ntmps AV.dead).set t (.v .nilIface))[i]? = some x := hi
          have hsz : (args ++ Array.replicate (fn.ntmps - args.size) undef).size = fn.ntmps := by simp; omega
          rw [List.getElem?_set] at hi'
          show ∃ v, ((args ++ Array.replicate (fn.ntmps - args.size) undef).setIfInBounds t .nilIface)[i]? = some v ∧ _
          rw [Array.getElem?_setIfInBounds]
          split at hi'
          · rename_i e
            subst e
            split at hi'
            · rename_i hlt
              cases hi'
              have hlt' : t < fn.ntmps := by simpa using hlt
              rw [if_pos rfl, if_pos (by rw [hsz]; exact hlt')]
              exact ⟨_, rfl, rfl, rfl⟩
            · cases hi'
          · rename_i e
            rw [List.getElem?_replicate] at hi'
            split at hi'
            · rename_i hlt
              cases hi'
              rw [if_neg e, Array.getElem?_eq_getElem (by rw [hsz]; exact hlt)]
              exact ⟨_, rfl, trivial⟩
            · cases hi'
        refine evC_sound (F := fxOf (gN g) w (List.replicate fn.ntmps none) 0 h0 hL) hmix hcall (takes := takes) _ rest _ _ hok _ _ o _ _ w _ ho hInv (fun x g' s' a' w' e hI' => ?_) (fun s' v a' w' e hd hf hkb => by cases e)
        have fin : bodyPostS P fn c₀ cs (fun e u' w' => u' = .returning ∧ (∃ v, e = .returned v) ∧ Fr (fun _ _ => False) w w') .normal a' (c₀ :: cs) w' := by
          refine ⟨hI'.dfr, .returning, ?_, ?_⟩
          · rw [← hu]
          · have hres : fn.results = #[] := by simpa using c1
            have : (results fn a'.tmps).run P w' = .ok (.tuple #[]) w' := by
              rw [results_eq, hres]; simp
            refine ⟨_, this, rfl, ⟨_, rfl⟩, hI'.fr.mono fun β j _ t => ?_⟩
            rcases t with ⟨i, cs, hi, _⟩ | ⟨⟨n, y, E, hn, _⟩, _⟩
            · rw [List.getElem?_replicate] at hi
              split at hi <;> cases hi
            · cases hn
        cases x with
        | normal => exact fin
        | ret => exact fin
        | exit id => cases e
theorem clo_fn {n : Nat} {h : FuncId} {m : Nat} (hc : cloRet P takes call n h m = true) : ∃ fn, P.funcs[h]? = some fn ∧ fn.body.isSome = true ∧ (fn.name == "runtime.NumGoroutine") = false := by
  unfold cloRet at hc
  cases hf : P.funcs[h]? with
  | none => rw [hf] at hc; cases hc
  | some fn =>
    rw [hf] at hc
    dsimp only at hc
    cases hb : fn.body with
    | none => rw [hb] at hc; cases hc
    | some c =>
      rw [hb] at hc
      dsimp only at hc
      cases hr : recOf c with
      | none => rw [hr] at hc; cases hc
      | some tr =>
        rw [hr] at hc
        simp only [Bool.and_eq_true, Bool.not_eq_true'] at hc
        exact ⟨fn, rfl, by rw [hb]; rfl, hc.1.2⟩
theorem capD_spec (hI : Inv P F g s a w) : ∀ (cs : List Operand) (ds : List Nat), capD s cs = some ds → ds.length = cs.length ∧ ds.Nodup ∧ ∀ (i d : Nat), ds[i]? = some d → ∃ β cells, g.bx d = some β ∧ s.b[d]? = some (some cells) ∧ (cs.map a.eval)[i]? = some (.pointer (some ⟨β, 0, none⟩))
  | [], ds, h => by cases h; exact ⟨rfl, List.nodup_nil, fun i d h => by simp at h⟩
  | c :: r, ds, h => by
    obtain ⟨l, hl, h⟩ := Option.bind_eq_some_iff.1 h
    obtain ⟨e1, e2, e3⟩ := capD_spec hI r l hl
    cases hc : s.ev c <;> rw [hc] at h <;> first | (cases h; done) | skip
    rename_i d off
    obtain ⟨hb, h⟩ := bif_some h
    cases h
    simp only [Bool.and_eq_true] at hb
    obtain ⟨⟨b1, b2⟩, b3⟩ := hb
    have h0 := Nat.eq_of_beq_eq_true b1
    subst h0
    obtain ⟨cells, hcl⟩ := Option.isSome_iff_exists.1 b2
    have hcl := boxAt_eq hcl
    have hev : ∃ β, g.bx d = some β ∧ a.eval c = .pointer (some ⟨β, 0, none⟩) := by
      cases c with
      | tmp t =>
        have := hI.get t
        rw [show s.get t = .box d 0 from hc] at this
        exact this
      | const x => cases x <;> cases hc
      | func f => cases hc
      | global f => cases hc
    obtain ⟨β, hβ, hv⟩ := hev
    refine ⟨by simp [e1], List.nodup_cons.2 ⟨by simpa using b3, e2⟩, fun i d' hi => ?_⟩
    cases i with
    | zero => cases hi; exact ⟨β, cells, hβ, hcl, by rw [List.map_cons, hv]; rfl⟩
    | succ i => exact e3 i d' hi
theorem dead_box {b : Bx} {T : Nat → Nat → Prop} (hm : Mem P g w b) (hfr : Fr T w w') {d : Nat} {cs : List AV} {β : Nat} (hd : b[d]? = some (some cs)) (hb : g.bx d = some β) :
    ∃ us U, w'.heap[β]? = some (.cells us U (0, 0)) ∧ us.size = cs.length ∧ (∀ j, ¬ g.G β j) ∧ ∀ (g' : Gh) (w2 : World) (j : Nat) c, (deadL cs)[j]? = some c → ∃ u, us[j]? = some u ∧ RepB P g' w2 U β j c u := by
  obtain ⟨β', us, U, e1, e2, e3, e4, e5⟩ := hm.box d cs hd
  rw [hb] at e1
  cases e1
  obtain ⟨us0, U0, fz0, t1, t2⟩ := hm.ty d cs β hd hb
  rw [e2] at t1
  cases t1
  have one : ∀ (j : Nat) u, us[j]? = some u → u.oneCell' = true := fun j u hu => by
    have hj : j < cs.length := by have := (Array.getElem?_eq_some_iff.1 hu).1; omega
    obtain ⟨u', h1, h2⟩ := e5 j _ (List.getElem?_eq_getElem hj)
    rw [hu] at h1
    cases h1
    exact h2.one
  have fin : ∀ us' : Array Value, us'.size = us.size → (∀ (j : Nat) u, us'[j]? = some u → u.oneCell' = true) → ∀ (g' : Gh) (w2 : World) (j : Nat) c, (deadL cs)[j]? = some c → ∃ u, us'[j]? = some u ∧ RepB P g' w2 U β j c u := fun us' hs h1 g' w2 j c hj => by
    unfold deadL at hj
    rw [List.getElem?_map] at hj
    obtain ⟨c0, hc0, rfl⟩ := Option.map_eq_some_iff.1 hj
    have hlt : j < us'.size := by have := (List.getElem?_eq_some_iff.1 hc0).1; omega
    exact ⟨us'[j], Array.getElem?_eq_getElem hlt, h1 j _ (Array.getElem?_eq_getElem hlt)⟩
  rcases hfr.blk β _ e2 with e | ⟨c0, E, fz, c', fz', q1, q2, q3, q4, q5, q6⟩
  · exact ⟨us, U, e, e3, e4, fin us rfl one⟩
  · cases q1
    have hz : fz' = (0, 0) := by
      rcases q5 with q5 | ⟨_, q5⟩
      · exact q5
      · exact absurd q5 t2
    subst hz
    exact ⟨c', U, q2, q3.trans e3, e4, fin c' q3 fun j u hu => (q6 j u hu).elim (one j u) id⟩
def gCl (g : Gh) (ds : List Nat) : Gh := ⟨g.G, fun _ => none, fun i => (ds[i]?).bind g.bx⟩
def bCl (b : Bx) (ds : List Nat) (k : Nat) : Bx := ds.map (deadB b) ++ List.replicate k none
theorem getD_some {b : Bx} {d : Nat} {cs : List AV} (h : b.getD d none = some cs) : b[d]? = some (some cs) := boxAt_eq (s := ⟨[], b⟩) h
theorem bCl_get {b : Bx} {ds : List Nat} {k i : Nat} {cs : List AV} (h : (bCl b ds k)[i]? = some (some cs)) : ∃ d cs0, ds[i]? = some d ∧ b[d]? = some (some cs0) ∧ cs = deadL cs0 := by
  unfold bCl at h
  rw [List.getElem?_append] at h
  split at h
  · rw [List.getElem?_map] at h
    obtain ⟨d, hd, h⟩ := Option.map_eq_some_iff.1 h
    unfold deadB at h
    obtain ⟨cs0, h0, rfl⟩ := Option.map_eq_some_iff.1 h
    exact ⟨d, cs0, hd, getD_some h0, rfl⟩
  · rw [List.getElem?_replicate] at h
    split at h <;> cases h
theorem thr_mem {b : Bx} {T : Nat → Nat → Prop} (hm : Mem P g w b) (hfr : Fr T w w') {ds : List Nat} (hnd : ds.Nodup) (k : Nat) : Mem P (gCl g ds) w' (bCl b ds k) := by
  have hbx : ∀ (i d β : Nat), ds[i]? = some d → (gCl g ds).bx i = some β → g.bx d = some β := fun i d β hi hb => by
    have hb : (ds[i]?).bind g.bx = some β := hb
    rw [hi] at hb
    exact hb
  refine ⟨fun β j hj => Nat.lt_of_lt_of_le (hm.gsz β j hj) hfr.size, fun i cs hi => ?_, fun i i' β cs cs' hi hi' hβ hβ' => ?_, fun n v E h => (by cases h), fun n m v v' E E' β h => (by cases h), fun n v E β d cs h => (by cases h), fun i cs β hi hβ => ?_⟩
  · obtain ⟨d, cs0, h1, h2, rfl⟩ := bCl_get hi
    obtain ⟨β, _, _, e1, _⟩ := hm.box d cs0 h2
    obtain ⟨us, U, q1, q2, q3, q4⟩ := dead_box hm hfr h2 e1
    exact ⟨β, us, U, by show (ds[i]?).bind g.bx = _; rw [h1]; exact e1, q1, by simpa [deadL] using q2, q3, fun j c hc => q4 _ _ j c hc⟩
  · obtain ⟨d, cs0, h1, h2, rfl⟩ := bCl_get hi
    obtain ⟨d', cs0', h1', h2', rfl⟩ := bCl_get hi'
    have := hm.apart d d' β _ _ h2 h2' (hbx i d β h1 hβ) (hbx i' d' β h1' hβ')
    subst this
    exact (List.getElem?_inj (List.getElem?_eq_some_iff.1 h1).1 hnd).1 (h1.trans h1'.symm)
  · obtain ⟨d, cs0, h1, h2, rfl⟩ := bCl_get hi
    exact (hm.ty d _ β h2 (hbx i d β h1 hβ)).mono hfr
theorem upB_get : ∀ (ds : List Nat) (k i : Nat), (upB k ds)[i]? = (ds[i]?).map fun _ => AV.box (k + i) 0
  | [], k, i => by simp [upB]
  | d :: ds, k, 0 => by simp [upB]
  | d :: ds, k, i + 1 => by
    simp only [upB, List.getElem?_cons_succ]
    rw [upB_get ds (k + 1) i, show k + 1 + i = k + (i + 1) by omega]
theorem upB_len : ∀ (ds : List Nat) (k : Nat), (upB k ds).length = ds.length
  | [], k => rfl
  | d :: ds, k => by simp [upB, upB_len ds (k + 1)]
theorem recoverD_some {c₀ : Frame} {cs : List Frame} {v : Value} (hu : c₀.mode = .panicking [{ v := v, recovered := false }]) : recoverD (c₀ :: cs) = some (v, { c₀ with mode := .panicking [{ v := v, recovered := true }] } :: cs) := by
  simp [recoverD, hu]
theorem clo_thr (hmix : P.follows .mixedOrders = true) (hcall : SoundCall P call) {n : Nat} {h : FuncId} {np : Nat} {rs : List ResultVar} {ds : List Nat} {args : Array Value} {β : Type} {fin : St → Option β} {o : β} {v : Value}
    (hc : cloThr P takes call n h np rs s ds fin v = some o)
    (hok : (match (P.funcs[h]?).bind (·.body) with
      | some c => (match recOf c with | some (_, rest) => okCode P rest | none => false)
      | none => false) = true) (hL : Laid (gCl g ds) w) (hM : ∀ k, Mem P (gCl g ds) w (bCl s.b ds k)) (hsz : args.size = ds.length)
    (harg : ∀ (i d : Nat), ds[i]? = some d → ∃ β, g.bx d = some β ∧ args[i]? = some (.pointer (some ⟨β, 0, none⟩))) :
    CallsD P h args (.panicking [{ v := v, recovered := false }]) w fun e u' w2 => u' = .panicking [{ v := v, recovered := true }] ∧ (∃ x, e = .returned x) ∧ ∃ k g2 s2 a2, fin (resSt np rs ds s s2) = some o ∧ Inv P (fxOf (gCl g ds) w (bCl s.b ds k) ds.length (hM k) hL) g2 s2 a2 w2 := by
  unfold cloThr at hc
  cases hf : P.funcs[h]? with
  | none => rw [hf] at hc; cases hc
  | some fn =>
    rw [hf] at hc hok
    dsimp only at hc
    cases hb : fn.body with
    | none => rw [hb] at hc; cases hc
    | some c =>
      rw [hb] at hc
      simp only [Option.bind_some, hb] at hok
      dsimp only at hc
      cases hr : recOf c with
      | none => rw [hr] at hc; cases hc
      | some tr =>
        obtain ⟨t, rest⟩ := tr
        rw [hr] at hc hok
        dsimp only at hc hok
        obtain ⟨hchk, hc⟩ := bif_some hc
        simp only [Bool.and_eq_true] at hchk
        obtain ⟨⟨⟨c1, c2⟩, c3⟩, c4⟩ := hchk
        have hm := Nat.le_of_ble_eq_true c2
        have hv1 : v.oneCell' = true := by cases v <;> first | rfl | cases c4
        obtain ⟨id, xs, Ts, ty, p, af, rfl⟩ := recOf_eq hr
        refine callsD_of_wpS hf hb fun c₀ cs hu => wpS_seq (wpS_region ?_)
        simp only [show (List.range (#[(⟨some t, .call { callee := .builtin .recover, args := xs, argTypes := Ts }, ty, p, af, none⟩ : Oper)]).size) = [0] from rfl, wpOpsS, List.getElem?_toArray, List.getElem?_cons_zero, Region.wanted, if_true]
        have hrun : (execOp (({ tmps := args ++ Array.replicate (fn.ntmps - args.size) undef, defers := [] } : Act).eval) (⟨some t, .call { callee := .builtin .recover, args := xs, argTypes := Ts }, ty, p, af, none⟩ : Oper)).run P w = .ok .recover w := by
          simp [execOp, resolve, invoke, builtin]
        rw [hrun]
        dsimp only
        rw [recoverD_some hu]
        dsimp only
        show Code.wpS P rest _ _ _ _
        refine wpS_of_wp ?_
        have h0 := hM (fn.ntmps - ds.length)
        have hasz : (args ++ Array.replicate (fn.ntmps - args.size) undef).size = fn.ntmps := by simp; omega
        have hInv : Inv P (fxOf (gCl g ds) w (bCl s.b ds (fn.ntmps - ds.length)) ds.length h0 hL) (gCl g ds) (cloStT fn t v s.b ds) (({ tmps := args ++ Array.replicate (fn.ntmps - args.size) undef, defers := [] } : Act).put (some t) v) w := by
          refine ⟨h0, by simp [cloStT, St.put, upB_len], by simp [cloStT, St.put, Act.put, upB_len, hsz], fun i x hi => ?_, rfl, Fr.refl _ _, fun β j h => h, fun β j h _ => .inl h, fun n v E β h1 h2 => (by cases h1), fun d cs β h1 h2 => .inr ⟨d, cs, h1, h2⟩, fun i _ _ => rfl⟩
          have hi' : ((upB 0 ds ++ List.replicate (fn.ntmps - ds.length) AV.dead).set t (.v v))[i]? = some x := hi
          show ∃ u, ((args ++ Array.replicate (fn.ntmps - args.size) undef).setIfInBounds t v)[i]? = some u ∧ _
          rw [List.getElem?_set] at hi'
          rw [Array.getElem?_setIfInBounds]
          have hll : (upB 0 ds ++ List.replicate (fn.ntmps - ds.length) AV.dead).length = fn.ntmps := by simp [upB_len]; omega
          split at hi'
          · rename_i e
            subst e
            split at hi'
            · rename_i hlt
              cases hi'
              rw [hll] at hlt
              rw [if_pos rfl, if_pos (by rw [hasz]; exact hlt)]
              exact ⟨_, rfl, rfl, hv1⟩
            · cases hi'
          · rename_i e
            rw [if_neg e]
            rw [List.getElem?_append] at hi'
            split at hi'
            · rename_i hlt
              rw [upB_get] at hi'
              obtain ⟨d, hd, rfl⟩ := Option.map_eq_some_iff.1 hi'
              obtain ⟨β, hβ, hav⟩ := harg i d hd
              have hlt2 : i < args.size := by rw [upB_len] at hlt; omega
              refine ⟨_, (Array.getElem?_append_left hlt2).trans hav, β, ?_, rfl⟩
              show (ds[0 + i]?).bind g.bx = some β
              rw [Nat.zero_add, hd]
              exact hβ
            · rw [List.getElem?_replicate] at hi'
              split at hi'
              · rename_i hge hlt
                cases hi'
                rw [upB_len] at hge hlt
                rw [Array.getElem?_eq_getElem (by rw [hasz]; omega)]
                exact ⟨_, rfl, trivial⟩
              · cases hi'
        refine evC_sound (F := fxOf (gCl g ds) w (bCl s.b ds (fn.ntmps - ds.length)) ds.length h0 hL) hmix hcall (takes := takes) _ rest _ _ hok _ _ o _ _ w _ hc hInv (fun x g' s' a' w' e hI' => ?_) (fun s' v a' w' e hd hf hkb => by cases e)
        have fin' : fin (resSt np rs ds s s') = some o → bodyPostS P fn c₀ cs (fun e u' w2 => u' = .panicking [{ v := v, recovered := true }] ∧ (∃ x, e = .returned x) ∧ ∃ k g2 s2 a2, fin (resSt np rs ds s s2) = some o ∧ Inv P (fxOf (gCl g ds) w (bCl s.b ds k) ds.length (hM k) hL) g2 s2 a2 w2) .normal a' ({ c₀ with mode := .panicking [{ v := v, recovered := true }] } :: cs) w' := fun e => by
          refine ⟨hI'.dfr, .panicking [{ v := v, recovered := true }], rfl, ?_⟩
          have hres : fn.results = #[] := by simpa using c1
          have : (results fn a'.tmps).run P w' = .ok (.tuple #[]) w' := by
            rw [results_eq, hres]; simp
          exact ⟨_, this, rfl, ⟨_, rfl⟩, _, g', s', a', e, hI'⟩
        cases x with
        | normal => exact fin' e
        | ret => exact fin' e
        | exit id => cases e
theorem fnd_some {d : Nat} : ∀ (ds : List Nat) (k i : Nat), fnd d k ds = some i → k ≤ i ∧ ds[i - k]? = some d
  | [], k, i, h => by cases h
  | e :: r, k, i, h => by
    unfold fnd at h
    cases he : Nat.beq e d <;> rw [he] at h
    · obtain ⟨h1, h2⟩ := fnd_some r (k + 1) i h
      refine ⟨by omega, ?_⟩
      rw [show i - k = (i - (k + 1)) + 1 by omega]
      exact h2
    · cases h
      refine ⟨Nat.le_refl _, ?_⟩
      rw [Nat.sub_self, Nat.eq_of_beq_eq_true he]
      rfl
theorem fnd_none {d : Nat} : ∀ (ds : List Nat) (k : Nat), fnd d k ds = none → d ∉ ds
  | [], k, h => by simp
  | e :: r, k, h => by
    unfold fnd at h
    cases he : Nat.beq e d <;> rw [he] at h
    · rw [List.mem_cons]
      rintro (q | q)
      · subst q; rw [Nat.beq_refl] at he; cases he
      · exact fnd_none r (k + 1) h q
    · cases h
theorem resB_get {np : Nat} {ds : List Nat} {b2 : Bx} : ∀ (l : Bx) (k i : Nat), (resB np ds b2 k l)[i]? = (l[i]?).map fun o => match fnd (k + i) 0 ds with | some i => (b2.getD i none).map (List.map AV.bare) | none => bif Nat.blt (k + i) np then o.map deadL else none
  | [], k, i => by simp [resB]
  | o :: r, k, 0 => by simp [resB]
  | o :: r, k, i + 1 => by
    simp only [resB, List.getElem?_cons_succ]
    rw [resB_get r (k + 1) i, show k + 1 + i = k + (i + 1) by omega]
theorem resB_len {np : Nat} {ds : List Nat} {b2 : Bx} : ∀ (l : Bx) (k : Nat), (resB np ds b2 k l).length = l.length
  | [], k => rfl
  | o :: r, k => by simp [resB, resB_len r (k + 1)]
theorem resT_get {rs : List ResultVar} : ∀ (l : List AV) (k i : Nat), (resT rs k l)[i]? = (l[i]?).map fun x => bif isRes rs (k + i) then x else .dead
  | [], k, i => by simp [resT]
  | o :: r, k, 0 => by simp [resT]
  | o :: r, k, i + 1 => by
    simp only [resT, List.getElem?_cons_succ]
    rw [resT_get r (k + 1) i, show k + 1 + i = k + (i + 1) by omega]
theorem resT_len {rs : List ResultVar} : ∀ (l : List AV) (k : Nat), (resT rs k l).length = l.length
  | [], k => rfl
  | o :: r, k => by simp [resT, resT_len r (k + 1)]
theorem keepT_spec {np : Nat} {s1 : St} : ∀ (rs : List ResultVar) (i : Nat), keepT np s s1 rs = true → isRes rs i = true → ∃ d off, s.get i = .box d off ∧ s1.get i = .box d off ∧ d < np
  | [], i, h, hi => by cases hi
  | .tmp _ :: rs, i, h, hi => by cases h
  | .cell t T :: rs, i, h, hi => by
    unfold keepT at h
    rw [Bool.and_eq_true] at h
    have hi' : (Nat.beq t i || isRes rs i) = true := hi
    rw [Bool.or_eq_true] at hi'
    rcases hi' with hi' | hi'
    · have := Nat.eq_of_beq_eq_true hi'
      subst this
      have h1 := h.1
      split at h1
      · rename_i d off e off' q1 q2
        simp only [Bool.and_eq_true] at h1
        have e1 := Nat.eq_of_beq_eq_true h1.1.1
        have e2 := Nat.eq_of_beq_eq_true h1.1.2
        subst e1 e2
        exact ⟨d, off, q1, q2, Nat.le_of_ble_eq_true h1.2⟩
      · cases h1
    · exact keepT_spec rs i h.2 hi'
theorem bare_repB {g' : Gh} {T : TypeId} {β j : Nat} {c : AV} {u : Value} (hG : g'.G = g.G) (h : RepB P g w T β j c u) : RepB P g' w T β j c.bare u := by
  by_cases hs : ∃ T', c = .self T'
  · obtain ⟨T', rfl⟩ := hs
    exact h
  · rw [RepB.eq (fun T' e => hs ⟨T', e⟩)] at h
    exact RepB.of (bare_rep (g := g) (fun β j hj => ⟨by rw [hG]; exact hj, rfl⟩) h)
theorem thr_back (h : Inv P F g s a w) {np : Nat} (hnp : F.np ≤ np) {dd : List Deferred} (hfr : Fr (F.anew P g s a w h np dd).T w w') {s1 : St} {rs : List ResultVar} (hkb : KeptB (F.anew P g s a w h np dd) s1 a') (hs1 : s1.t.length = s.t.length) (hkt : keepT np s s1 rs = true)
    {ds : List Nat} {k : Nat} {hM : Mem P (gCl g ds) w' (bCl s.b ds k)} {hL : Laid (gCl g ds) w'} (hds : ∀ d ∈ ds, ∃ cells, s.b[d]? = some (some cells)) {g2 : Gh} {s2 : St} {a2 : Act} {w2 : World} (h2 : Inv P (fxOf (gCl g ds) w' (bCl s.b ds k) ds.length hM hL) g2 s2 a2 w2) :
    Inv P F ⟨g2.G, fun _ => none, g.bx⟩ (resSt F.np rs ds s s2) { a' with defers := F.ds } w2 := by
  have hG2 : ∀ β j, g2.G β j → β < w'.heap.size → g.G β j := fun β j hj hlt => by
    rcases h2.gfr β j hj hlt with q | ⟨n, y, E, hn, hy⟩
    · exact q
    · cases hn
  have hG1 : ∀ β j, g.G β j → g2.G β j := fun β j hj => h2.g0 β j hj
  have hsize := hfr.size
  have hcb : ∀ β, BBof (gCl g ds) (bCl s.b ds k) β → ∃ d cells, d ∈ ds ∧ s.b[d]? = some (some cells) ∧ g.bx d = some β := fun β ⟨i, cs, hi, hb⟩ => by
    obtain ⟨d, cs0, q1, q2, _⟩ := bCl_get hi
    have hb : (ds[i]?).bind g.bx = some β := hb
    rw [q1] at hb
    exact ⟨d, cs0, List.mem_of_getElem? q1, q2, hb⟩
  have hbox : ∀ (d : Nat) cs, (resB F.np ds s2.b 0 s.b)[d]? = some (some cs) → (∃ (i : Nat) (cs2 cells : List AV), ds[i]? = some d ∧ s2.b[i]? = some (some cs2) ∧ s.b[d]? = some (some cells) ∧ cs = cs2.map AV.bare) ∨ (d ∉ ds ∧ ∃ (cs0 : List AV), s.b[d]? = some (some cs0) ∧ cs = deadL cs0) := fun d cs hd => by
    rw [resB_get] at hd
    obtain ⟨o, ho, hd⟩ := Option.map_eq_some_iff.1 hd
    rw [Nat.zero_add] at hd
    cases hf : fnd d 0 ds with
    | some i =>
      rw [hf] at hd
      obtain ⟨cs2, q1, rfl⟩ := Option.map_eq_some_iff.1 hd
      obtain ⟨_, q2⟩ := fnd_some ds 0 i hf
      obtain ⟨cells, q3⟩ := hds d (List.mem_of_getElem? q2)
      exact .inl ⟨i, cs2, cells, q2, getD_some q1, q3, rfl⟩
    | none =>
      rw [hf] at hd
      dsimp only at hd
      obtain ⟨_, hd⟩ := bif_some hd
      obtain ⟨cs0, rfl, rfl⟩ := Option.map_eq_some_iff.1 hd
      exact .inr ⟨fnd_none ds 0 hf, cs0, ho, rfl⟩
  have hold : ∀ (d : Nat) cs, (resB F.np ds s2.b 0 s.b)[d]? = some (some cs) → ∃ cells, s.b[d]? = some (some cells) := fun d cs hd => by
    rcases hbox d cs hd with ⟨_, _, cells, _, _, q, _⟩ | ⟨_, cs0, q, _⟩
    · exact ⟨cells, q⟩
    · exact ⟨cs0, q⟩
  refine ⟨⟨h2.mem.gsz, fun d cs hd => ?_, fun d d' β cs cs' hd hd' hβ hβ' => ?_, fun n v E hn => (by cases hn), fun n m v v' E E' β hn => (by cases hn), fun n v E β d cs hn => (by cases hn), fun d cs β hd hβ => ?_⟩, ?_, ?_, fun i x hi => ?_, rfl, ?_, fun β j hj => hG1 β j (h.g0 β j hj), fun β j hj hlt => ?_, fun n v E β hn => (by cases hn), fun d cs β hd hβ => ?_, fun i hi hn => h.pbx i hi hn⟩
  · rcases hbox d cs hd with ⟨i, cs2, cells, q1, q2, q3, rfl⟩ | ⟨q1, cs0, q2, rfl⟩
    · obtain ⟨β, us, T, e1, e2, e3, e4, e5⟩ := h2.mem.box i cs2 q2
      have hlt := (List.getElem?_eq_some_iff.1 q1).1
      obtain ⟨β0, _, _, f1, _⟩ := h.mem.box d cells q3
      have hgb : (gCl g ds).bx i = g.bx d := by show (ds[i]?).bind g.bx = _; rw [q1]; rfl
      have hb2 : g2.bx i = g.bx d := (h2.pbx i hlt (by show (gCl g ds).bx i ≠ none; rw [hgb, f1]; simp)).trans hgb
      refine ⟨β, us, T, hb2.symm.trans e1, e2, by simpa using e3, e4, fun j c hc => ?_⟩
      rw [List.getElem?_map] at hc
      obtain ⟨c0, hc0, rfl⟩ := Option.map_eq_some_iff.1 hc
      obtain ⟨u, hu, hr⟩ := e5 j c0 hc0
      exact ⟨u, hu, bare_repB (g := g2) (g' := ⟨g2.G, fun _ => none, g.bx⟩) rfl hr⟩
    · obtain ⟨β, _, _, f1, _⟩ := h.mem.box d cs0 q2
      obtain ⟨us, U, e1, e2, e3, e4⟩ := dead_box h.mem hfr q2 f1
      have hlt := (Array.getElem?_eq_some_iff.1 e1).1
      refine ⟨β, us, U, f1, (h2.fr.same hlt fun j t => ?_).trans e1, by simpa [deadL] using e2, fun j hj => e3 j (hG2 β j hj hlt), fun j c hc => e4 _ _ j c hc⟩
      rcases t with t | ⟨⟨n, y, E, hn, hy⟩, _⟩
      · obtain ⟨d', cells, r1, r2, r3⟩ := hcb β t
        have := h.mem.apart d d' β _ _ q2 r2 f1 r3
        subst this
        exact q1 r1
      · cases hn
  · obtain ⟨c1, q1⟩ := hold d cs hd
    obtain ⟨c2, q2⟩ := hold d' cs' hd'
    exact h.mem.apart d d' β _ _ q1 q2 hβ hβ'
  · obtain ⟨c1, q1⟩ := hold d cs hd
    exact ((h.mem.ty d c1 β q1 hβ).mono hfr).mono h2.fr
  · show (resB F.np ds s2.b 0 s.b).length = (resT rs 0 s.t).length
    rw [resB_len, resT_len, h.blen]
  · show a'.tmps.size = (resT rs 0 s.t).length
    rw [resT_len, hkb.1, hs1]
  · have hi' : (resT rs 0 s.t)[i]? = some x := hi
    rw [resT_get] at hi'
    obtain ⟨x0, hx0, hx⟩ := Option.map_eq_some_iff.1 hi'
    rw [Nat.zero_add] at hx
    cases hr : isRes rs i <;> rw [hr] at hx
    · cases hx
      have hlt : i < a'.tmps.size := by rw [hkb.1, hs1]; exact (List.getElem?_eq_some_iff.1 hx0).1
      exact ⟨_, Array.getElem?_eq_getElem hlt, trivial⟩
    · have hx : x0 = x := hx
      subst hx
      obtain ⟨d, off, r1, r2, r3⟩ := keepT_spec rs i hkt hr
      have hxe : x0 = .box d off := by
        have : s.get i = x0 := by unfold St.get; rw [List.getD_eq_getElem?_getD, hx0]; rfl
        rw [← this, r1]
      subst hxe
      obtain ⟨v, hv, hv2⟩ := h.tm i _ hx0
      obtain ⟨β, hβ, _⟩ := (show RepC P g w (.box d off) v from hv2)
      obtain ⟨β', t1, t2⟩ := hkb.2 i d off (St.get_lt r2 (by simp)) r3 (by show g.bx d ≠ none; rw [hβ]; simp)
      exact ⟨_, t2, β', t1, rfl⟩
  · refine (h.fr.trans hfr (fun _ _ _ t => t) (fun β j hlt t => ?_)).trans h2.fr (fun _ _ _ t => t) (fun β j hlt t => ?_)
    · rcases t with ⟨d, cs, hd, hb⟩ | ⟨⟨n, y, E, hn, hy⟩, hg⟩
      · rcases h.bb d cs β hd hb with q | q
        · omega
        · exact .inl q
      · rcases h.tb n y E β hn hy with q | q
        · omega
        · exact .inr ⟨q, fun hF => hg (h.g0 β j hF)⟩
    · rcases t with t | ⟨⟨n, y, E, hn, hy⟩, _⟩
      · obtain ⟨d, cells, r1, r2, r3⟩ := hcb β t
        rcases h.bb d cells β r2 r3 with q | q
        · omega
        · exact .inl q
      · cases hn
  · have hs := h.fr.size
    exact h.gfr β j (hG2 β j hj (by omega)) hlt
  · obtain ⟨c1, q1⟩ := hold d cs hd
    exact h.bb d c1 β q1 hβ
theorem topB_le : ∀ (rs : List ResultVar) (m : Nat), m ≤ topB s rs m
  | [], m => Nat.le_refl _
  | .tmp _ :: rs, m => topB_le rs m
  | .cell t _ :: rs, m => by
    unfold topB
    refine Nat.le_trans ?_ (topB_le rs _)
    split
    · rename_i d _ _
      cases hm : Nat.ble m d
      · exact Nat.le_refl _
      · have := Nat.le_of_ble_eq_true hm
        show m ≤ d + 1
        omega
    · exact Nat.le_refl _
theorem evS_sound (hmix : P.follows .mixedOrders = true) (hcall : SoundCall P call) {ret n : Nat} {fn : Func} {R : Ending → World → Prop} {β : Type} {fin : St → Option β} {o : β} (hF : F.ds = [])
    (post : ∀ g' s' a' w', fin s' = some o → Inv P F g' s' a' w' → ∃ v, (results fn a'.tmps).run P w' = .ok v w' ∧ R (.returned v) w') :
    ∀ (c : Code), okS P c = true → ∀ (s : St) (g : Gh) (a : Act) (w : World), evS P takes call F.np ret n fn.results.toList fin c s = some o → Inv P F g s a w → c.wp P (bodyPostD P fn R) a w
  | .seq x y, hok, s, g, a, w, h, hI => by
    have leave : ∀ g' s' a' w', fin s' = some o → Inv P F g' s' a' w' → Leaves P fn a'.tmps R a'.defers .returning w' := fun g' s' a' w' e hI' => by
      rw [hI'.dfr, hF]
      exact post g' s' a' w' e hI'
    unfold evS at h
    simp only [okS] at hok
    cases hd : deferOf x with
    | none =>
      rw [hd] at h hok
      simp only [Bool.and_eq_true] at hok
      refine wp_seq (evC_sound hmix hcall (takes := takes) _ x _ _ hok.1 s _ o g a w _ h hI (fun e g' s' a' w' he hI' => ?_) (fun s' v a' w' e hd hf hkb => by cases e))
      cases e with
      | normal => exact evS_sound hmix hcall hF post y hok.2 _ g' a' w' he (prune_rep hI')
      | ret => exact leave g' s' a' w' he hI'
      | exit id => cases he
    | some tr =>
      obtain ⟨t, hid, cs⟩ := tr
      rw [hd] at h hok
      dsimp only at h hok
      rw [Bool.and_eq_true] at hok
      have hb' := bif_some h
      clear h
      obtain ⟨hclo, h⟩ := hb'
      have hb2 := Option.bind_eq_some_iff.1 h
      clear h
      obtain ⟨ds, hds, h⟩ := hb2
      rw [Bool.and_eq_true] at hclo
      have tlt : t < a.tmps.size := by rw [hI.len]; exact Nat.le_of_ble_eq_true hclo.1
      obtain ⟨id, caps, ty1, ty2, p1, p2, af1, af2, Ts, rfl, rfl⟩ := deferOf_eq hd
      refine wp_seq (wp_region_list ?_)
      have e1 : (execOp a.eval ⟨some t, .makeFunc (.func hid) #[] caps, ty1, p1, af1, none⟩).run P w = .ok (.value (.func (.func hid) #[] (caps.map a.eval))) w := by
        simp [execOp, Instr.makeFunc]
      let d : Deferred := { target := .fn (.func hid) (caps.map a.eval), args := #[] }
      have e2 : (execOp ((a.put (some t) (.func (.func hid) #[] (caps.map a.eval))).eval) ⟨none, .defer { callee := .value (.tmp t), args := #[], argTypes := Ts }, ty2, p2, af2, none⟩).run P w = .ok (.defer d) w := by
        have ht : (a.put (some t) (.func (.func hid) #[] (caps.map a.eval))).eval (.tmp t) = .func (.func hid) #[] (caps.map a.eval) := by
          have hlt : t < a.tmps.size := tlt
          simp [Act.put, Act.eval, hlt]
        simp [execOp, resolve, Deferred.ofValue, ht, d]
      have hw : ∀ (o : Oper) y, o.guard = none → Region.wanted o y = true := fun o y ho => by unfold Region.wanted; rw [ho]
      simp only [wpList]
      rw [if_pos (hw _ _ rfl)]
      refine .inl ?_
      unfold Oper.wp
      rw [e1, Oper.upon_value, if_pos (hw _ _ rfl)]
      refine .inl ?_
      rw [e2, Oper.upon_defer]
      have h1 : Inv P F g (s.put (some t) .dead) (a.put (some t) (.func (.func hid) #[] (caps.map a.eval))) w := hI.put (some t) (x := .dead) trivial
      have h2 := h1.anew (topB s fn.results.toList F.np) [d]
      have hnp := topB_le (s := s) fn.results.toList F.np
      have ha : ({ (a.put (some t) (.func (.func hid) #[] (caps.map a.eval))) with defers := d :: (a.put (some t) (.func (.func hid) #[] (caps.map a.eval))).defers } : Act).put none undef = { (a.put (some t) (.func (.func hid) #[] (caps.map a.eval))) with defers := [d] } := by
        have : (a.put (some t) (.func (.func hid) #[] (caps.map a.eval))).defers = [] := h1.dfr.trans hF
        rw [this]; rfl
      show Code.wp P y _ _ w
      rw [ha]
      refine evC_sound (F := F.anew P _ _ _ _ h1 (topB s fn.results.toList F.np) [d]) hmix hcall (takes := takes) _ y _ _ hok.1 _ _ o g _ w _ h h2 (fun e g' s' a' w' he hI' => ?_) (fun s' v a' w' e hdf hf hkb => ?_)
      rotate_left
      · obtain ⟨hk, e⟩ := bif_some e
        rw [Bool.and_eq_true] at hk
        obtain ⟨c1, c2, c3⟩ := capD_spec hI _ _ hds
        have hM : ∀ k, Mem P (gCl g ds) w' (bCl s.b ds k) := fun k => thr_mem h1.mem hf c2 k
        have hL : Laid (gCl g ds) w' := ⟨fun β hβ j => h1.laid.G β hβ j, (F.anew P _ _ _ _ h1 (topB s fn.results.toList F.np) [d]).lp.keep fun β hβ => hf.same (Nat.lt_of_lt_of_le hβ (F.anew P _ _ _ _ h1 (topB s fn.results.toList F.np) [d]).lp.size) fun j t => t.elim ((F.anew P _ _ _ _ h1 (topB s fn.results.toList F.np) [d]).lg β hβ).2 fun q => q.2 (((F.anew P _ _ _ _ h1 (topB s fn.results.toList F.np) [d]).lg β hβ).1 j)⟩
        show Leaves P fn a'.tmps R a'.defers _ w'
        rw [hdf]
        refine leaves_cons (f := hid) (args := #[] ++ caps.map a.eval) (by intro e; cases e) ?_ ((clo_thr hmix hcall (takes := takes) e hok.2 hL hM (by simpa using c1.symm) (fun i dd hi => ?_)).mono fun e' u' w2 hr => ?_)
        · obtain ⟨fh, hfh, hbh, hnh⟩ := clo_fn hclo.2
          have hb : ¬ fh.body = none := by intro e; rw [e] at hbh; cases hbh
          have hn : ¬ fh.name = "runtime.NumGoroutine" := by simpa using hnh
          simp [invoke, callFunc, hfh, hn, hb]
        · obtain ⟨β, cells, q1, q2, q3⟩ := c3 i dd hi
          refine ⟨β, q1, ?_⟩
          rw [← q3]
          simp [List.getElem?_map]
        · obtain ⟨rfl, ⟨x, rfl⟩, k, g2, s2, a2, hfin, hI2⟩ := hr
          exact post _ _ { a' with defers := F.ds } w2 hfin (thr_back h1 hnp hf hkb (by simpa [St.put] using Nat.eq_of_beq_eq_true hk.1) hk.2 (fun dd hdd => by
            obtain ⟨i, hi⟩ := List.getElem?_of_mem hdd
            obtain ⟨β, cells, q1, q2, q3⟩ := c3 i dd hi
            exact ⟨cells, q2⟩) hI2)
      have fin' : fin s' = some o → Leaves P fn a'.tmps R a'.defers .returning w' := fun e => by
        rw [hI'.dfr]
        have hret := clo_ret hmix hcall (args := #[] ++ caps.map a.eval) (by simpa using hclo.2) hok.2 (h1.back hnp hI')
        refine leaves_cons (f := hid) (args := #[] ++ caps.map a.eval) (by intro e; cases e) ?_ (hret.mono fun e' u' w'' hr => ?_)
        · obtain ⟨fh, hfh, hbh, hnh⟩ := clo_fn hclo.2
          have hb : ¬ fh.body = none := by intro e; rw [e] at hbh; cases hbh
          have hn : ¬ fh.name = "runtime.NumGoroutine" := by simpa using hnh
          simp [invoke, callFunc, hfh, hn, hb]
        · obtain ⟨rfl, ⟨v, rfl⟩, hfr⟩ := hr
          exact post g' s' { a' with defers := F.ds } w'' e ((h1.back hnp hI').still hfr)
      cases e with
      | normal => exact fin' he
      | ret => exact fin' he
      | exit id => cases he
  | .skip, hok, s, g, a, w, h, hI => by cases h
  | .region .., hok, s, g, a, w, h, hI => by cases h
  | .cond .., hok, s, g, a, w, h, hI => by cases h
  | .block .., hok, s, g, a, w, h, hI => by cases h
  | .loop .., hok, s, g, a, w, h, hI => by cases h
  | .exit .., hok, s, g, a, w, h, hI => by cases h
  | .ret, hok, s, g, a, w, h, hI => by cases h
  | .rangeFunc .., hok, s, g, a, w, h, hI => by cases h
  | .scope .., hok, s, g, a, w, h, hI => by cases h
  | .label .., hok, s, g, a, w, h, hI => by cases h
  | .goto .., hok, s, g, a, w, h, hI => by cases h
  | .refuse .., hok, s, g, a, w, h, hI => by cases h
theorem sound_fnD (hmix : P.follows .mixedOrders = true) (hext : SoundCall P call) {f : FuncId} {fn : Func} (hf : P.funcs[f]? = some fn) (hok : okFnD P fn = true) {n : Nat} {xs : List AV} {bs : Bx} {out : Out} (h : evFnD P takes call n f xs bs = some out) :
    (∃ fn, P.funcs[f]? = some fn ∧ fn.body.isSome = true ∧ (fn.name == "runtime.NumGoroutine") = false) ∧ ∀ (g : Gh) (w : World) (vs : Array Value), Mem P g w bs → Laid g w → bs.length = xs.length → vs.size = xs.length →
  (∀ (i : Nat) x, xs[i]? = some x → ∃ v, vs[i]? = some v ∧ RepS P g w x v) → Calls P f vs w (PostOf P g w bs out) := by
  unfold evFnD at h
  rw [hf] at h
  dsimp only at h
  unfold okFnD at hok
  simp only [Bool.and_eq_true, Bool.not_eq_true'] at hok
  cases hb : fn.body with
  | none => rw [hb] at h; cases h
  | some c =>
    rw [hb] at h hok
    dsimp only at h hok
    obtain ⟨hchk, h⟩ := bif_some h
    simp only [Bool.and_eq_true] at hchk
    have hbl : bs.length = fn.params.size := Nat.eq_of_beq_eq_true hchk.1.2
    refine ⟨⟨fn, hf, by rw [hb]; rfl, hok.1⟩, fun g w vs hm hL hl hv hr => ?_⟩
    exact calls_of_wp_defers hf hb (evS_sound (F := fxOf g w bs fn.params.size hm hL) hmix hext (takes := takes) rfl (fun g' s' a' w' e hI' => by
      obtain ⟨x, v, bs', g2, rfl, hrun, post⟩ := outOf_sound hm hL hI' hbl e
      exact ⟨x, hrun, x, g2, rfl, post⟩) c hok.2 _ g _ w h (entry_inv hm hL hl hv hr))
theorem sound_addD {ext : CallF} (hmix : P.follows .mixedOrders = true) (hext : SoundCall P ext) (f : FuncId) {fn : Func} (hf : P.funcs[f]? = some fn) (hok : okFnD P fn = true) (ent : List AV → Bx → Option (Bool × Out))
    (h : ∀ xs bs out, ent xs bs = some (true, out) → ∃ n, evFnD P takes ext n f xs bs = some out) : SoundCall P (addF f ent ext) := fun g xs bs out ho => by
  unfold addF at ho
  cases hg : Nat.beq g f <;> rw [hg] at ho <;> simp only [cond_true, cond_false] at ho
  · exact hext g xs bs out ho
  · have e : g = f := Nat.eq_of_beq_eq_true hg
    subst e
    obtain ⟨n, hn⟩ := h xs bs out ho
    obtain ⟨h1, h2⟩ := sound_fnD hmix hext hf hok hn
    refine ⟨h1, fun gh w vs a1 aL a2 a3 a4 => ?_⟩
    exact h2 gh w vs a1 aL a2 a3 a4
theorem sound_addDF {ext : CallF} (hmix : P.follows .mixedOrders = true) (hext : SoundCall P ext) (f : FuncId) {fn : Func} (hf : P.funcs[f]? = some fn) (hok : okFnD P fn = true) (ent : List AV → Bx → Option (Bool × Out))
    (h : ∀ xs bs out, ent xs bs = some (true, out) → ∃ n o, evFnD P takes ext n f xs bs = some o ∧ o.flat = out.flat) : SoundCall P (addF f ent ext) := fun g xs bs out ho => by
  unfold addF at ho
  cases hg : Nat.beq g f <;> rw [hg] at ho <;> simp only [cond_true, cond_false] at ho
  · exact hext g xs bs out ho
  · have e : g = f := Nat.eq_of_beq_eq_true hg
    subst e
    obtain ⟨n, o, hn, hfl⟩ := h xs bs out ho
    obtain ⟨h1, h2⟩ := sound_fnD hmix hext hf hok hn
    refine ⟨h1, fun gh w vs a1 aL a2 a3 a4 => ?_⟩
    exact (h2 gh w vs a1 aL a2 a3 a4).mono fun e w' hp => hp.congr hfl
end
end Go.Proofs.YtckdgcpomkefpaaGreatDoor.En
end
section
namespace Go.Proofs
open Go.Shelf
def Tryz.laysB_ren : Go.Shelf.Ren := ⟨fun | 167 => 71 | 105 => 99 | 212 => 124 | 99 => 103 | 165 => 125 | 166 => 66 | 170 => 46 | 169 => 47 | 263 => 140 | 264 => 141 | 206 => 126 | 240 => 96 | 241 => 142 | 276 => 119 | 277 => 164 | n => n, fun | 9 => 9 | 3 => 3 | 4 => 4 | 20 => 20 | 0 => 0 | 46 => 118 | 109 => 138 | 5 => 5 | 72 => 79 | 76 => 102 | 51 => 156 | 146 => 157 | 53 => 148 | 148 => 159 | 70 => 77 | 37 => 57 | 75 => 101 | 127 => 108 | 164 => 129 | 80 => 82 | n => n, fun | n => n⟩
theorem Tryz.laysB : Go.Proofs.Lays.n167 Tryz.prog Tryz.laysB_ren := {
  mixed := by kernel_rfl
  f167 := Tryz.func71.trans (congrArg some (by kernel_rfl))
  f240 := Tryz.func96.trans (congrArg some (by kernel_rfl))
  f276 := Tryz.func119.trans (congrArg some (by kernel_rfl))
  t0 := Tryz.underlying0
  a0 := Tryz.isAgg0
  z0 := Tryz.sizeOf0
  v0 := Tryz.zeroValue0
  t4 := Tryz.underlying4
  a4 := Tryz.isAgg4
  z4 := Tryz.sizeOf4
  v4 := Tryz.zeroValue4
  t5 := Tryz.underlying5
  a5 := Tryz.isAgg5
  z5 := Tryz.sizeOf5
  v5 := Tryz.zeroValue5
  t9 := Tryz.underlying9
  a9 := Tryz.isAgg9
  z9 := Tryz.sizeOf9
  v9 := Tryz.zeroValue9
  t20 := Tryz.underlying20
  a20 := Tryz.isAgg20
  z20 := Tryz.sizeOf20
  v20 := Tryz.zeroValue20
  t37 := Tryz.underlying57
  a37 := Tryz.isAgg57
  z37 := Tryz.sizeOf57
  v37 := Tryz.zeroValue57
  t70 := Tryz.underlying77
  a70 := Tryz.isAgg77
  z70 := Tryz.sizeOf77
  v70 := Tryz.zeroValue77
  t72 := Tryz.underlying79
  a72 := Tryz.isAgg79
  z72 := Tryz.sizeOf79
  v72 := Tryz.zeroValue79
  t75 := Tryz.underlying101
  a75 := Tryz.isAgg101
  z75 := Tryz.sizeOf101
  v75 := Tryz.zeroValue101
  t164 := Tryz.underlying129
  a164 := Tryz.isAgg129
  z164 := Tryz.sizeOf129
  v164 := Tryz.zeroValue129 }
theorem Tryz.Builder_Extra_B : Builder.Extra Tryz.prog Tryz.laysB_ren := {
  sizeBuilder := by kernel_rfl
  liesBuilder := by kernel_rfl
  t5 := Tryz.underlying5
  a5 := Tryz.isAgg5
  z5 := Tryz.sizeOf5
  v5 := Tryz.zeroValue5
  infoByte := by kernel_rfl
  cellsByte := by kernel_rfl
  sizeByte := by kernel_rfl
  neB5 := by decide }
end Go.Proofs
end
section
set_option linter.unusedVariables false
set_option linter.unusedSimpArgs false
namespace Go.Proofs.YtckdgcpomkefpaaGreatDoor.En
open Go Go.Shelf Go.RowKit
section
variable {P : Program} {ext call : CallF} {g g' : Gh} {w w' : World} {b bs : Bx}
theorem sound_ext (hext : SoundCall P ext) (f : FuncId) {fn : Func} (hf : P.funcs[f]? = some fn) (hok : (fn.body.isSome && !(fn.name == "runtime.NumGoroutine")) = true) (ent : List AV → Bx → Option (Bool × Out))
    (h : ∀ xs bs out, ent xs bs = some (true, out) → ∀ (g : Gh) (w : World) (vs : Array Value), Mem P g w bs → Laid g w → bs.length = xs.length → vs.size = xs.length →
      (∀ (i : Nat) x, xs[i]? = some x → ∃ v, vs[i]? = some v ∧ RepS P g w x v) → Calls P f vs w (PostOf P g w bs out)) : SoundCall P (addF f ent ext) := fun k xs bs out ho => by
  unfold addF at ho
  cases hg : Nat.beq k f <;> rw [hg] at ho <;> simp only [cond_true, cond_false] at ho
  · exact hext k xs bs out ho
  · have e : k = f := Nat.eq_of_beq_eq_true hg
    subst e
    rw [Bool.and_eq_true, Bool.not_eq_true'] at hok
    refine ⟨⟨fn, hf, hok.1, hok.2⟩, fun gh w vs a1 aL a2 a3 a4 => ?_⟩
    have := h xs bs out ho gh w vs a1 aL a2 a3 a4
    cases out <;> exact this
theorem args_v (l : List Value) {vs : Array Value} (hv : vs.size = (l.map AV.v).length) (hr : ∀ (i : Nat) x, (l.map AV.v)[i]? = some x → ∃ v, vs[i]? = some v ∧ RepS P g w x v) : vs = l.toArray := by
  apply Array.ext_getElem?
  intro i
  cases hi : l[i]? with
  | none =>
    have : l.length ≤ i := List.getElem?_eq_none_iff.1 hi
    rw [Array.getElem?_eq_none (by simp at hv; omega), Array.getElem?_eq_none (by simpa using this)]
  | some x =>
    obtain ⟨v, h1, h2⟩ := hr i (.v x) (by rw [List.getElem?_map, hi]; rfl)
    obtain ⟨rfl, _⟩ := (show v = x ∧ _ from h2)
    rw [h1]; simp [hi]
theorem Mem.still (h : Mem P g w b) (hw : Fr (fun _ _ => False) w w') : Mem P g w' b := by
  have hle : g.Le g w w' := ⟨fun β j hj => ⟨hj, hw.cell (h.gsz β j hj) fun t => t⟩, fun n v hv => hv, fun d β hd => hd⟩
  have same : ∀ β, β < w.heap.size → w'.heap[β]? = w.heap[β]? := fun β hβ => hw.same hβ fun _ t => t
  refine ⟨fun β j hj => Nat.lt_of_lt_of_le (h.gsz β j hj) hw.size, fun d cs hd => ?_, h.apart, fun n v E hn => ?_, h.tkap, h.tkbx, fun d cs β hd hβ => (h.ty d cs β hd hβ).mono hw⟩
  · obtain ⟨β, us, T, e1, e2, e3, e4, e5⟩ := h.box d cs hd
    have hlt := (Array.getElem?_eq_some_iff.1 e2).1
    exact ⟨β, us, T, e1, (same β hlt).trans e2, e3, e4, fun j c hc => let ⟨u, hu, hr⟩ := e5 j c hc; ⟨u, hu, hr.mono hle⟩⟩
  · exact (h.own n v E hn).keep fun β hβ => ⟨same β ((h.own n v E hn).lt hβ), fun j hj => hj⟩
theorem post_v (hm : Mem P g w bs) (hb : ∀ x ∈ bs, x = none) {x : Value} (hx : x.oneCell' = true) (hw : Fr (fun _ _ => False) w w') : PostOf P g w bs (.ret (.v x) bs) (.returned x) w' := by
  have hn : ∀ (d : Nat) cs, bs[d]? = some (some cs) → False := fun d cs h => by have := hb _ (List.mem_of_getElem? h); cases this
  exact ⟨x, g, rfl, hm.still hw, rfl, fun i cs h => ⟨cs, h⟩, ⟨rfl, hx⟩, hw.mono fun _ _ _ t => t.elim, fun _ _ h => h, fun β j h _ => .inl h, fun n y E β h1 h2 => .inr ⟨n, y, E, h1, h2⟩, fun i cs h => rfl, fun i j m cs E l h => (hn i cs h).elim, trivial, trivial⟩
end
def ixE : List AV → Bx → Option (Bool × Out)
  | [.v (.string s), .v (.int .u8 c)], [none, none] => some (true, .ret (I (Lib.indexByte s.data.toList c.toNat.toUInt8)) [none, none])
  | _, _ => none
theorem ix_sound {ext : CallF} (hext : SoundCall PR ext) : SoundCall PR (addF 95 ixE ext) := by
  refine sound_ext hext _ (fn := (PR.funcs[95]?).getD default) (by kernel_rfl) (by kernel_rfl) ixE fun xs bs out h g w vs hm hL hl hv hr => ?_
  unfold ixE at h
  split at h
  · rename_i s c
    cases h
    obtain rfl := args_v (P := PR) [.string s, .int .u8 c] hv hr
    refine (Tryz.strings_IndexByte s c w).mono fun e w' he => ?_
    obtain ⟨rfl, rfl⟩ := he
    exact post_v hm (by simp) rfl (Fr.refl _ _)
  · cases h
def digF : Nat → Nat → List UInt8
  | 0, _ => []
  | k + 1, u => bif Nat.blt u 10 then [UInt8.ofNat (48 + u)] else digF k (u / 10) ++ [UInt8.ofNat (48 + u % 10)]
theorem digF_eq : ∀ (k u : Nat), u < 10 ^ (k + 1) → digF (k + 1) u = Lib.decDigits u
  | k, u, h => by
    rw [Lib.decDigits]
    unfold digF
    cases hb : Nat.blt u 10
    · have : ¬ u < 10 := fun e => by have : Nat.blt u 10 = true := Nat.ble_eq_true_of_le e; rw [hb] at this; cases this
      rw [dif_neg this]
      cases k with
      | zero => omega
      | succ k => rw [← digF_eq k (u / 10) (by rw [Nat.pow_succ] at h; omega)]; rfl
    · have : u < 10 := Nat.le_of_ble_eq_true hb
      rw [dif_pos this]; rfl
def itoaF (n : Int) : List UInt8 := bif decide (n < 0) then 45 :: digF 20 n.natAbs else digF 20 n.toNat
def itoaE : List AV → Bx → Option (Bool × Out)
  | [.v (.int .i64 n)], [none] => some (decide (-9223372036854775808 ≤ n) && decide (n ≤ 9223372036854775807), .ret (S ⟨(itoaF n).toArray⟩) [none])
  | _, _ => none
theorem itoaF_eq {n : Int} (h0 : -9223372036854775808 ≤ n) (h1 : n ≤ 9223372036854775807) : itoaF n = Lib.itoa n := by
  unfold itoaF Lib.itoa
  by_cases h : n < 0
  · rw [if_pos h, decide_eq_true h, digF_eq 19 n.natAbs (by omega)]; rfl
  · rw [if_neg h, decide_eq_false h, digF_eq 19 n.toNat (by omega)]; rfl
theorem itoa_sound {ext : CallF} (hext : SoundCall PR ext) : SoundCall PR (addF 58 itoaE ext) := by
  refine sound_ext hext _ (fn := (PR.funcs[58]?).getD default) (by kernel_rfl) (by kernel_rfl) itoaE fun xs bs out h g w vs hm hL hl hv hr => ?_
  unfold itoaE at h
  split at h
  · rename_i n
    injection h with h
    injection h with hc h
    subst h
    rw [Bool.and_eq_true, decide_eq_true_eq, decide_eq_true_eq] at hc
    obtain rfl := args_v (P := PR) [.int .i64 n] hv hr
    rw [itoaF_eq hc.1 hc.2]
    refine (Tryz.strconv_Itoa n hc.1 hc.2 w hL.P.pow).mono fun e w' he => ?_
    obtain ⟨rfl, k, os, rfl⟩ := he
    refine post_v hm (by simp) rfl (Fr.of_below (B := w.heap.size) ⟨rfl, rfl, rfl, by show w.heap.size ≤ (w.heap ++ os).size; simp, fun i hi => ?_⟩ (Nat.le_refl _))
    show (w.heap ++ os)[i]? = w.heap[i]?
    rw [Array.getElem?_append_left hi]
  · cases h
def tokOk : Option Nat → Bool | none => true | some m => Nat.beq m (sub 0 1)
theorem tokOk_eq {t : Option Nat} (h : tokOk t = true) {m : Nat} (e : t = some m) : m = sub 0 1 := by
  subst e
  exact Nat.eq_of_beq_eq_true h
def ccE : List AV → Bx → Option (Bool × Out)
  | [.box 0 0], [some [.self T, .row t E l]] => bif Nat.beq T 79 && tokOk t then some (true, .ret (.tup []) [some [.self T, .row t E l]]) else none
  | _, _ => none
theorem one_box {P : Program} {g : Gh} {w : World} {cs : List AV} (hm : Mem P g w [some cs]) {vs : Array Value} (hv : vs.size = 1) (hr : ∀ (i : Nat) x, [AV.box 0 0][i]? = some x → ∃ v, vs[i]? = some v ∧ RepS P g w x v) :
    ∃ (β : Nat) (us : Array Value) (T : TypeId), g.bx 0 = some β ∧ vs = #[.pointer (some ⟨β, 0, none⟩)] ∧ w.heap[β]? = some (.cells us T (0, 0)) ∧ us.size = cs.length ∧ (∀ j, ¬ g.G β j) ∧ ∀ (j : Nat) c, cs[j]? = some c → ∃ u, us[j]? = some u ∧ RepB P g w T β j c u := by
  obtain ⟨β, us, T, e1, e2, e3, e4, e5⟩ := hm.box 0 cs rfl
  refine ⟨β, us, T, e1, ?_, e2, e3, e4, e5⟩
  obtain ⟨v, h1, h2⟩ := hr 0 _ rfl
  obtain ⟨β', h3, rfl⟩ := (show ∃ β, g.bx 0 = some β ∧ v = .pointer (some ⟨β, 0, none⟩) from h2)
  rw [e1] at h3
  cases h3
  apply Array.ext_getElem?
  intro i
  match i with
  | 0 => exact h1
  | i + 1 => rw [Array.getElem?_eq_none (by omega), Array.getElem?_eq_none (by simp)]
theorem cc_sound {ext : CallF} (hext : SoundCall PR ext) : SoundCall PR (addF 96 ccE ext) := by
  refine sound_ext hext _ (fn := (PR.funcs[96]?).getD default) (by kernel_rfl) (by kernel_rfl) ccE fun xs bs out h g w vs hm hL hl hv hr => ?_
  unfold ccE at h
  split at h
  · rename_i T t E l
    obtain ⟨hc, h⟩ := bif_some h
    cases h
    rw [Bool.and_eq_true] at hc
    obtain ⟨β, us, T', e1, rfl, e2, e3, e4, e5⟩ := one_box hm hv hr
    obtain ⟨u0, hu0, hT, hs⟩ := e5 0 _ rfl
    obtain ⟨u1, hu1, hrow⟩ := e5 1 _ rfl
    have hT' : T' = 79 := by rw [← hT]; exact Nat.eq_of_beq_eq_true hc.1
    subst hT'
    have hcell : w.cell? ⟨β, 0, none⟩ = some u0 := by simp [World.cell?, e2, hu0]
    have canon : ∀ (i j m : Nat) cs E' l', [some [AV.self T, .row t E l]][i]? = some (some cs) → cs[j]? = some (.row (some m) E' l') → m = sub i j := fun i j m cs E' l' hi hj => by
      match i, hi with
      | 0, hi =>
        cases hi
        match j, hj with
        | 0, hj => cases hj
        | 1, hj => cases hj; exact tokOk_eq hc.2 rfl
    rcases hs with rfl | rfl
    · refine (Any.Builder_copyCheck_fresh (ρ := Tryz.laysB_ren) { Tryz.laysB with } Tryz.Builder_Extra_B.toX72 β w hcell (by show w.shape? β = some (79, 2); simp [World.shape?, e2, e3]) (by simp [World.frozen?, e2])).mono fun e w' he => ?_
      obtain ⟨rfl, rfl⟩ := he
      have hβ := (Array.getElem?_eq_some_iff.1 e2).1
      have hnew : (w.setCell ⟨β, 0, none⟩ (.pointer (some ⟨β, 0, none⟩))).heap[β]? = some (.cells (us.setIfInBounds 0 (.pointer (some ⟨β, 0, none⟩))) 79 (0, 0)) := by
        simp [World.setCell, Array.getElem?_modify, e2]
      have hold : ∀ k, k ≠ β → (w.setCell ⟨β, 0, none⟩ (.pointer (some ⟨β, 0, none⟩))).heap[k]? = w.heap[k]? := fun k hk => by
        simp only [World.setCell, Array.getElem?_modify]
        rw [if_neg (fun e => hk e.symm)]
      have hle : g.Le g w (w.setCell ⟨β, 0, none⟩ (.pointer (some ⟨β, 0, none⟩))) := ⟨fun k j hj => ⟨hj, World.cell?_of_block (a := ⟨k, j, none⟩) (hold k fun e => e4 j (e ▸ hj))⟩, fun n v hv => hv, fun d k hd => hd⟩
      refine ⟨_, g, rfl, ⟨fun k j hj => ?_, fun d cs hd => ?_, hm.apart, fun n v E' hn => ?_, hm.tkap, hm.tkbx, fun d cs k hd hk => ?_⟩, rfl, fun i cs h => ⟨cs, h⟩, ?_, ⟨rfl, rfl, rfl, ?_, fun k o ho => ?_⟩, fun _ _ h => h, fun k j h _ => .inl h, fun n y E' k h1 h2 => .inr ⟨n, y, E', h1, h2⟩, fun i cs h => rfl, canon, ?_, fun j m E l h => by simp at h⟩
      · have := hm.gsz k j hj; simpa [World.setCell] using this
      · match d, hd with
        | 0, hd =>
          cases hd
          refine ⟨β, _, _, e1, hnew, by simpa using e3, e4, fun j c hj => ?_⟩
          match j, hj with
          | 0, hj => cases hj; exact ⟨.pointer (some ⟨β, 0, none⟩), by simp [Array.getElem?_setIfInBounds, e3], hT, .inr rfl⟩
          | 1, hj => cases hj; exact ⟨u1, by simpa [Array.getElem?_setIfInBounds] using hu1, hrow.mono hle⟩
      · exact (hm.own n v E' hn).keep fun k hk => ⟨hold k fun e => hm.tkbx n v E' k 0 _ hn hk rfl (e ▸ e1), fun j hj => hj⟩
      · match d, hd with
        | 0, hd =>
          have hk : g.bx 0 = some k := hk
          rw [e1] at hk
          cases hk
          exact ⟨_, _, _, hnew, by decide⟩
      · exact ⟨#[], rfl, rfl, fun j x hj => by simp at hj⟩
      · simp [World.setCell]
      · by_cases hk : k = β
        · subst hk
          rw [e2] at ho
          cases ho
          exact .inr ⟨us, _, (0, 0), _, (0, 0), rfl, hnew, by simp, fun j hj => absurd (.inl ⟨0, _, rfl, e1⟩) hj, .inl rfl, fun j u hu => by
            rw [Array.getElem?_setIfInBounds] at hu
            split at hu
            · split at hu
              · cases hu; exact .inr rfl
              · cases hu
            · exact .inl hu⟩
        · exact .inl ((hold k hk).trans ho)
      · exact ⟨fun j d o => by simp, fun j f a b => by simp, fun j cs h => by simp at h, fun j j' m E l E' l' h => by simp at h⟩
    · refine (Any.Builder_copyCheck_used (ρ := Tryz.laysB_ren) { Tryz.laysB with } Tryz.Builder_Extra_B.toX72 β w hcell).mono fun e w' he => ?_
      obtain ⟨rfl, rfl⟩ := he
      refine ⟨_, g, rfl, hm, rfl, fun i cs h => ⟨cs, h⟩, ⟨#[], rfl, rfl, fun j x hj => by simp at hj⟩, (Fr.refl _ _), fun _ _ h => h, fun k j h _ => .inl h, fun n y E' k h1 h2 => .inr ⟨n, y, E', h1, h2⟩, fun i cs h => rfl, canon, ?_, fun j m E l h => by simp at h⟩
      exact ⟨fun j d o => by simp, fun j f a b => by simp, fun j cs h => by simp at h, fun j j' m E l E' l' h => by simp at h⟩
  · cases h
set_option maxHeartbeats 1000000 in
theorem str_walk {P : Program} {ρ : Ren} (L : Lays.n169 P ρ) (X : Builder.Extra P ρ) (b g cap : Nat) (cur : Array Value) (l : List UInt8) (h0 : l ≠ []) (w : World) (hb : w.cell? ⟨b, 1, none⟩ = some (.slice (some ⟨g, 0, none⟩) l.length cap)) (hcap : l.length ≤ cap) {fz : Nat × Nat} (hg : w.heap[g]? = some (.cells cur (ρ.t 5) fz))
    (hsz : l.length ≤ cur.size) (h63 : l.length ≤ 9223372036854775807) (hcell : ∀ (j : Nat) x, l[j]? = some x → w.cell? ⟨g, j, none⟩ = some (.int .u8 x.toNat)) :
    Calls P (ρ.f 169) #[.pointer (some ⟨b, 0, none⟩)] w fun e w' => e = .returned (.string ⟨l.toArray⟩) ∧ w' = w.drew.freeze ⟨g, 0, none⟩ l.length := by
  have hl0 : l.length ≠ 0 := by simpa using h0
  have c1 : w.drew.cell? ⟨b, 1, none⟩ = some (.slice (some ⟨g, 0, none⟩) l.length cap) := hb
  have hSD : (Builtin.unsafeSliceData_ #[(ρ.t 37)] (ρ.t 127) #[.slice (some ⟨g, 0, none⟩) l.length cap]).run P w.drew = .ok (.pointer (some ⟨g, 0, none⟩)) w.drew :=
    Lib.run_unsafeSliceData_row _ _ _ _ _ _ (by omega)
  have hUS : (Builtin.unsafeString_ #[(ρ.t 127), (ρ.t 3)] (ρ.t 9) #[.pointer (some ⟨g, 0, none⟩), .int .i64 l.length]).run P w.drew = .ok (.string ⟨l.toArray⟩) (w.drew.freeze ⟨g, 0, none⟩ l.length) := by
    refine Lib.run_unsafeString_row w.drew (ρ.t 127) (ρ.t 3) (ρ.t 9) (ρ.t 5) L.t127 X.cellsByte g cur.size (by have hg' : w.drew.heap[g]? = some (.cells cur (ρ.t 5) fz) := hg; simp [World.shape?, hg']) l h0 hsz h63 ?_
    intro j x hx
    have e : (⟨g, 0, none⟩ : Addr).add j = ⟨g, j, none⟩ := by
      by_cases hj : j = 0
      · subst hj; simp [Addr.add]
      · simp [Addr.add, hj]
    rw [e]
    exact hcell j x hx
  clear hcap hb hcell h63 hsz
  have mixed := L.mixed
  have t72 := L.t72; have a72 := L.a72; have z72 := L.z72; have v72 := L.v72; have u72 := run_underlying L.t72
  have t70 := L.t70; have a70 := L.a70; have z70 := L.z70; have v70 := L.v70; have u70 := run_underlying L.t70
  have t37 := L.t37; have a37 := L.a37; have z37 := L.z37; have v37 := L.v37; have u37 := run_underlying L.t37
  have t127 := L.t127; have a127 := L.a127; have z127 := L.z127; have v127 := L.v127; have u127 := run_underlying L.t127
  have t3 := L.t3; have a3 := L.a3; have z3 := L.z3; have v3 := L.v3; have u3 := run_underlying L.t3
  have t9 := L.t9; have a9 := L.a9; have z9 := L.z9; have v9 := L.v9; have u9 := run_underlying L.t9
  have t5 := X.t5; have a5 := X.a5; have z5 := X.z5; have v5 := X.v5; have u5 := run_underlying X.t5
  go_enter L.f169, Body.n169_ntmps ρ
  go_wp2
  go_region_o
  all_goals (go_wp2; go_ret; exact ⟨rfl, rfl⟩)
def bytesOk (l : List Dat) : Bool := l.all fun d => decide (0 ≤ (d.at 0).toI) && decide ((d.at 0).toI < 256)
def strE : List AV → Bx → Option (Bool × Out)
  | [.box 0 0], [some [.self T, .row (some m) E l]] => bif Nat.beq m (sub 0 1) && Nat.beq E 5 then some (bytesOk l && (Nat.blt 0 l.length && Nat.ble l.length 9223372036854775807), .ret (S (bytesOf l)) [some [.self T, .row none E l]]) else none
  | _, _ => none
theorem kinds_u8 : kinds PR 5 = some [.int .u8] := by kernel_rfl
theorem str_sound {ext : CallF} (hext : SoundCall PR ext) : SoundCall PR (addF 47 strE ext) := by
  refine sound_ext hext _ (fn := (PR.funcs[47]?).getD default) (by kernel_rfl) (by kernel_rfl) strE fun xs bs out h g w vs hm hL hl hv hr => ?_
  unfold strE at h
  split at h
  · rename_i T m E l
    obtain ⟨hc, h⟩ := bif_some h
    injection h with h
    injection h with hd h
    subst h
    rw [Bool.and_eq_true] at hc
    have hm1 := Nat.eq_of_beq_eq_true hc.1
    have hE := Nat.eq_of_beq_eq_true hc.2
    subst hm1 hE
    simp only [Bool.and_eq_true] at hd
    obtain ⟨hby, hpos, h63⟩ := hd
    have hpos : 0 < l.length := Nat.le_of_ble_eq_true hpos
    have h63 : l.length ≤ 9223372036854775807 := Nat.le_of_ble_eq_true h63
    obtain ⟨β, us, T', e1, rfl, e2, e3, e4, e5⟩ := one_box hm hv hr
    obtain ⟨u0, hu0, hself⟩ := e5 0 _ rfl
    obtain ⟨u1, hu1, hrow, htk⟩ := e5 1 _ rfl
    have htok := htk _ rfl
    have hcell : w.cell? ⟨β, 1, none⟩ = some u1 := by simp [World.cell?, e2, hu1]
    obtain ⟨A, cap0, hsl⟩ := hrow.slice
    rcases hm.own _ _ _ htok with hn | ⟨β2, n, cap, cur, ks, fz, hv2, hblk, hks, hncap, hcm, hcur, hfree, _⟩
    · rw [hn] at hsl
      injection hsl with _ hz _
      omega
    rw [kinds_u8] at hks
    cases hks
    have hne : β2 ≠ β := fun e => hm.tkbx _ _ _ β 0 _ htok (by rw [hv2, e]; rfl) rfl e1
    have hnl : n = l.length := by rw [hv2] at hsl; injection hsl with _ hz _
    subst hnl
    let bl : List UInt8 := l.map fun d => UInt8.ofNat (d.at 0).toI.toNat
    have hbl : bl.length = l.length := by simp [bl]
    have hcells : ∀ (j : Nat) x, bl[j]? = some x → w.cell? ⟨β2, j, none⟩ = some (.int .u8 x.toNat) := fun j x hx => by
      obtain ⟨d, hd, rfl⟩ := Option.map_eq_some_iff.1 ((List.getElem?_map ..).symm.trans hx)
      have hjl := (List.getElem?_eq_some_iff.1 hd).1
      rw [hv2] at hrow
      cases hrow with
      | nil => simp at hjl
      | mk _ _ _ off cap' ks vals hk hlen hcc hss hrr =>
        rw [kinds_u8] at hk
        cases hk
        obtain ⟨c1, c2, c3⟩ := hcc j 0 hjl (by simp)
        have hsc := hss j 0 d (.int .u8) hd rfl
        have : vals j 0 = .int .u8 (d.at 0).toI := hsc
        rw [this] at c2
        have hb := List.all_eq_true.1 hby d (List.mem_of_getElem? hd)
        rw [Bool.and_eq_true, decide_eq_true_eq, decide_eq_true_eq] at hb
        have e : ((UInt8.ofNat (d.at 0).toI.toNat).toNat : Int) = (d.at 0).toI := by
          rw [UInt8.toNat_ofNat_of_lt' (by show (d.at 0).toI.toNat < 256; omega)]
          omega
        rw [e]
        simpa using c2
    have hw := str_walk Tryz.lays169 Tryz.Builder_Extra_169 β β2 cap cur bl (by intro e; rw [e] at hbl; simp at hbl; omega) w (by rw [hcell, hv2, hbl]) (by omega) hblk (by rw [hbl]; simp at hcur; omega) (by omega) hcells
    refine hw.mono fun e w' he => ?_
    obtain ⟨rfl, rfl⟩ := he
    have hheap : ∀ k, (w.drew.freeze ⟨β2, 0, none⟩ bl.length).heap[k]? = if k = β2 then some (.cells cur 5 (if fz.1 == fz.2 then (0, 0 + bl.length) else (min fz.1 0, max fz.2 (0 + bl.length)))) else w.heap[k]? := fun k => by
      have hz : bl.length ≠ 0 := by omega
      unfold World.freeze
      rw [if_neg hz]
      show (w.heap.modify β2 _)[k]? = _
      rw [Array.getElem?_modify]
      by_cases hk : k = β2
      · subst hk
        rw [if_pos rfl, if_pos rfl, hblk]; rfl
      · rw [if_neg (fun e => hk e.symm), if_neg hk]
    have hcl : ∀ k j, (w.drew.freeze ⟨β2, 0, none⟩ bl.length).cell? ⟨k, j, none⟩ = w.cell? ⟨k, j, none⟩ := fun k j => by
      unfold World.cell?
      rw [hheap]
      by_cases hk : k = β2
      · subst hk; rw [if_pos rfl, hblk]
      · rw [if_neg hk]
    have hle : (⟨g.G, fun _ => none, g.bx⟩ : Gh).G = g.G := rfl
    have hsize : (w.drew.freeze ⟨β2, 0, none⟩ bl.length).heap.size = w.heap.size := by
      unfold World.freeze
      split
      · rfl
      · show (w.heap.modify β2 _).size = w.heap.size
        simp
    have hhe : ∀ k, k ≠ β2 → (w.drew.freeze ⟨β2, 0, none⟩ bl.length).heap[k]? = w.heap[k]? := fun k hk => by rw [hheap, if_neg hk]
    refine ⟨_, ⟨g.G, fun _ => none, g.bx⟩, rfl, ⟨fun k j hj => ?_, fun d cs hd => ?_, fun d d' k cs cs' h h' => ?_, fun n v E' hn => (by cases hn), fun n m v v' E E' k h => (by cases h), fun n v E k d cs h => (by cases h), fun d cs k hd hk => ?_⟩, rfl, fun i cs h => ?_, ⟨?_, rfl⟩, ⟨?_, ?_, ?_, ?_, fun k o ho => ?_⟩, fun _ _ h => h, fun k j h _ => .inl h, fun n y E' k h1 h2 => (by cases h1), fun i cs h => rfl, fun i j m cs E' l' hi hj => ?_, trivial, trivial⟩
    · rw [hsize]; exact hm.gsz k j hj
    · match d, hd with
      | 0, hd =>
        cases hd
        refine ⟨β, us, T', e1, (hhe β (Ne.symm hne)).trans e2, e3, e4, fun j c hj => ?_⟩
        match j, hj with
        | 0, hj => cases hj; exact ⟨u0, hu0, hself⟩
        | 1, hj => cases hj; exact ⟨u1, hu1, hrow.mono fun k j hj => ⟨hj, hcl k j⟩, fun n hn => by cases hn⟩
    · match d, d', h, h' with
      | 0, 0, h, h' => intro _ _; rfl
    · match d, hd with
      | 0, hd =>
        have hk : g.bx 0 = some k := hk
        have hk2 := hk
        rw [e1] at hk2
        cases hk2
        exact (hm.ty 0 _ _ rfl hk).same (hhe _ (Ne.symm hne))
    · match i, h with
      | 0, h => exact ⟨_, rfl⟩
    · show Value.string ⟨bl.toArray⟩ = Value.string (bytesOf l)
      rfl
    · unfold World.freeze; split <;> rfl
    · unfold World.freeze; split <;> rfl
    · unfold World.freeze; split <;> rfl
    · rw [hsize]; exact Nat.le_refl _
    · by_cases hk : k = β2
      · subst hk
        rw [hblk] at ho
        cases ho
        refine .inr ⟨cur, _, fz, cur, _, rfl, (hheap k).trans (if_pos rfl), rfl, fun _ _ => rfl, .inr ⟨⟨l.length, .inr ⟨⟨_, _, _, htok, by rw [hv2]; rfl⟩, hfree l.length (by simp)⟩⟩, rfl⟩, fun _ _ q => .inl q⟩
      · exact .inl ((hhe k hk).trans ho)
    · match i, hi with
      | 0, hi =>
        cases hi
        match j, hj with
        | 0, hj => cases hj
        | 1, hj => cases hj
  · cases h
end Go.Proofs.YtckdgcpomkefpaaGreatDoor.En
end
section
set_option linter.unusedVariables false
set_option maxRecDepth 100000
namespace Go.Proofs.YtckdgcpomkefpaaGreatDoor.En
open Go
noncomputable def libX (ext : CallF) : CallF := addF 95 ixE (addF 58 itoaE (addF 96 ccE (addF 47 strE ext)))
theorem lib_sound {ext : CallF} (h : SoundCall PR ext) : SoundCall PR (libX ext) := ix_sound (itoa_sound (cc_sound (str_sound h)))
def fsW : List Nat := (List.range 130).filter fun f => !([0, 1, 2, 19, 31, 47, 96, 119, 95, 58, 125] : List Nat).contains f
theorem hmixP2 : PR.follows .mixedOrders = true := by kernel_rfl
theorem okW : okFs PR fsW = true := by kernel_rfl
noncomputable def callW : CallF := evF PR TK (libX fun _ _ _ => none) fsW 60
theorem callW_sound : SoundCall PR callW := sound_fs hmixP2 (lib_sound sound_none) okW 60
noncomputable def pE : List AV → Bx → Option (Bool × Out) := fun xs bs => (evFnD PR TK callW 60 31 xs bs).map fun o => (true, o)
theorem pE_sound : SoundCall PR (addF 31 pE callW) :=
  sound_addD hmixP2 callW_sound _ (fn := (PR.funcs[31]?).getD default) (by kernel_rfl) (by kernel_rfl) pE fun xs bs out h => by
    unfold pE at h
    obtain ⟨o, h1, h2⟩ := Option.map_eq_some_iff.1 h
    cases h2
    exact ⟨60, h1⟩
def wakesE : List AV → Bx → Option (Bool × Out)
  | [], [] => some (true, .ret (B true) [])
  | _, _ => none
theorem wakes_run : evFn PR TK (addF 31 pE callW) 60 23 [] [] = some (.ret (B true) []) := by kernel_rfl
theorem wakes_sound : SoundCall PR (addF 23 wakesE fun _ _ _ => none) := by
  have h := sound_add (takes := TK) hmixP2 pE_sound 23 (fn := (PR.funcs[23]?).getD default) (by kernel_rfl) (by kernel_rfl) wakesE fun xs bs out h => by
    unfold wakesE at h
    split at h
    · cases h; exact ⟨60, wakes_run⟩
    · cases h
  refine h.le fun f xs bs out ho => ?_
  unfold addF at ho ⊢
  cases hf : Nat.beq f 23 <;> rw [hf] at ho <;> simp only [cond_true, cond_false] at ho ⊢
  · cases ho
  · exact ho
end Go.Proofs.YtckdgcpomkefpaaGreatDoor.En
end
section
set_option linter.unusedVariables false
set_option linter.unusedSimpArgs false
set_option maxRecDepth 100000
namespace Go.Proofs.YtckdgcpomkefpaaGreatDoor.En
open Go
theorem itemsN_all {f : Dat → Int → Int} : ∀ (l : List Dat) (n : Int), 0 ≤ itemsN f l n → ∀ d ∈ l, ∃ n', 0 ≤ n' ∧ 0 ≤ f d n'
  | [], n, _, d, hd => by cases hd
  | e :: l, n, h, d, hd => by
    have h' : 0 ≤ (bif decide (n ≥ 0) then itemsN f l (f e n) else n) := h
    by_cases hn : n ≥ 0
    · rw [decide_eq_true hn] at h'
      rcases List.mem_cons.1 hd with rfl | hd
      · refine ⟨n, hn, ?_⟩
        rcases Int.lt_or_le (f d n) 0 with hneg | hpos
        · have : itemsN f l (f d n) = f d n ∨ l = [] := by
            cases l with
            | nil => exact .inr rfl
            | cons a l =>
              left
              show (bif decide (f d n ≥ 0) then _ else _) = _
              rw [decide_eq_false (by omega)]; rfl
          rcases this with e | e
          · rw [cond_true, e] at h'; exact h'
          · subst e; exact h'
        · exact hpos
      · exact itemsN_all l _ h' d hd
    · rw [decide_eq_false hn, cond_false] at h'
      exact absurd h' hn
theorem large_fit : ∀ (j k : Nat) (d : Dat) (nest ahead : Int), nest + j = 101 → 0 ≤ nest → 0 ≤ ahead → 0 ≤ largeO k d nest ahead → 0 < j ∧ fitO j (d.at 4).toL (d.at 5).toL
  | j, 0, d, nest, ahead, _, _, _, h => by simp [largeO] at h
  | 0, k + 1, d, nest, ahead, hj, _, ha, h => by
    unfold largeO at h
    rw [show decide (nest > 100) = true from decide_eq_true (by simp at hj; omega), Bool.or_true] at h
    simp at h
  | j + 1, k + 1, d, nest, ahead, hj, hn, ha, h => by
    unfold largeO at h
    cases hc : decide (headN (d.at 3).toS (d.at 4).toL (d.at 5).toL ahead > 2000) || decide (nest > 100)
    · rw [hc, cond_false] at h
      rw [Bool.or_eq_false_iff] at hc
      have c1 := of_decide_eq_false hc.1
      rw [headN_eq] at c1
      refine ⟨by omega, by omega, by omega, fun e he => ?_⟩
      obtain ⟨n', h1, h2⟩ := itemsN_all _ _ h e he
      exact (large_fit j k e (nest + 1) n' (by push_cast at hj; omega) (by omega) h1 h2).2
    · rw [hc] at h
      simp at h
theorem fitO_copy : ∀ (k : Nat) (d : Dat), fitO k (d.at 4).toL (d.at 5).toL → fitO k ((copyO k d).at 4).toL ((copyO k d).at 5).toL
  | 0, d, h => h
  | k + 1, d, h => by
    obtain ⟨h1, h2, h3⟩ := h
    refine ⟨h1, by show ((d.at 5).toL.map (copyO k)).length ≤ _; rw [List.length_map]; exact h2, fun e he => ?_⟩
    have he' : e ∈ (d.at 5).toL.map (copyO k) := he
    obtain ⟨x, hx, rfl⟩ := List.mem_map.1 he'
    exact fitO_copy k x (h3 x hx)
noncomputable def LargeE : List AV → Bx → Option (Bool × Out)
  | [.agg [.v (.int .i64 k1), .v (.bool b1), .v (.int .i64 n1), .v (.string s1), .row none 9 ks1, .row none 43 l1]], [none] =>
    some (zB 102 s1 ks1 l1 0 0, .ret (B (decide (largeO 102 (mkO k1 n1 b1 s1 ks1 l1) 0 0 < 0))) [none])
  | _, _ => none
theorem Large_0 (ext : CallF) (m : Nat) (k1 n1 : Int) (b1 : Bool) (s1 : ByteArray) (ks1 l1 : List Dat) : evFn PR TK (largeC 102 ext) m 22 [.agg (obA k1 n1 b1 s1 ks1 l1)] [none] =
  bif zB 102 s1 ks1 l1 0 0 then some (.ret (B (decide (largeO 102 (mkO k1 n1 b1 s1 ks1 l1) 0 0 < 0))) [none]) else none := by kernel_rfl
theorem Large_sound : SoundCall PR (addF 22 LargeE (largeC 102 fun _ _ _ => none)) := by
  refine sound_add (takes := TK) hmixP (large_sound sound_none 102) _ (fn := (PR.funcs[22]?).getD default) (by kernel_rfl) (by kernel_rfl) LargeE fun xs bs out h => ?_
  unfold LargeE at h
  split at h
  · injection h with h
    injection h with h1 h2
    subst h2
    refine ⟨1, (Large_0 _ _ _ _ _ _ _ _).trans ?_⟩
    rw [h1]; rfl
  · cases h
theorem sound_both {f : FuncId} {ent : List AV → Bx → Option (Bool × Out)} {a b : CallF} (ha : SoundCall PR (addF f ent a)) (hb : SoundCall PR b) : SoundCall PR (addF f ent b) := fun g xs bs out ho => by
  unfold addF at ho
  cases hg : Nat.beq g f <;> rw [hg] at ho <;> simp only [cond_true, cond_false] at ho
  · exact hb g xs bs out ho
  · refine ha g xs bs out ?_
    unfold addF
    rw [hg]; exact ho
section
variable (m : Nat) (k1 n1 : Int) (b1 : Bool) (s1 key : ByteArray) (ks1 l1 : List Dat)
end
end Go.Proofs.YtckdgcpomkefpaaGreatDoor.En
end
section
set_option linter.unusedVariables false
set_option linter.unusedSimpArgs false
set_option maxRecDepth 100000
namespace Go.Proofs.YtckdgcpomkefpaaGreatDoor.En
open Go
noncomputable def osameC (k : Nat) (ext : CallF) : CallF := addF 27 (sameE k) ext
noncomputable def osameL1 (call : CallF) (m r : Nat) (k1 n1 k2 n2 : Int) (b1 b2 : Bool) (s1 s2 : ByteArray) (ks1 l1 ks2 l2 : List Dat) (i : Int) := loopF PR TK call m 27 [none, none] [true, true, false, true] r (sp 86 [(2, .box 2 0), (3, .box 3 0), (54, .row none 9 ks1), (55, I ks1.length), (56, I i)] [(2, obA k1 n1 b1 s1 ks1 l1), (3, obA k2 n2 b2 s2 ks2 l2)])
noncomputable def osameL2 (call : CallF) (m r : Nat) (k1 n1 k2 n2 : Int) (b1 b2 : Bool) (s1 s2 : ByteArray) (ks1 l1 ks2 l2 : List Dat) (i : Int) := loopF PR TK call m 27 [none, none] [true, true, true, false, true] r (sp 86 [(3, .box 3 0), (70, .row none 43 l1), (71, I l1.length), (72, I i)] [(3, obA k2 n2 b2 s2 ks2 l2)])
section
variable (call ext : CallF) (k m r : Nat) (k1 n1 k2 n2 : Int) (b1 b2 : Bool) (s1 s2 : ByteArray) (ks1 l1 ks2 l2 : List Dat) (i : Int)
theorem osame_0 : evFn PR TK call m 27 [.agg (obA k1 n1 b1 s1 ks1 l1), .agg (obA k2 n2 b2 s2 ks2 l2)] [none, none] =
    orK (k1 != k2) (!(b1 == b2)) fun t => orK t (n1 != n2) fun t => orK t (!(s1.toList == s2.toList)) fun t => orK t ((ks1.length : Int) != ks2.length) fun t => orK t ((l1.length : Int) != l2.length) fun t =>
      bif t then some (.ret (B false) [none, none]) else osameL1 call m m k1 n1 k2 n2 b1 b2 s1 s2 ks1 l1 ks2 l2 0 := by kernel_rfl
theorem osame_1 : osameL1 call m (r + 1) k1 n1 k2 n2 b1 b2 s1 s2 ks1 l1 ks2 l2 i = bif decide (i < ks1.length) then (idx ks1 i).bind fun d => (idx ks2 i).bind fun e =>
      bif !((d.at 0).toS.toList == (e.at 0).toS.toList) then some (.ret (B false) [none, none]) else osameL1 call m r k1 n1 k2 n2 b1 b2 s1 s2 ks1 l1 ks2 l2 (IntKind.i64.wrap (i + 1))
    else osameL2 call m m k1 n1 k2 n2 b1 b2 s1 s2 ks1 l1 ks2 l2 0 := by kernel_rfl
theorem osame_2 : osameL2 (osameC k ext) m (r + 1) k1 n1 k2 n2 b1 b2 s1 s2 ks1 l1 ks2 l2 i = bif decide (i < l1.length) then (idx l1 i).bind fun d => (idx l2 i).bind fun e =>
      bif fitB k (d.at 4).toL (d.at 5).toL then (bif !(sameO k (nrm d) (nrm e)) then some (.ret (B false) [none, none]) else osameL2 (osameC k ext) m r k1 n1 k2 n2 b1 b2 s1 s2 ks1 l1 ks2 l2 (IntKind.i64.wrap (i + 1))) else none
    else some (.ret (B true) [none, none]) := by kernel_rfl
end
theorem osame_loop2 {ext : CallF} {k m : Nat} {k1 n1 k2 n2 : Int} {b1 b2 : Bool} {s1 s2 : ByteArray} {ks1 l1 ks2 l2 : List Dat} (hl : l1.length = l2.length) (hf : l1.length ≤ 1000000) (hk : ∀ d ∈ l1, fitO k (d.at 4).toL (d.at 5).toL) :
    ∀ (n i r : Nat), i + n = l1.length → n < r → osameL2 (osameC k ext) m r k1 n1 k2 n2 b1 b2 s1 s2 ks1 l1 ks2 l2 (i : Int) = bR (allEq (sameO k) (l1.drop i) (l2.drop i))
  | n, i, 0, _, h => by omega
  | 0, i, r + 1, hi, _ => by
    rw [osame_2, show decide ((i : Int) < l1.length) = false from decide_eq_false (by omega), List.drop_eq_nil_of_le (by omega), List.drop_eq_nil_of_le (by omega)]
    rfl
  | n + 1, i, r + 1, hi, hm => by
    have h1 : i < l1.length := by omega
    have h2 : i < l2.length := by omega
    rw [osame_2, show decide ((i : Int) < l1.length) = true from decide_eq_true (by omega), idx_at h1, idx_at h2, IntWalk.i64_in _ (by omega)]
    simp only [cond_true, Option.bind_some]
    rw [fitB_eq (hk _ (List.getElem_mem h1)), cond_true, sameO_nrm, List.drop_eq_getElem_cons h1, List.drop_eq_getElem_cons h2]
    have ih := osame_loop2 (ext := ext) (m := m) (k1 := k1) (n1 := n1) (k2 := k2) (n2 := n2) (b1 := b1) (b2 := b2) (s1 := s1) (s2 := s2) (ks1 := ks1) (ks2 := ks2) hl hf hk n (i + 1) r (by omega) (by omega)
    rw [show ((i + 1 : Nat) : Int) = (i : Int) + 1 by omega] at ih
    rw [ih]
    show _ = bR (sameO k l1[i] l2[i] && allEq (sameO k) (l1.drop (i + 1)) (l2.drop (i + 1)))
    cases sameO k l1[i] l2[i] <;> rfl
theorem osame_loop1 {ext : CallF} {k m : Nat} {k1 n1 k2 n2 : Int} {b1 b2 : Bool} {s1 s2 : ByteArray} {ks1 l1 ks2 l2 : List Dat} (hlk : ks1.length = ks2.length) (hl : l1.length = l2.length) (hfk : ks1.length ≤ 1000000) (hf : l1.length ≤ 1000000) (hk : ∀ d ∈ l1, fitO k (d.at 4).toL (d.at 5).toL) (hm : l1.length < m) :
    ∀ (n i r : Nat), i + n = ks1.length → n < r → osameL1 (osameC k ext) m r k1 n1 k2 n2 b1 b2 s1 s2 ks1 l1 ks2 l2 (i : Int) = bR (keysEq (ks1.drop i) (ks2.drop i) && allEq (sameO k) l1 l2) := by
  have e0 := osame_loop2 (ext := ext) (k := k) (m := m) (k1 := k1) (n1 := n1) (k2 := k2) (n2 := n2) (b1 := b1) (b2 := b2) (s1 := s1) (s2 := s2) (ks1 := ks1) (ks2 := ks2) hl hf hk l1.length 0 m (by omega) hm
  rw [List.drop_zero, List.drop_zero, show ((0 : Nat) : Int) = 0 from rfl] at e0
  intro n
  induction n with
  | zero =>
    intro i r hi hr
    cases r with
    | zero => omega
    | succ r =>
      rw [osame_1, show decide ((i : Int) < ks1.length) = false from decide_eq_false (by omega), List.drop_eq_nil_of_le (by omega), List.drop_eq_nil_of_le (by omega), e0]
      rfl
  | succ n ih =>
    intro i r hi hr
    cases r with
    | zero => omega
    | succ r =>
      have h1 : i < ks1.length := by omega
      have h2 : i < ks2.length := by omega
      have ih := ih (i + 1) r (by omega) (by omega)
      rw [show ((i + 1 : Nat) : Int) = (i : Int) + 1 by omega] at ih
      rw [osame_1, e0, show decide ((i : Int) < ks1.length) = true from decide_eq_true (by omega), idx_at h1, idx_at h2, IntWalk.i64_in _ (by omega)]
      simp only [cond_true, Option.bind_some]
      rw [List.drop_eq_getElem_cons h1, List.drop_eq_getElem_cons h2, ih]
      show _ = bR ((((ks1[i].at 0).toS.toList == (ks2[i].at 0).toS.toList) && keysEq (ks1.drop (i + 1)) (ks2.drop (i + 1))) && allEq (sameO k) l1 l2)
      cases ((ks1[i].at 0).toS.toList == (ks2[i].at 0).toS.toList) <;> rfl
theorem osame_run {ext : CallF} {k m : Nat} {k1 n1 k2 n2 : Int} {b1 b2 : Bool} {s1 s2 : ByteArray} {ks1 l1 ks2 l2 : List Dat} (h : fitO (k + 1) ks1 l1) (hm : 1000000 < m) :
    evFn PR TK (osameC k ext) m 27 [.agg (obA k1 n1 b1 s1 ks1 l1), .agg (obA k2 n2 b2 s2 ks2 l2)] [none, none] = bR (sameO (k + 1) (mkO k1 n1 b1 s1 ks1 l1) (mkO k2 n2 b2 s2 ks2 l2)) := by
  obtain ⟨h1, h2, h3⟩ := h
  rw [osame_0]
  simp only [orK_eq]
  show (bif ((((((k1 != k2) || !(b1 == b2)) || (n1 != n2)) || !(s1.toList == s2.toList)) || ((ks1.length : Int) != ks2.length)) || ((l1.length : Int) != l2.length)) then bR false else _) =
    bR ((k1 == k2) && ((b1 == b2) && ((n1 == n2) && ((s1.toList == s2.toList) && (keysEq ks1 ks2 && allEq (sameO k) l1 l2)))))
  rw [ne_len, ne_len]
  unfold bne
  cases (k1 == k2) <;> cases (b1 == b2) <;> cases (n1 == n2) <;> cases (s1.toList == s2.toList) <;> try rfl
  by_cases e1 : ks1.length = ks2.length
  · by_cases e2 : l1.length = l2.length
    · rw [decide_eq_true e1, decide_eq_true e2]
      have e := osame_loop1 (ext := ext) (k := k) (m := m) (k1 := k1) (n1 := n1) (k2 := k2) (n2 := n2) (b1 := b1) (b2 := b2) (s1 := s1) (s2 := s2) e1 e2 h1 h2 h3 (by omega) ks1.length 0 m (by omega) (by omega)
      rw [List.drop_zero, List.drop_zero, show ((0 : Nat) : Int) = 0 from rfl] at e
      show osameL1 _ _ _ _ _ _ _ _ _ _ _ _ _ _ _ 0 = _
      rw [e]; rfl
    · rw [decide_eq_false e2]
      have : allEq (sameO k) l1 l2 = false := by
        cases hq : allEq (sameO k) l1 l2
        · rfl
        · exact absurd (allEq_len hq) e2
      rw [this]
      cases decide (ks1.length = ks2.length) <;> cases keysEq ks1 ks2 <;> rfl
  · rw [decide_eq_false e1]
    have : keysEq ks1 ks2 = false := by
      cases hq : keysEq ks1 ks2
      · rfl
      · exact absurd (keysEq_len hq) e1
    rw [this]; rfl
theorem osame_sound {ext : CallF} (hext : SoundCall PR ext) : ∀ k, SoundCall PR (osameC k ext) := by
  refine sound_rec (takes := TK) hmixP hext _ (fn := (PR.funcs[27]?).getD default) (by kernel_rfl) (by kernel_rfl) sameE (fun xs bs out h => ?_) (fun k xs bs out h => ?_)
  · unfold sameE at h
    split at h
    · injection h with h
      injection h with h _
      exact fitB_of h
    · cases h
  · unfold sameE at h
    split at h
    · injection h with h
      injection h with h1 h2
      subst h2
      exact ⟨1000001, osame_run (fitB_of h1) (by omega)⟩
    · cases h
end Go.Proofs.YtckdgcpomkefpaaGreatDoor.En
end
section
set_option linter.unusedVariables false
set_option linter.unusedSimpArgs false
set_option maxRecDepth 100000
namespace Go.Proofs.YtckdgcpomkefpaaGreatDoor.En
open Go
def inB (n : Int) : Bool := decide (-1099511627776 ≤ n) && decide (n ≤ 1099511627776)
def inE : List AV → Bx → Option (Bool × Out)
  | [.v (.int .i64 n)], [none] => some (true, .ret (B (inB n)) [none])
  | _, _ => none
theorem in_0 (call : CallF) (m : Nat) (n : Int) : evFn PR TK call m 62 [I n] [none] = andK (decide (-1099511627776 ≤ n)) (decide (n ≤ 1099511627776)) fun t => some (.ret (B t) [none]) := by kernel_rfl
theorem rin_0 (call : CallF) (m : Nat) (n : Int) : evFn PR TK call m 101 [I n] [none] = andK (decide (n ≥ -1099511627776)) (decide (n ≤ 1099511627776)) fun t => some (.ret (B t) [none]) := by kernel_rfl
theorem in_sound {ext : CallF} (hext : SoundCall PR ext) : SoundCall PR (addF 62 inE ext) := by
  refine sound_add (takes := TK) hmixP hext _ (fn := (PR.funcs[62]?).getD default) (by kernel_rfl) (by kernel_rfl) inE fun xs bs out h => ?_
  unfold inE at h
  split at h
  · cases h
    refine ⟨0, (in_0 _ _ _).trans ?_⟩
    rw [andK_eq]; rfl
  · cases h
theorem rin_sound {ext : CallF} (hext : SoundCall PR ext) : SoundCall PR (addF 101 inE ext) := by
  refine sound_add (takes := TK) hmixP hext _ (fn := (PR.funcs[101]?).getD default) (by kernel_rfl) (by kernel_rfl) inE fun xs bs out h => ?_
  unfold inE at h
  split at h
  · cases h
    refine ⟨0, (rin_0 _ _ _).trans ?_⟩
    rw [andK_eq]; rfl
  · cases h
def namedB (s : ByteArray) : Bool := decide (1 ≤ s.size) && (decide (s.size ≤ 127) && decide (Lib.indexByte s.data.toList 0 < 0))
def namedE : List AV → Bx → Option (Bool × Out)
  | [.v (.string s)], [none] => some (true, .ret (B (namedB s)) [none])
  | _, _ => none
theorem named_0 (ext : CallF) (m : Nat) (s : ByteArray) : evFn PR TK (addF 95 ixE ext) m 63 [S s] [none] =
    andK (decide ((1 : Int) ≤ (s.size : Int))) (decide ((s.size : Int) ≤ 127)) fun t => andK t (decide (Lib.indexByte s.data.toList ((0 : Int).toNat.toUInt8) < 0)) fun t => some (.ret (B t) [none]) := by kernel_rfl
theorem dec_nat {a b : Nat} : decide ((a : Int) ≤ (b : Int)) = decide (a ≤ b) := by
  by_cases h : a ≤ b
  · rw [decide_eq_true h, decide_eq_true (by omega)]
  · rw [decide_eq_false h, decide_eq_false (by omega)]
theorem named_sound {ext : CallF} (hext : SoundCall PR ext) : SoundCall PR (addF 63 namedE ext) := by
  refine sound_both (sound_add (takes := TK) hmixP (ix_sound sound_none) _ (fn := (PR.funcs[63]?).getD default) (by kernel_rfl) (by kernel_rfl) namedE fun xs bs out h => ?_) hext
  unfold namedE at h
  split at h
  · rename_i s
    cases h
    refine ⟨0, (named_0 _ _ _).trans ?_⟩
    rw [andK_eq, andK_eq, show ((1 : Int)) = ((1 : Nat) : Int) from rfl, show ((127 : Int)) = ((127 : Nat) : Int) from rfl, dec_nat, dec_nat, Bool.and_assoc]
    rfl
  · cases h
noncomputable def rnameL (call : CallF) (m r : Nat) (s : ByteArray) (i : Int) := loopF PR TK call m 112 [none] [true, true, false, true] r (sp 22 [(0, S s), (3, I i)] [])
def bR1 (x : Bool) : Option Out := some (.ret (B x) [none])
theorem rname_0 (call : CallF) (m : Nat) (s : ByteArray) : evFn PR TK call m 112 [S s] [none] =
    orK (decide ((s.size : Int) < 1)) (decide ((s.size : Int) > 127)) fun t => bif t then bR1 false else rnameL call m m s 0 := by kernel_rfl
theorem rname_1 (call : CallF) (m r : Nat) (s : ByteArray) (i : Int) : rnameL call m (r + 1) s i =
    bif decide (i < s.size) then (bif (true && decide (0 ≤ i) && decide (i < s.size)) then (bif (bt s i == 0) then bR1 false else rnameL call m r s (IntKind.i64.wrap (i + 1))) else none) else bR1 true := by kernel_rfl
theorem bt_nat (s : ByteArray) (i : Nat) (h : i < s.data.toList.length) : bt s (i : Int) = ((s.data.toList[i]'h).toNat : Int) := by
  unfold bt
  have h' : i < s.data.size := by simpa using h
  have h2 : (s.data.getD i 0) = s.data[i] := by unfold Array.getD; rw [dif_pos h']; rfl
  show (((s.data.getD (i : Int).toNat 0).toNat : Nat) : Int) = _
  rw [show ((i : Int).toNat) = i from rfl, h2]
  simp
theorem ix_neg : ∀ (l : List UInt8), decide (Lib.indexByte l 0 < 0) = l.all fun b => !(b == 0)
  | [] => rfl
  | b :: l => by
    have ih := ix_neg l
    have ge := Lib.indexByte_ge l 0
    rw [List.all_cons, ← ih]
    show decide ((if (b == 0) = true then (0 : Int) else if (Lib.indexByte l 0 == -1) = true then -1 else Lib.indexByte l 0 + 1) < 0) = _
    cases hb : (b == 0)
    · simp only [Bool.false_eq_true, if_false, Bool.not_false, Bool.true_and]
      by_cases h1 : Lib.indexByte l 0 = -1
      · rw [h1]; rfl
      · have : (Lib.indexByte l 0 == -1) = false := by simpa using h1
        rw [this]
        simp only [Bool.false_eq_true, if_false]
        rw [decide_eq_false (by omega), decide_eq_false (by omega)]
    · rfl
theorem rname_loop {call : CallF} {m : Nat} {s : ByteArray} (hf : s.size ≤ 1000000) : ∀ (n i r : Nat), i + n = s.data.toList.length → n < r → rnameL call m r s (i : Int) = bR1 ((s.data.toList.drop i).all fun b => !(b == 0)) := by
  have hsz : s.data.toList.length = s.size := Array.length_toList
  intro n
  induction n with
  | zero =>
    intro i r hi hr
    cases r with
    | zero => omega
    | succ r =>
      rw [rname_1, show decide ((i : Int) < s.size) = false from decide_eq_false (by omega), List.drop_eq_nil_of_le (by omega)]
      rfl
  | succ n ih =>
    intro i r hi hr
    cases r with
    | zero => omega
    | succ r =>
      have h1 : i < s.data.toList.length := by omega
      have ih := ih (i + 1) r (by omega) (by omega)
      rw [show ((i + 1 : Nat) : Int) = (i : Int) + 1 by omega] at ih
      rw [rname_1, show decide ((i : Int) < s.size) = true from decide_eq_true (by omega), show decide ((0 : Int) ≤ i) = true from decide_eq_true (by omega), IntWalk.i64_in _ (by omega), ih, bt_nat s i h1, List.drop_eq_getElem_cons h1, List.all_cons]
      have : (((s.data.toList[i].toNat : Nat) : Int) == 0) = (s.data.toList[i] == 0) := by
        by_cases hz : s.data.toList[i] = 0
        · rw [hz]; rfl
        · have h2 : (s.data.toList[i] == 0) = false := by simpa using hz
          rw [h2]
          have h3 : s.data.toList[i].toNat ≠ 0 := fun e => hz (UInt8.toNat_inj.1 (by rw [e]; rfl))
          simpa using h3
      rw [this]
      cases (s.data.toList[i] == 0) <;> rfl
theorem rname_sound {ext : CallF} (hext : SoundCall PR ext) : SoundCall PR (addF 112 namedE ext) := by
  refine sound_add (takes := TK) hmixP hext _ (fn := (PR.funcs[112]?).getD default) (by kernel_rfl) (by kernel_rfl) namedE fun xs bs out h => ?_
  unfold namedE at h
  split at h
  · rename_i s
    cases h
    refine ⟨128, (rname_0 _ _ _).trans ?_⟩
    rw [orK_eq]
    have hsz : s.data.toList.length = s.size := Array.length_toList
    show _ = bR1 (namedB s)
    unfold namedB
    rw [ix_neg]
    by_cases h1 : 1 ≤ s.size
    · by_cases h2 : s.size ≤ 127
      · have e := rname_loop (call := ext) (m := 128) (s := s) (by omega) s.data.toList.length 0 128 (by omega) (by omega)
        rw [List.drop_zero, show ((0 : Nat) : Int) = 0 from rfl] at e
        rw [decide_eq_true h1, decide_eq_true h2, show decide ((s.size : Int) < 1) = false from decide_eq_false (by omega), show decide ((s.size : Int) > 127) = false from decide_eq_false (by omega), Bool.true_and, Bool.true_and, ← e]
        rfl
      · rw [decide_eq_false h2, show decide ((s.size : Int) > 127) = true from decide_eq_true (by omega), Bool.or_true, Bool.false_and, Bool.and_false]; rfl
    · rw [decide_eq_false h1, show decide ((s.size : Int) < 1) = true from decide_eq_true (by omega), Bool.true_or, Bool.false_and]; rfl
  · cases h
end Go.Proofs.YtckdgcpomkefpaaGreatDoor.En
end
