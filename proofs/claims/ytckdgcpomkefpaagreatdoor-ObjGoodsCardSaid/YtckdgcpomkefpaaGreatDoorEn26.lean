/- What a law's argument holds, as plain data. -/
import Derived.Test.YtckdgcpomkefpaaGreatDoorEn25
import Derived.Deep.Slices
import Derived.SizedLaws
set_option linter.unusedVariables false
set_option linter.unusedSimpArgs false
namespace Go.Proofs.YtckdgcpomkefpaaGreatDoor.En
open Go Go.RowKit Go.ChangeShapes Go.WideShapes
inductive Sz (P : Program) : CK → Dat → Prop
  | int (k : IntKind) (d : Dat) : (Lit.int k d.toI).wf = true → Sz P (.int k) d
  | bool (d : Dat) : Sz P .bool d
  | str (d : Dat) : d.toS.size ≤ reachBytes → Sz P .str d
  | row (E : TypeId) (ks : List CK) (d : Dat) : kinds P E = some ks → d.toL.length * P.bytesOf E ≤ reachBytes → (∀ e ∈ d.toL, ∀ (j : Nat) k, ks[j]? = some k → Sz P k (e.at j)) → Sz P (.row E) d
  | self (d : Dat) : Sz P .self d
  | other (d : Dat) : Sz P .other d
/-- A cell's reading. -/
structure Opn1 (P : Program) (w : World) (k : CK) (d : Dat) (u : Value) : Prop where
  one : u.oneCell' = true
  sc : scal k d u
  row : ∀ E, k = .row E → RepRow P (g0 w).G w E d.toL u
  sz : Sz P k d
structure Opn (P : Program) (w : World) (ks : List CK) (ds : List Dat) (cs : List Value) : Prop where
  ld : ds.length = ks.length
  lc : cs.length = ks.length
  each : ∀ (j : Nat) k d u, ks[j]? = some k → ds[j]? = some d → cs[j]? = some u → Opn1 P w k d u
theorem Opn.append {P : Program} {w : World} {ks ks' : List CK} {ds ds' : List Dat} {cs cs' : List Value} (h : Opn P w ks ds cs) (h' : Opn P w ks' ds' cs') : Opn P w (ks ++ ks') (ds ++ ds') (cs ++ cs') := by
  refine ⟨by simp [h.ld, h'.ld], by simp [h.lc, h'.lc], fun j k d u hk hd hu => ?_⟩
  rw [List.getElem?_append] at hk hd hu
  rw [h.ld] at hd
  rw [h.lc] at hu
  by_cases hj : j < ks.length
  · rw [if_pos hj] at hk hd hu
    exact h.each j k d u hk hd hu
  · rw [if_neg hj] at hk hd hu
    exact h'.each _ k d u hk hd hu
theorem Opn.nil {P : Program} {w : World} : Opn P w [] [] [] := ⟨rfl, rfl, fun j k d u h => by simp at h⟩
theorem Opn.single {P : Program} {w : World} {k : CK} {d : Dat} {u : Value} (h : Opn1 P w k d u) : Opn P w [k] [d] [u] :=
  ⟨rfl, rfl, fun j k' d' u' h1 h2 h3 => by
    cases j with
    | zero => cases h1; cases h2; cases h3; exact h
    | succ j => simp at h1⟩
/-! ### readings -/
def offsB (P : Program) (Rl : List TypeId) : Nat → List Field → Bool
  | _, [] => true
  | o, f :: r => f.offset == o && Rl.contains f.type && offsB P Rl (o + P.cellsOf f.type) r
def sumC (P : Program) (fs : List Field) : Nat := fs.foldr (fun f n => P.cellsOf f.type + n) 0
/-- Types that are read here, and all that is within. -/
def closedB (P : Program) (Rl : List TypeId) : Bool := Rl.all fun T => match P.underlying T with
  | some (.int _) | some .bool | some .string | some (.pointer _) => true
  | some (.slice E) => Rl.contains E && (match kinds P E with | some ks => P.cellsOf E == ks.length && Nat.blt 0 ks.length | none => false)
  | some (.struct fs) => P.cellsOf T == sumC P fs.toList && offsB P Rl 0 fs.toList
  | _ => false
theorem weights_all {H : Type} {P : Program} {e : TypeId} : ∀ {l : List (DataW H)} {d : DataW H}, d ∈ l → ∀ n ∈ d.weights P e, n ∈ DataW.weightsAll P e l
  | [], d, h, n, hn => by simp at h
  | a :: l, d, h, n, hn => by
    rw [DataW.weightsAll, List.mem_append]
    rcases List.mem_cons.1 h with rfl | h
    · exact .inl hn
    · exact .inr (weights_all h n hn)
def fk (P : Program) (n : Nat) (T : TypeId) (f : Field) : Option (List CK) := match P.underlying f.type with
  | some (.pointer E) => some [bif E == T then CK.self else CK.other]
  | _ => kindsF P n f.type
def catO (l : List (Option (List CK))) : Option (List CK) := l.foldr (fun a b => a.bind fun x => b.bind fun y => some (x ++ y)) (some [])
theorem opn_fields {P : Program} {w : World} {n : Nat} {T : TypeId} {Rl : List TypeId} {cs : List Value} (rd : Field → List Value → Prop)
    (ih : ∀ f c ks, Rl.contains f.type = true → fk P n T f = some ks → rd f c → ∃ ds, Opn P w ks ds c) : ∀ (fs : List Field) (o : Nat) (ks : List CK), offsB P Rl o fs = true → catO (fs.map (fk P n T)) = some ks → cs.length = o + sumC P fs →
      (∀ f ∈ fs, rd f ((cs.drop f.offset).take (P.cellsOf f.type))) → ∃ ds, Opn P w ks ds (cs.drop o)
  | [], o, ks, ho, hk, hl, hr => by
    cases hk
    refine ⟨[], ?_⟩
    rw [List.drop_eq_nil_of_le (by simp [sumC] at hl; omega)]
    exact Opn.nil
  | f :: fs, o, ks, ho, hk, hl, hr => by
    simp only [offsB, Bool.and_eq_true] at ho
    obtain ⟨⟨h1, h2⟩, h3⟩ := ho
    have h1 : f.offset = o := by simpa using h1
    have hk' : ((fk P n T f).bind fun x => (catO (fs.map (fk P n T))).bind fun y => some (x ++ y)) = some ks := hk
    obtain ⟨k1, e1, hk'⟩ := Option.bind_eq_some_iff.1 hk'
    obtain ⟨k2, e2, hk'⟩ := Option.bind_eq_some_iff.1 hk'
    cases hk'
    have hl' : cs.length = o + (P.cellsOf f.type + sumC P fs) := hl
    obtain ⟨d1, o1⟩ := ih f _ k1 h2 e1 (hr f (by simp))
    obtain ⟨d2, o2⟩ := opn_fields rd ih fs (o + P.cellsOf f.type) k2 h3 e2 (by omega) (fun g hg => hr g (by simp [hg]))
    refine ⟨d1 ++ d2, ?_⟩
    have := o1.append o2
    rw [h1, ← List.drop_drop, List.take_append_drop] at this
    exact this
theorem opens {P : Program} {Rl : List TypeId} (hcl : closedB P Rl = true) {H : Type} {enc : TypeId × Value → H} {w : World} {base : Nat} {spare : Nat → Bool} {held : Bool} : ∀ (fuel n : Nat) (T : TypeId) (ks : List CK) (cs : List Value) (x : DataW H × List MemPlace),
    Rl.contains T = true → kindsF P n T = some ks → DataW.trod enc P w base spare held fuel T cs = some x → (∀ n ∈ x.1.weights P T, n ≤ reachBytes) → ∃ ds, Opn P w ks ds cs
  | 0, n, T, ks, cs, x, hT, hk, h, hw => by simp [DataW.trod] at h
  | fuel + 1, 0, T, ks, cs, x, hT, hk, h, hw => by simp [kindsF] at hk
  | fuel + 1, n + 1, T, ks, cs, x, hT, hk, h, hw => by
    have hc := List.all_eq_true.1 hcl T (by simpa using hT)
    unfold kindsF at hk
    cases hu : P.underlying T with
    | none => rw [hu] at hc; cases hc
    | some D =>
      rw [hu] at hc hk
      cases D <;> first | (cases hc; done) | skip
      case bool =>
        cases hk
        obtain ⟨b, rfl, _⟩ := DataW.trod_bool hu h
        exact ⟨[.bool b], Opn.single ⟨rfl, rfl, fun E e => (by cases e), .bool _⟩⟩
      case int k =>
        cases hk
        obtain ⟨m, rfl, _, hwf⟩ := DataW.trod_int hu h
        exact ⟨[.int m], Opn.single ⟨rfl, rfl, fun E e => (by cases e), .int k _ hwf⟩⟩
      case string =>
        cases hk
        obtain ⟨s, rfl, rfl, _⟩ := DataW.trod_string hu h
        have := hw s.data.toList.length (by simp [DataW.weights])
        exact ⟨[.str s], Opn.single ⟨rfl, rfl, fun E e => (by cases e), .str _ (by rwa [Array.length_toList] at this)⟩⟩
      case pointer e =>
        cases hk
        rcases DataW.trod_pointer hu h with ⟨rfl, _⟩ | ⟨a, cs', y, m, _, rfl, _⟩
        · exact ⟨[.int 0], Opn.single ⟨rfl, trivial, fun E e => (by cases e), .other _⟩⟩
        · exact ⟨[.int 0], Opn.single ⟨rfl, trivial, fun E e => (by cases e), .other _⟩⟩
      case struct fs =>
        simp only [Bool.and_eq_true] at hc
        obtain ⟨xs, m, hm, rfl, hcl', hxl, hf⟩ := DataW.trod_struct hu h
        cases hm
        have hsum : P.cellsOf T = sumC P fs.toList := by simpa using hc.1
        have hkk : catO (fs.toList.map (fk P n T)) = some ks := hk
        obtain ⟨ds, hds⟩ := opn_fields (P := P) (w := w) (n := n) (T := T) (Rl := Rl) (cs := cs) (fun f c => ∃ y, DataW.trod enc P w base spare held fuel f.type c = some y ∧ ∀ k ∈ y.1.weights P f.type, k ≤ reachBytes) (fun f c ks' hcf hkf hr => by
            obtain ⟨y, hy, hyw⟩ := hr
            unfold fk at hkf
            split at hkf
            · rename_i E hE
              cases hkf
              have hone : ∀ k, (k = CK.self ∨ k = CK.other) → ∀ u : Value, u.oneCell' = true → Opn1 P w k (.int 0) u := fun k hk u hu1 => by
                rcases hk with rfl | rfl
                · exact ⟨hu1, trivial, fun E e => (by cases e), .self _⟩
                · exact ⟨hu1, trivial, fun E e => (by cases e), .other _⟩
              have hk2 : (bif E == T then CK.self else CK.other) = CK.self ∨ (bif E == T then CK.self else CK.other) = CK.other := by cases E == T <;> simp
              rcases DataW.trod_pointer hE hy with ⟨rfl, _⟩ | ⟨a, cs', y', m', _, rfl, _⟩
              · exact ⟨[.int 0], Opn.single (hone _ hk2 _ rfl)⟩
              · exact ⟨[.int 0], Opn.single (hone _ hk2 _ rfl)⟩
            · exact opens hcl fuel n f.type ks' c y hcf hkf hy hyw) fs.toList 0 ks hc.2 hkk (by rw [hcl', hsum]; omega) (fun f hfm => by
            obtain ⟨i, hi, rfl⟩ := List.mem_iff_getElem.1 hfm
            have hi' : i < fs.size := by simpa using hi
            have hfi : fs[i]? = some fs.toList[i] := by simp [hi']
            have h2 := hf i _ hfi
            obtain ⟨y, hy⟩ : ∃ y, xs[i]? = some y := ⟨_, List.getElem?_eq_getElem (by omega)⟩
            refine ⟨y, by rw [h2, hy], fun k hk => hw k ?_⟩
            simp only [DataW.weights, hu]
            exact DataW.weights_mem_each (j := i) (t := fs.toList[i].type) (by simp [hi']) (by simp [hy]) k hk)
        rw [List.drop_zero] at hds
        exact ⟨ds, hds⟩
      case slice E =>
        simp only [Bool.and_eq_true] at hc
        cases hk
        cases hkE : kinds P E with
        | none => rw [hkE] at hc; cases hc.2
        | some kE =>
          rw [hkE] at hc
          simp only [Bool.and_eq_true] at hc
          have hcE : P.cellsOf E = kE.length := by simpa using hc.2.1
          have h0 : 0 < kE.length := Nat.le_of_ble_eq_true hc.2.2
          rcases DataW.trod_slice hu h with ⟨rfl, rfl⟩ | ⟨a, len, cap, elems, rest, m, hm, rfl, rfl, hb, hl, hmx, hlen, hel, _, _⟩
          · exact ⟨[.rows []], Opn.single ⟨rfl, trivial, fun E' e => (by cases e; exact .nil E none 0), .row E kE _ hkE (by simp [Dat.toL]) (fun e he => by simp [Dat.toL] at he)⟩⟩
          cases hm
          have each : ∀ i, i < len → ∃ p : List Dat × List Value, (∀ j u, p.2[j]? = some u → w.cell? (a.add (i * kE.length + j)) = some u) ∧ Opn P w kE p.1 p.2 := fun i hi => by
            have h2 := hel i hi
            obtain ⟨y, hy⟩ : ∃ y, elems[i]? = some y := ⟨_, List.getElem?_eq_getElem (by omega)⟩
            rw [hy] at h2
            obtain ⟨cs', h3, h4⟩ := Option.bind_eq_some_iff.1 h2
            obtain ⟨_, e1, e2⟩ := World.cells?_some h3
            obtain ⟨ds, hds⟩ := opens hcl fuel 9 E kE cs' y hc.1 hkE h4 (fun k hk => hw k (by
              simp only [DataW.weights, hu, List.mem_cons, List.mem_append]
              exact .inr (.inl (weights_all (List.mem_map.2 ⟨y, List.mem_of_getElem? hy, rfl⟩) k hk))))
            refine ⟨(ds, cs'), fun j u hj => ?_, hds⟩
            have hjl : j < P.cellsOf E := by rw [← e1]; exact (List.getElem?_eq_some_iff.1 hj).1
            have := e2 j hjl
            rw [Deep.add_add, hcE] at this
            rw [this]; exact hj
          obtain ⟨F, hF⟩ := Deep.choose_lt each
          let L : List Dat := (List.range len).map fun i => .agg (F i).1
          have hLl : L.length = len := by simp [L]
          have hLget : ∀ i d, L[i]? = some d → i < len ∧ d = .agg (F i).1 := fun i d hi => by
            have hlt := (List.getElem?_eq_some_iff.1 hi).1
            rw [hLl] at hlt
            simp only [L, List.getElem?_map, List.getElem?_range hlt, Option.map_some] at hi
            cases hi
            exact ⟨hlt, rfl⟩
          have hat : ∀ i j, ∀ hj : j < (F i).1.length, (Dat.agg (F i).1).at j = (F i).1[j] := fun i j hj => by
            show (F i).1.getD j (.int 0) = _
            rw [List.getD_eq_getElem?_getD, List.getElem?_eq_getElem hj]; rfl
          have hcells : ∀ i j k, i < len → kE[j]? = some k → ∃ d u, (F i).1[j]? = some d ∧ (F i).2[j]? = some u ∧ Opn1 P w k d u := fun i j k hi hj => by
            have hjl := (List.getElem?_eq_some_iff.1 hj).1
            obtain ⟨_, ho⟩ := hF i hi
            have q1 := List.getElem?_eq_getElem (l := (F i).1) (i := j) (by rw [ho.ld]; exact hjl)
            have q2 := List.getElem?_eq_getElem (l := (F i).2) (i := j) (by rw [ho.lc]; exact hjl)
            exact ⟨_, _, q1, q2, ho.each j k _ _ hj q1 q2⟩
          have hsz : Sz P (.row E) (.rows L) := by
            refine .row E kE _ hkE ?_ (fun e he j k hj => ?_)
            · have := hw (((elems.map (·.1)).length + (rest.map (·.1)).length) * P.bytesOf E) (by simp [DataW.weights, hu])
              show L.length * P.bytesOf E ≤ reachBytes
              rw [hLl]
              refine Nat.le_trans (Nat.mul_le_mul_right _ ?_) this
              simp
              omega
            · obtain ⟨i, hi⟩ := List.getElem?_of_mem (show e ∈ L from he)
              obtain ⟨hlt, rfl⟩ := hLget i e hi
              obtain ⟨d, u, q1, q2, q3⟩ := hcells i j k hlt hj
              have hl2 := (List.getElem?_eq_some_iff.1 q1).1
              rw [hat i j hl2]
              rw [List.getElem?_eq_getElem hl2] at q1
              cases q1
              exact q3.sz
          refine ⟨[.rows L], Opn.single ⟨rfl, trivial, fun E' e => ?_, hsz⟩⟩
          cases e
          show RepRow P (g0 w).G w E L (.slice (some a) len cap)
          cases len with
          | zero =>
            have : L = [] := List.length_eq_zero_iff.1 hLl
            rw [this]
            exact .nil E (some a) cap
          | succ len' =>
            have hspot : a.spot = none := by
              obtain ⟨k0, hk0⟩ : ∃ k0, kE[0]? = some k0 := ⟨_, List.getElem?_eq_getElem h0⟩
              obtain ⟨d, u, _, q2, _⟩ := hcells 0 0 k0 (by omega) hk0
              have h1 := (hF 0 (by omega)).1 0 u q2
              rw [Nat.zero_mul, Nat.zero_add] at h1
              have h1 : w.cell? a = some u := h1
              unfold World.cell? at h1
              split at h1
              · cases hs : a.spot with
                | none => rfl
                | some z => rw [hs] at h1; cases h1
              · cases h1
            obtain ⟨β, off, spot⟩ := a
            dsimp only at hspot
            subst hspot
            have := RepRow.of_cells (P := P) (w := w) (E := E) (ks := kE) (l := L) (β := β) (off := off) (cap := cap) (vals := fun i j => (F i).2.getD j undef) hkE (by rw [hLl]; exact hl) (fun i j hi hj => by
              rw [hLl] at hi
              obtain ⟨d, u, _, q2, q3⟩ := hcells i j kE[j] hi (List.getElem?_eq_getElem hj)
              have h1 := (hF i hi).1 j u q2
              rw [add_lit] at h1
              rw [List.getD_eq_getElem?_getD, q2]
              exact ⟨by rw [show off + i * kE.length + j = off + (i * kE.length + j) by omega]; exact h1, q3.one⟩) (fun i j d k hi hj => by
              obtain ⟨hlt, rfl⟩ := hLget i d hi
              obtain ⟨d, u, q1, q2, q3⟩ := hcells i j k hlt hj
              have hl2 := (List.getElem?_eq_some_iff.1 q1).1
              rw [hat i j hl2, List.getD_eq_getElem?_getD, q2]
              rw [List.getElem?_eq_getElem hl2] at q1
              cases q1
              exact q3.sc) (fun i j d E' hi hj => by
              obtain ⟨hlt, rfl⟩ := hLget i d hi
              obtain ⟨d, u, q1, q2, q3⟩ := hcells i j _ hlt hj
              have hl2 := (List.getElem?_eq_some_iff.1 q1).1
              rw [hat i j hl2, List.getD_eq_getElem?_getD, q2]
              rw [List.getElem?_eq_getElem hl2] at q1
              cases q1
              exact q3.row E' rfl)
            rw [hLl] at this
            exact this
end Go.Proofs.YtckdgcpomkefpaaGreatDoor.En
