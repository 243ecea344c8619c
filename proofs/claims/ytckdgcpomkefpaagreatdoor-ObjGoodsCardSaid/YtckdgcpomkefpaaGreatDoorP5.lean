/- obj.good and obj.all: what they answer. -/
import Derived.Test.YtckdgcpomkefpaaGreatDoorP4
import Derived.Test.YtckdgcpomkefpaaGreatDoorK1
set_option linter.unusedVariables false
set_option linter.unusedSimpArgs false
set_option maxRecDepth 100000
namespace Go.Proofs.YtckdgcpomkefpaaGreatDoor.En
open Go
/-! ### the keys -/
def strsOf (ks : List Dat) : List ByteArray := ks.map fun d => (d.at 0).toS
def okK (ks : List Dat) : Prop := ks.length ≤ 1000000 ∧ ∀ d ∈ ks, (d.at 0).toS.size ≤ maxLen
noncomputable def keyedE : List AV → Bx → Option (Bool × Out)
  | [.row none 9 ks], [none] => some (decP (okK ks), .ret (B (keysR [] ks)) [none])
  | _, _ => none
theorem keysR_eq : ∀ (r pre : List Dat), keysR pre r = (r.all (fun d => namedB (d.at 0).toS) && decide ((X.keysOf (strsOf r)).Nodup ∧ ∀ d ∈ r, ∀ e ∈ pre, (e.at 0).toS.data.toList ≠ (d.at 0).toS.data.toList))
  | [], pre => by simp [keysR, X.keysOf, strsOf]
  | d :: r, pre => by
    rw [keysR, keysR_eq r (pre ++ [d]), List.all_cons]
    have e1 : (pre.any fun e => eqK e d) = decide (∃ e ∈ pre, (e.at 0).toS.data.toList = (d.at 0).toS.data.toList) := by
      rw [Bool.eq_iff_iff, List.any_eq_true, decide_eq_true_eq]
      refine ⟨fun ⟨e, he, h⟩ => ⟨e, he, ?_⟩, fun ⟨e, he, h⟩ => ⟨e, he, ?_⟩⟩
      · have : ((e.at 0).toS.toList == (d.at 0).toS.toList) = true := h
        have h2 := eq_of_beq this
        rwa [Go.ByteArray.toList_eq, Go.ByteArray.toList_eq] at h2
      · show ((e.at 0).toS.toList == (d.at 0).toS.toList) = true
        rw [Go.ByteArray.toList_eq, Go.ByteArray.toList_eq, h]; simp
    rw [e1]
    cases namedB (d.at 0).toS
    · rfl
    · rw [Bool.true_and, Bool.true_and]
      cases r.all (fun d => namedB (d.at 0).toS)
      · simp
      · rw [Bool.true_and, Bool.true_and, Bool.eq_iff_iff]
        simp only [Bool.and_eq_true, Bool.not_eq_true', decide_eq_true_eq, decide_eq_false_iff_not]
        have hk : X.keysOf (strsOf (d :: r)) = (d.at 0).toS.data.toList :: X.keysOf (strsOf r) := rfl
        rw [hk, List.nodup_cons]
        have hm : (d.at 0).toS.data.toList ∈ X.keysOf (strsOf r) ↔ ∃ e ∈ r, (e.at 0).toS.data.toList = (d.at 0).toS.data.toList := by
          simp [X.keysOf, strsOf]
        rw [hm]
        constructor
        · rintro ⟨h1, h2, h3⟩
          refine ⟨⟨fun ⟨e, he, hx⟩ => h3 e he d (by simp) hx.symm, h2⟩, fun e he x hx => ?_⟩
          rcases List.mem_cons.1 he with rfl | he
          · exact fun hh => h1 ⟨x, hx, hh⟩
          · exact h3 e he x (by simp [hx])
        · rintro ⟨⟨h1, h2⟩, h3⟩
          refine ⟨fun ⟨e, he, hx⟩ => h3 d (by simp) e he hx, h2, fun e he x hx => ?_⟩
          rcases List.mem_append.1 hx with hx | hx
          · exact h3 e (by simp [he]) x hx
          · rw [List.mem_singleton.1 hx]
            exact fun hh => h1 ⟨e, he, hh.symm⟩
theorem keyed_eq (ks : List Dat) : X.keyedB (strsOf ks) = keysR [] ks := by
  rw [keysR_eq]
  unfold X.keyedB
  have : (strsOf ks).all X.namedB = ks.all fun d => namedB (d.at 0).toS := by
    unfold strsOf
    rw [List.all_map]; rfl
  rw [this]
  congr 1
  simp
theorem keyed_sound {ext : CallF} (hext : SoundCall PR ext) : SoundCall PR (addF 65 keyedE ext) := by
  refine sound_ext hext _ (fn := (PR.funcs[65]?).getD default) (by kernel_rfl) (by kernel_rfl) keyedE fun xs bs out h g w vs hm hL hl hv hr => ?_
  unfold keyedE at h
  split at h
  · rename_i ks
    injection h with h
    injection h with hc h
    subst h
    obtain ⟨h1, h2⟩ := decP_of hc
    obtain ⟨v, hv0, hrow, _⟩ := hr 0 _ rfl
    obtain ⟨A, cap, rfl⟩ := hrow.slice
    have hvs : vs = #[.slice A ks.length cap] := by
      apply Array.ext_getElem?
      intro i
      match i with
      | 0 => exact hv0
      | i + 1 => rw [Array.getElem?_eq_none (by simp at hv; omega), Array.getElem?_eq_none (by simp)]
    subst hvs
    have hlen : (strsOf ks).length = ks.length := by simp [strsOf]
    have hc := X.keyed_calls A cap (strsOf ks) w (fun i hi => ?_) (fun s hs => ?_) (by omega)
    · rw [hlen] at hc
      refine hc.mono fun e w' he => ?_
      obtain ⟨rfl, hb⟩ := he
      rw [keyed_eq]
      exact post_v hm (by simp) rfl (Fr.of_below hb (Nat.le_refl _))
    · have hi' : i < ks.length := by omega
      cases hrow with
      | nil => simp at hi'
      | mk _ _ β off _ ks' vals hk hlen hcc hss hrr =>
        have hk' : kinds PR 9 = some [.str] := by kernel_rfl
        rw [hk'] at hk
        cases hk
        obtain ⟨c1, c2, c3⟩ := hcc i 0 hi' (by simp)
        have hsc : vals i 0 = .string (ks[i].at 0).toS := hss i 0 ks[i] .str (List.getElem?_eq_getElem hi') rfl
        refine ⟨⟨β, off, none⟩, rfl, ?_⟩
        rw [hsc] at c2
        have e : (⟨β, off, none⟩ : Addr).add i = ⟨β, off + i, none⟩ := by
          by_cases hj : i = 0
          · subst hj; simp [Addr.add]
          · simp [Addr.add, hj]
        rw [e]
        simpa [strsOf] using c2
    · obtain ⟨d, hd, rfl⟩ := List.mem_map.1 hs
      exact h2 d hd
  · cases h
/-! ### good and all -/
def ogI (f : Dat → Int → Int → Bool × Int) (deep : Int) : List Dat → Int → Bool × Int
  | [], left => (true, left)
  | d :: l, left => bif !(f d (deep - 1) left).1 then (false, (f d (deep - 1) left).2) else ogI f deep l (f d (deep - 1) left).2
def allO (f : Dat → Int → Int → Bool × Int) (l : List Dat) (deep left : Int) : Bool × Int := bif decide (deep < 1) then (false, left) else ogI f deep l left
/-- Nothing is left of an object. -/
def sm (k : Nat) (n : Int) (b : Bool) (s : ByteArray) (ks l : List Dat) : Bool := sameO k (mkO 0 n b s ks l) (mkO 0 0 false ⟨#[]⟩ [] [])
def ogS (k : Nat) (f : Dat → Int → Int → Bool × Int) (k1 n1 : Int) (b1 : Bool) (s1 : ByteArray) (ks1 l1 : List Dat) (deep left : Int) : Bool × Int :=
  bif k1 == 0 then (sm k n1 b1 s1 ks1 l1, left) else bif k1 == 1 then (sm k n1 false s1 ks1 l1, left) else
  bif k1 == 2 then (inB n1 && sm k 0 b1 s1 ks1 l1, left) else bif k1 == 3 then ((inB n1 && (n1.tmod 65536) != 0) && sm k 0 b1 s1 ks1 l1, left) else
  bif k1 == 4 then (namedB s1 && sm k n1 b1 ⟨#[]⟩ ks1 l1, left) else bif k1 == 5 then (decide ((s1.size : Int) ≤ 65536) && sm k n1 b1 ⟨#[]⟩ ks1 l1, left) else
  bif k1 == 6 then ((allO f l1 deep left).1 && sm k n1 b1 s1 ks1 [], (allO f l1 deep left).2) else
  bif k1 == 7 then (bif keysR [] ks1 && ((ks1.length : Int) == l1.length) then ((allO f l1 deep left).1 && sm k n1 b1 s1 [] [], (allO f l1 deep left).2) else (false, left)) else
  bif k1 == 8 then ((decide (1 ≤ n1) && decide (n1 ≤ 4096)) && sm k 0 b1 s1 ks1 l1, left) else (false, left)
def ogO : Nat → Dat → Int → Int → Bool × Int
  | 0, _, _, left => (false, left)
  | k + 1, d, deep, left => bif decide (left - 1 < 0) then (false, left - 1) else ogS (k + 1) (ogO k) (d.at 0).toI (d.at 2).toI (d.at 1).toB (d.at 3).toS (d.at 4).toL (d.at 5).toL deep (left - 1)
theorem ogO_nrm (k : Nat) (d : Dat) (deep left : Int) : ogO k (nrm d) deep left = ogO k d deep left := by cases k <;> rfl
/-- Keys' lengths. -/
def keyZ : Nat → List Dat → List Dat → Prop
  | 0, _, _ => True
  | k + 1, ks, l => (∀ d ∈ ks, (d.at 0).toS.size ≤ maxLen) ∧ ∀ d ∈ l, keyZ k (d.at 4).toL (d.at 5).toL
def okO' (k : Nat) (ks l : List Dat) (deep left : Int) : Prop := fitO k ks l ∧ keyZ k ks l ∧ 0 ≤ deep ∧ deep ≤ 32 ∧ 0 ≤ left ∧ left ≤ 65536
def okA (k : Nat) (l : List Dat) (deep left : Int) : Prop := (l.length ≤ 1000000 ∧ (∀ d ∈ l, fitO k (d.at 4).toL (d.at 5).toL) ∧ ∀ d ∈ l, keyZ k (d.at 4).toL (d.at 5).toL) ∧ 0 ≤ deep ∧ deep ≤ 32 ∧ 0 ≤ left ∧ left ≤ 65536
def aR (b : Bool) (left : Int) : Option Out := some (.ret (B b) [none, none, some [I left]])
noncomputable def ogE (k : Nat) : List AV → Bx → Option (Bool × Out)
  | [.agg [.v (.int .i64 k1), .v (.bool b1), .v (.int .i64 n1), .v (.string s1), .row none 9 ks1, .row none 43 l1], .v (.int .i64 deep), .box 2 0], [none, none, some [.v (.int .i64 left)]] =>
    some (decP (okO' k ks1 l1 deep left), .ret (B (ogO k (mkO k1 n1 b1 s1 ks1 l1) deep left).1) [none, none, some [I (ogO k (mkO k1 n1 b1 s1 ks1 l1) deep left).2]])
  | _, _ => none
noncomputable def allE (k : Nat) : List AV → Bx → Option (Bool × Out)
  | [.row none 43 l1, .v (.int .i64 deep), .box 2 0], [none, none, some [.v (.int .i64 left)]] =>
    some (decP (okA k l1 deep left), .ret (B (allO (ogO k) l1 deep left).1) [none, none, some [I (allO (ogO k) l1 deep left).2]])
  | _, _ => none
noncomputable def ogC (k : Nat) : CallF := addF 44 (ogE k) fun _ _ _ => none
noncomputable def ogC2 (k : Nat) : CallF := addF 64 (allE k) (addF 27 (sameE (k + 1)) (addF 65 keyedE (addF 63 namedE (addF 62 inE fun _ _ _ => none))))
noncomputable def allL (call : CallF) (m r : Nat) (l1 : List Dat) (deep left i : Int) := loopF PR TK call m 64 [none, none, some [I left]] [true, true, false, true] r (sp 24 [(1, I deep), (2, .box 2 0), (11, .row none 43 l1), (12, I l1.length), (13, I i)] [(2, [I left])])
section
variable (k m r : Nat) (k1 n1 : Int) (b1 : Bool) (s1 : ByteArray) (ks1 l1 : List Dat) (deep left left0 i : Int)
theorem all_0 : evFn PR TK (ogC k) m 64 [.row none 43 l1, I deep, .box 2 0] [none, none, some [I left]] =
    bif decide (deep < 1) then aR false left else allL (ogC k) m m l1 deep left 0 := by kernel_rfl
theorem all_1 : allL (ogC k) m (r + 1) l1 deep left i = bif decide (i < l1.length) then (idx l1 i).bind fun d =>
      bif decP (okO' k (d.at 4).toL (d.at 5).toL (W (deep - 1)) left) then (bif !(ogO k (nrm d) (W (deep - 1)) left).1 then aR false (ogO k (nrm d) (W (deep - 1)) left).2 else allL (ogC k) m r l1 deep (ogO k (nrm d) (W (deep - 1)) left).2 (W (i + 1))) else none
    else aR true left := by kernel_rfl
end
end Go.Proofs.YtckdgcpomkefpaaGreatDoor.En
