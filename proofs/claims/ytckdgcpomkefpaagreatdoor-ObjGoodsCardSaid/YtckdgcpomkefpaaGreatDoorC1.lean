/- Contracts of Go's library, as entries: strings.IndexByte, strconv.Itoa, the builder's copyCheck and String. -/
import Derived.Test.YtckdgcpomkefpaaGreatDoorEn28
import Derived.Test.YtckdgcpomkefpaaGreatDoorShelfB
import Derived.Test.YtckdgcpomkefpaaGreatDoorQ1
import Derived.Shelf.Strings.Builder1
set_option linter.unusedVariables false
set_option linter.unusedSimpArgs false
namespace Go.Proofs.YtckdgcpomkefpaaGreatDoor.En
open Go Go.Shelf Go.RowKit
section
variable {P : Program} {ext call : CallF} {g g' : Gh} {w w' : World} {b bs : Bx}
theorem sound_ext (hext : SoundCall P ext) (f : FuncId) {fn : Func} (hf : P.funcs[f]? = some fn) (hok : (fn.body.isSome && !(fn.name == "runtime.NumGoroutine")) = true) (ent : List AV → Bx → Option (Bool × Out))
    (h : ∀ xs bs out, ent xs bs = some (true, out) → ∀ (g : Gh) (w : World) (vs : Array Value), Mem P g w bs → Laid g w → bs.length = xs.length → vs.size = xs.length →
      (∀ (i : Nat) x, xs[i]? = some x → ∃ v, vs[i]? = some v ∧ RepS P g w x v) → Calls P f vs w (PostOf P g w bs out)) : SoundCall P (addF f ent ext) := fun k xs bs out ho => by
  unfold addF at ho
  cases hg : Nat.beq k f <;> rw [hg] at ho <;> simp only [cond_true, cond_false] at ho
  · exact hext k xs bs out ho
  · have e : k = f := Nat.eq_of_beq_eq_true hg
    subst e
    rw [Bool.and_eq_true, Bool.not_eq_true'] at hok
    refine ⟨⟨fn, hf, hok.1, hok.2⟩, fun gh w vs a1 aL a2 a3 a4 => ?_⟩
    have := h xs bs out ho gh w vs a1 aL a2 a3 a4
    cases out <;> exact this
theorem args_v (l : List Value) {vs : Array Value} (hv : vs.size = (l.map AV.v).length) (hr : ∀ (i : Nat) x, (l.map AV.v)[i]? = some x → ∃ v, vs[i]? = some v ∧ RepS P g w x v) : vs = l.toArray := by
  apply Array.ext_getElem?
  intro i
  cases hi : l[i]? with
  | none =>
    have : l.length ≤ i := List.getElem?_eq_none_iff.1 hi
    rw [Array.getElem?_eq_none (by simp at hv; omega), Array.getElem?_eq_none (by simpa using this)]
  | some x =>
    obtain ⟨v, h1, h2⟩ := hr i (.v x) (by rw [List.getElem?_map, hi]; rfl)
    obtain ⟨rfl, _⟩ := (show v = x ∧ _ from h2)
    rw [h1]; simp [hi]
theorem Mem.still (h : Mem P g w b) (hw : Fr (fun _ _ => False) w w') : Mem P g w' b := by
  have hle : g.Le g w w' := ⟨fun β j hj => ⟨hj, hw.cell (h.gsz β j hj) fun t => t⟩, fun n v hv => hv, fun d β hd => hd⟩
  have same : ∀ β, β < w.heap.size → w'.heap[β]? = w.heap[β]? := fun β hβ => hw.same hβ fun _ t => t
  refine ⟨fun β j hj => Nat.lt_of_lt_of_le (h.gsz β j hj) hw.size, fun d cs hd => ?_, h.apart, fun n v E hn => ?_, h.tkap, h.tkbx⟩
  · obtain ⟨β, us, T, e1, e2, e3, e4, e5⟩ := h.box d cs hd
    have hlt := (Array.getElem?_eq_some_iff.1 e2).1
    exact ⟨β, us, T, e1, (same β hlt).trans e2, e3, e4, fun j c hc => let ⟨u, hu, hr⟩ := e5 j c hc; ⟨u, hu, hr.mono hle⟩⟩
  · exact (h.own n v E hn).keep fun β hβ => ⟨same β ((h.own n v E hn).lt hβ), fun j hj => hj⟩
/-- Nothing has turned, and a value is told. -/
theorem post_v (hm : Mem P g w bs) (hb : ∀ x ∈ bs, x = none) {x : Value} (hx : x.oneCell' = true) (hw : Fr (fun _ _ => False) w w') : PostOf P g w bs (.ret (.v x) bs) (.returned x) w' := by
  have hn : ∀ (d : Nat) cs, bs[d]? = some (some cs) → False := fun d cs h => by have := hb _ (List.mem_of_getElem? h); cases this
  exact ⟨x, g, rfl, hm.still hw, rfl, fun i cs h => ⟨cs, h⟩, ⟨rfl, hx⟩, hw.mono fun _ _ _ t => t.elim, fun _ _ h => h, fun β j h _ => .inl h, fun n y E β h1 h2 => .inr ⟨n, y, E, h1, h2⟩, fun i cs h => rfl, fun i j m cs E l h => (hn i cs h).elim, trivial, trivial⟩
end
/-! ### strings.IndexByte -/
def ixE : List AV → Bx → Option (Bool × Out)
  | [.v (.string s), .v (.int .u8 c)], [none, none] => some (true, .ret (I (Lib.indexByte s.data.toList c.toNat.toUInt8)) [none, none])
  | _, _ => none
theorem ix_sound {ext : CallF} (hext : SoundCall PR ext) : SoundCall PR (addF 95 ixE ext) := by
  refine sound_ext hext _ (fn := (PR.funcs[95]?).getD default) (by kernel_rfl) (by kernel_rfl) ixE fun xs bs out h g w vs hm hL hl hv hr => ?_
  unfold ixE at h
  split at h
  · rename_i s c
    cases h
    obtain rfl := args_v (P := PR) [.string s, .int .u8 c] hv hr
    refine (Tryz.strings_IndexByte s c w).mono fun e w' he => ?_
    obtain ⟨rfl, rfl⟩ := he
    exact post_v hm (by simp) rfl (Fr.refl _ _)
  · cases h
/-! ### strconv.Itoa -/
def digF : Nat → Nat → List UInt8
  | 0, _ => []
  | k + 1, u => bif Nat.blt u 10 then [UInt8.ofNat (48 + u)] else digF k (u / 10) ++ [UInt8.ofNat (48 + u % 10)]
theorem digF_eq : ∀ (k u : Nat), u < 10 ^ (k + 1) → digF (k + 1) u = Lib.decDigits u
  | k, u, h => by
    rw [Lib.decDigits]
    unfold digF
    cases hb : Nat.blt u 10
    · have : ¬ u < 10 := fun e => by have : Nat.blt u 10 = true := Nat.ble_eq_true_of_le e; rw [hb] at this; cases this
      rw [dif_neg this]
      cases k with
      | zero => omega
      | succ k => rw [← digF_eq k (u / 10) (by rw [Nat.pow_succ] at h; omega)]; rfl
    · have : u < 10 := Nat.le_of_ble_eq_true hb
      rw [dif_pos this]; rfl
def itoaF (n : Int) : List UInt8 := bif decide (n < 0) then 45 :: digF 20 n.natAbs else digF 20 n.toNat
def itoaE : List AV → Bx → Option (Bool × Out)
  | [.v (.int .i64 n)], [none] => some (decide (-9223372036854775808 ≤ n) && decide (n ≤ 9223372036854775807), .ret (S ⟨(itoaF n).toArray⟩) [none])
  | _, _ => none
theorem itoaF_eq {n : Int} (h0 : -9223372036854775808 ≤ n) (h1 : n ≤ 9223372036854775807) : itoaF n = Lib.itoa n := by
  unfold itoaF Lib.itoa
  by_cases h : n < 0
  · rw [if_pos h, decide_eq_true h, digF_eq 19 n.natAbs (by omega)]; rfl
  · rw [if_neg h, decide_eq_false h, digF_eq 19 n.toNat (by omega)]; rfl
theorem itoa_sound {ext : CallF} (hext : SoundCall PR ext) : SoundCall PR (addF 58 itoaE ext) := by
  refine sound_ext hext _ (fn := (PR.funcs[58]?).getD default) (by kernel_rfl) (by kernel_rfl) itoaE fun xs bs out h g w vs hm hL hl hv hr => ?_
  unfold itoaE at h
  split at h
  · rename_i n
    injection h with h
    injection h with hc h
    subst h
    rw [Bool.and_eq_true, decide_eq_true_eq, decide_eq_true_eq] at hc
    obtain rfl := args_v (P := PR) [.int .i64 n] hv hr
    rw [itoaF_eq hc.1 hc.2]
    refine (Tryz.strconv_Itoa n hc.1 hc.2 w hL.P.pow).mono fun e w' he => ?_
    obtain ⟨rfl, k, os, rfl⟩ := he
    refine post_v hm (by simp) rfl (Fr.of_below (B := w.heap.size) ⟨rfl, rfl, rfl, by show w.heap.size ≤ (w.heap ++ os).size; simp, fun i hi => ?_⟩ (Nat.le_refl _))
    show (w.heap ++ os)[i]? = w.heap[i]?
    rw [Array.getElem?_append_left hi]
  · cases h
/-! ### the builder -/
def tokOk : Option Nat → Bool | none => true | some m => Nat.beq m (sub 0 1)
theorem tokOk_eq {t : Option Nat} (h : tokOk t = true) {m : Nat} (e : t = some m) : m = sub 0 1 := by
  subst e
  exact Nat.eq_of_beq_eq_true h
def ccE : List AV → Bx → Option (Bool × Out)
  | [.box 0 0], [some [.self T, .row t E l]] => bif Nat.beq T 79 && tokOk t then some (true, .ret (.tup []) [some [.self T, .row t E l]]) else none
  | _, _ => none
theorem one_box {P : Program} {g : Gh} {w : World} {cs : List AV} (hm : Mem P g w [some cs]) {vs : Array Value} (hv : vs.size = 1) (hr : ∀ (i : Nat) x, [AV.box 0 0][i]? = some x → ∃ v, vs[i]? = some v ∧ RepS P g w x v) :
    ∃ (β : Nat) (us : Array Value) (T : TypeId), g.bx 0 = some β ∧ vs = #[.pointer (some ⟨β, 0, none⟩)] ∧ w.heap[β]? = some (.cells us T (0, 0)) ∧ us.size = cs.length ∧ (∀ j, ¬ g.G β j) ∧ ∀ (j : Nat) c, cs[j]? = some c → ∃ u, us[j]? = some u ∧ RepB P g w T β j c u := by
  obtain ⟨β, us, T, e1, e2, e3, e4, e5⟩ := hm.box 0 cs rfl
  refine ⟨β, us, T, e1, ?_, e2, e3, e4, e5⟩
  obtain ⟨v, h1, h2⟩ := hr 0 _ rfl
  obtain ⟨β', h3, rfl⟩ := (show ∃ β, g.bx 0 = some β ∧ v = .pointer (some ⟨β, 0, none⟩) from h2)
  rw [e1] at h3
  cases h3
  apply Array.ext_getElem?
  intro i
  match i with
  | 0 => exact h1
  | i + 1 => rw [Array.getElem?_eq_none (by omega), Array.getElem?_eq_none (by simp)]
theorem cc_sound {ext : CallF} (hext : SoundCall PR ext) : SoundCall PR (addF 96 ccE ext) := by
  refine sound_ext hext _ (fn := (PR.funcs[96]?).getD default) (by kernel_rfl) (by kernel_rfl) ccE fun xs bs out h g w vs hm hL hl hv hr => ?_
  unfold ccE at h
  split at h
  · rename_i T t E l
    obtain ⟨hc, h⟩ := bif_some h
    cases h
    rw [Bool.and_eq_true] at hc
    obtain ⟨β, us, T', e1, rfl, e2, e3, e4, e5⟩ := one_box hm hv hr
    obtain ⟨u0, hu0, hT, hs⟩ := e5 0 _ rfl
    obtain ⟨u1, hu1, hrow⟩ := e5 1 _ rfl
    have hT' : T' = 79 := by rw [← hT]; exact Nat.eq_of_beq_eq_true hc.1
    subst hT'
    have hcell : w.cell? ⟨β, 0, none⟩ = some u0 := by simp [World.cell?, e2, hu0]
    have canon : ∀ (i j m : Nat) cs E' l', [some [AV.self T, .row t E l]][i]? = some (some cs) → cs[j]? = some (.row (some m) E' l') → m = sub i j := fun i j m cs E' l' hi hj => by
      match i, hi with
      | 0, hi =>
        cases hi
        match j, hj with
        | 0, hj => cases hj
        | 1, hj => cases hj; exact tokOk_eq hc.2 rfl
    rcases hs with rfl | rfl
    · refine (Any.Builder_copyCheck_fresh (ρ := Tryz.laysB_ren) { Tryz.laysB with } Tryz.Builder_Extra_B.toX72 β w hcell (by show w.shape? β = some (79, 2); simp [World.shape?, e2, e3]) (by simp [World.frozen?, e2])).mono fun e w' he => ?_
      obtain ⟨rfl, rfl⟩ := he
      have hβ := (Array.getElem?_eq_some_iff.1 e2).1
      have hnew : (w.setCell ⟨β, 0, none⟩ (.pointer (some ⟨β, 0, none⟩))).heap[β]? = some (.cells (us.setIfInBounds 0 (.pointer (some ⟨β, 0, none⟩))) 79 (0, 0)) := by
        simp [World.setCell, Array.getElem?_modify, e2]
      have hold : ∀ k, k ≠ β → (w.setCell ⟨β, 0, none⟩ (.pointer (some ⟨β, 0, none⟩))).heap[k]? = w.heap[k]? := fun k hk => by
        simp only [World.setCell, Array.getElem?_modify]
        rw [if_neg (fun e => hk e.symm)]
      have hle : g.Le g w (w.setCell ⟨β, 0, none⟩ (.pointer (some ⟨β, 0, none⟩))) := ⟨fun k j hj => ⟨hj, World.cell?_of_block (a := ⟨k, j, none⟩) (hold k fun e => e4 j (e ▸ hj))⟩, fun n v hv => hv, fun d k hd => hd⟩
      refine ⟨_, g, rfl, ⟨fun k j hj => ?_, fun d cs hd => ?_, hm.apart, fun n v E' hn => ?_, hm.tkap, hm.tkbx⟩, rfl, fun i cs h => ⟨cs, h⟩, ?_, ⟨rfl, rfl, rfl, ?_, fun k o ho => ?_⟩, fun _ _ h => h, fun k j h _ => .inl h, fun n y E' k h1 h2 => .inr ⟨n, y, E', h1, h2⟩, fun i cs h => rfl, canon, ?_, fun j m E l h => by simp at h⟩
      · have := hm.gsz k j hj; simpa [World.setCell] using this
      · match d, hd with
        | 0, hd =>
          cases hd
          refine ⟨β, _, _, e1, hnew, by simpa using e3, e4, fun j c hj => ?_⟩
          match j, hj with
          | 0, hj => cases hj; exact ⟨.pointer (some ⟨β, 0, none⟩), by simp [Array.getElem?_setIfInBounds, e3], hT, .inr rfl⟩
          | 1, hj => cases hj; exact ⟨u1, by simpa [Array.getElem?_setIfInBounds] using hu1, hrow.mono hle⟩
      · exact (hm.own n v E' hn).keep fun k hk => ⟨hold k fun e => hm.tkbx n v E' k 0 _ hn hk rfl (e ▸ e1), fun j hj => hj⟩
      · exact ⟨#[], rfl, rfl, fun j x hj => by simp at hj⟩
      · simp [World.setCell]
      · by_cases hk : k = β
        · subst hk
          rw [e2] at ho
          cases ho
          exact .inr ⟨us, _, (0, 0), _, (0, 0), rfl, hnew, by simp, fun j hj => absurd (.inl ⟨0, _, rfl, e1⟩) hj, fun _ => rfl⟩
        · exact .inl ((hold k hk).trans ho)
      · exact ⟨fun j d o => by simp, fun j cs h => by simp at h, fun j j' m E l E' l' h => by simp at h⟩
    · refine (Any.Builder_copyCheck_used (ρ := Tryz.laysB_ren) { Tryz.laysB with } Tryz.Builder_Extra_B.toX72 β w hcell).mono fun e w' he => ?_
      obtain ⟨rfl, rfl⟩ := he
      refine ⟨_, g, rfl, hm, rfl, fun i cs h => ⟨cs, h⟩, ⟨#[], rfl, rfl, fun j x hj => by simp at hj⟩, (Fr.refl _ _), fun _ _ h => h, fun k j h _ => .inl h, fun n y E' k h1 h2 => .inr ⟨n, y, E', h1, h2⟩, fun i cs h => rfl, canon, ?_, fun j m E l h => by simp at h⟩
      exact ⟨fun j d o => by simp, fun j cs h => by simp at h, fun j j' m E l E' l' h => by simp at h⟩
  · cases h
set_option maxHeartbeats 1000000 in
/-- String, walked: the bytes, which are frozen. -/
theorem str_walk {P : Program} {ρ : Ren} (L : Lays.n169 P ρ) (X : Builder.Extra P ρ) (b g cap : Nat) (cur : Array Value) (l : List UInt8) (h0 : l ≠ []) (w : World) (hb : w.cell? ⟨b, 1, none⟩ = some (.slice (some ⟨g, 0, none⟩) l.length cap)) (hcap : l.length ≤ cap) (hg : w.heap[g]? = some (.cells cur (ρ.t 5) (0, 0)))
    (hsz : l.length ≤ cur.size) (h63 : l.length ≤ 9223372036854775807) (hcell : ∀ (j : Nat) x, l[j]? = some x → w.cell? ⟨g, j, none⟩ = some (.int .u8 x.toNat)) :
    Calls P (ρ.f 169) #[.pointer (some ⟨b, 0, none⟩)] w fun e w' => e = .returned (.string ⟨l.toArray⟩) ∧ w' = w.drew.freeze ⟨g, 0, none⟩ l.length := by
  have hl0 : l.length ≠ 0 := by simpa using h0
  have c1 : w.drew.cell? ⟨b, 1, none⟩ = some (.slice (some ⟨g, 0, none⟩) l.length cap) := hb
  have hSD : (Builtin.unsafeSliceData_ #[(ρ.t 37)] (ρ.t 127) #[.slice (some ⟨g, 0, none⟩) l.length cap]).run P w.drew = .ok (.pointer (some ⟨g, 0, none⟩)) w.drew :=
    Lib.run_unsafeSliceData_row _ _ _ _ _ _ (by omega)
  have hUS : (Builtin.unsafeString_ #[(ρ.t 127), (ρ.t 3)] (ρ.t 9) #[.pointer (some ⟨g, 0, none⟩), .int .i64 l.length]).run P w.drew = .ok (.string ⟨l.toArray⟩) (w.drew.freeze ⟨g, 0, none⟩ l.length) := by
    refine Lib.run_unsafeString_row w.drew (ρ.t 127) (ρ.t 3) (ρ.t 9) (ρ.t 5) L.t127 X.cellsByte g cur.size (by have hg' : w.drew.heap[g]? = some (.cells cur (ρ.t 5) (0, 0)) := hg; simp [World.shape?, hg']) l h0 hsz h63 ?_
    intro j x hx
    have e : (⟨g, 0, none⟩ : Addr).add j = ⟨g, j, none⟩ := by
      by_cases hj : j = 0
      · subst hj; simp [Addr.add]
      · simp [Addr.add, hj]
    rw [e]
    exact hcell j x hx
  clear hcap hb hcell h63 hsz
  have mixed := L.mixed
  have t72 := L.t72; have a72 := L.a72; have z72 := L.z72; have v72 := L.v72; have u72 := run_underlying L.t72
  have t70 := L.t70; have a70 := L.a70; have z70 := L.z70; have v70 := L.v70; have u70 := run_underlying L.t70
  have t37 := L.t37; have a37 := L.a37; have z37 := L.z37; have v37 := L.v37; have u37 := run_underlying L.t37
  have t127 := L.t127; have a127 := L.a127; have z127 := L.z127; have v127 := L.v127; have u127 := run_underlying L.t127
  have t3 := L.t3; have a3 := L.a3; have z3 := L.z3; have v3 := L.v3; have u3 := run_underlying L.t3
  have t9 := L.t9; have a9 := L.a9; have z9 := L.z9; have v9 := L.v9; have u9 := run_underlying L.t9
  have t5 := X.t5; have a5 := X.a5; have z5 := X.z5; have v5 := X.v5; have u5 := run_underlying X.t5
  go_enter L.f169, Body.n169_ntmps ρ
  go_wp2
  go_region_o
  all_goals (go_wp2; go_ret; exact ⟨rfl, rfl⟩)
def bytesOk (l : List Dat) : Bool := l.all fun d => decide (0 ≤ (d.at 0).toI) && decide ((d.at 0).toI < 256)
/-- String, of a builder that holds something: the bytes; nothing may be written behind it. -/
def strE : List AV → Bx → Option (Bool × Out)
  | [.box 0 0], [some [.self T, .row (some m) E l]] => bif Nat.beq m (sub 0 1) && Nat.beq E 5 then some (bytesOk l && (Nat.blt 0 l.length && Nat.ble l.length 9223372036854775807), .ret (S (bytesOf l)) [some [.self T, .row none E l]]) else none
  | _, _ => none
theorem kinds_u8 : kinds PR 5 = some [.int .u8] := by kernel_rfl
theorem str_sound {ext : CallF} (hext : SoundCall PR ext) : SoundCall PR (addF 47 strE ext) := by
  refine sound_ext hext _ (fn := (PR.funcs[47]?).getD default) (by kernel_rfl) (by kernel_rfl) strE fun xs bs out h g w vs hm hL hl hv hr => ?_
  unfold strE at h
  split at h
  · rename_i T m E l
    obtain ⟨hc, h⟩ := bif_some h
    injection h with h
    injection h with hd h
    subst h
    rw [Bool.and_eq_true] at hc
    have hm1 := Nat.eq_of_beq_eq_true hc.1
    have hE := Nat.eq_of_beq_eq_true hc.2
    subst hm1 hE
    simp only [Bool.and_eq_true] at hd
    obtain ⟨hby, hpos, h63⟩ := hd
    have hpos : 0 < l.length := Nat.le_of_ble_eq_true hpos
    have h63 : l.length ≤ 9223372036854775807 := Nat.le_of_ble_eq_true h63
    obtain ⟨β, us, T', e1, rfl, e2, e3, e4, e5⟩ := one_box hm hv hr
    obtain ⟨u0, hu0, hself⟩ := e5 0 _ rfl
    obtain ⟨u1, hu1, hrow, htk⟩ := e5 1 _ rfl
    have htok := htk _ rfl
    have hcell : w.cell? ⟨β, 1, none⟩ = some u1 := by simp [World.cell?, e2, hu1]
    obtain ⟨A, cap0, hsl⟩ := hrow.slice
    rcases hm.own _ _ _ htok with hn | ⟨β2, n, cap, cur, ks, hv2, hblk, hks, hncap, hcm, hcur, hfree⟩
    · rw [hn] at hsl
      injection hsl with _ hz _
      omega
    rw [kinds_u8] at hks
    cases hks
    have hne : β2 ≠ β := fun e => hm.tkbx _ _ _ β 0 _ htok (by rw [hv2, e]; rfl) rfl e1
    have hnl : n = l.length := by rw [hv2] at hsl; injection hsl with _ hz _
    subst hnl
    let bl : List UInt8 := l.map fun d => UInt8.ofNat (d.at 0).toI.toNat
    have hbl : bl.length = l.length := by simp [bl]
    have hcells : ∀ (j : Nat) x, bl[j]? = some x → w.cell? ⟨β2, j, none⟩ = some (.int .u8 x.toNat) := fun j x hx => by
      obtain ⟨d, hd, rfl⟩ := Option.map_eq_some_iff.1 ((List.getElem?_map ..).symm.trans hx)
      have hjl := (List.getElem?_eq_some_iff.1 hd).1
      rw [hv2] at hrow
      cases hrow with
      | nil => simp at hjl
      | mk _ _ _ off cap' ks vals hk hlen hcc hss hrr =>
        rw [kinds_u8] at hk
        cases hk
        obtain ⟨c1, c2, c3⟩ := hcc j 0 hjl (by simp)
        have hsc := hss j 0 d (.int .u8) hd rfl
        have : vals j 0 = .int .u8 (d.at 0).toI := hsc
        rw [this] at c2
        have hb := List.all_eq_true.1 hby d (List.mem_of_getElem? hd)
        rw [Bool.and_eq_true, decide_eq_true_eq, decide_eq_true_eq] at hb
        have e : ((UInt8.ofNat (d.at 0).toI.toNat).toNat : Int) = (d.at 0).toI := by
          rw [UInt8.toNat_ofNat_of_lt' (by show (d.at 0).toI.toNat < 256; omega)]
          omega
        rw [e]
        simpa using c2
    have hw := str_walk Tryz.lays169 Tryz.Builder_Extra_169 β β2 cap cur bl (by intro e; rw [e] at hbl; simp at hbl; omega) w (by rw [hcell, hv2, hbl]) (by omega) hblk (by rw [hbl]; simp at hcur; omega) (by omega) hcells
    refine hw.mono fun e w' he => ?_
    obtain ⟨rfl, rfl⟩ := he
    have hheap : ∀ k, (w.drew.freeze ⟨β2, 0, none⟩ bl.length).heap[k]? = if k = β2 then some (.cells cur 5 (0, 0 + bl.length)) else w.heap[k]? := fun k => by
      have hz : bl.length ≠ 0 := by omega
      unfold World.freeze
      rw [if_neg hz]
      show (w.heap.modify β2 _)[k]? = _
      rw [Array.getElem?_modify]
      by_cases hk : k = β2
      · subst hk
        rw [if_pos rfl, if_pos rfl, hblk]; rfl
      · rw [if_neg (fun e => hk e.symm), if_neg hk]
    have hcl : ∀ k j, (w.drew.freeze ⟨β2, 0, none⟩ bl.length).cell? ⟨k, j, none⟩ = w.cell? ⟨k, j, none⟩ := fun k j => by
      unfold World.cell?
      rw [hheap]
      by_cases hk : k = β2
      · subst hk; rw [if_pos rfl, hblk]
      · rw [if_neg hk]
    have hle : (⟨g.G, fun _ => none, g.bx⟩ : Gh).G = g.G := rfl
    have hsize : (w.drew.freeze ⟨β2, 0, none⟩ bl.length).heap.size = w.heap.size := by
      unfold World.freeze
      split
      · rfl
      · show (w.heap.modify β2 _).size = w.heap.size
        simp
    have hhe : ∀ k, k ≠ β2 → (w.drew.freeze ⟨β2, 0, none⟩ bl.length).heap[k]? = w.heap[k]? := fun k hk => by rw [hheap, if_neg hk]
    refine ⟨_, ⟨g.G, fun _ => none, g.bx⟩, rfl, ⟨fun k j hj => ?_, fun d cs hd => ?_, fun d d' k cs cs' h h' => ?_, fun n v E' hn => (by cases hn), fun n m v v' E E' k h => (by cases h), fun n v E k d cs h => (by cases h)⟩, rfl, fun i cs h => ?_, ⟨?_, rfl⟩, ⟨?_, ?_, ?_, ?_, fun k o ho => ?_⟩, fun _ _ h => h, fun k j h _ => .inl h, fun n y E' k h1 h2 => (by cases h1), fun i cs h => rfl, fun i j m cs E' l' hi hj => ?_, trivial, trivial⟩
    · rw [hsize]; exact hm.gsz k j hj
    · match d, hd with
      | 0, hd =>
        cases hd
        refine ⟨β, us, T', e1, (hhe β (Ne.symm hne)).trans e2, e3, e4, fun j c hj => ?_⟩
        match j, hj with
        | 0, hj => cases hj; exact ⟨u0, hu0, hself⟩
        | 1, hj => cases hj; exact ⟨u1, hu1, hrow.mono fun k j hj => ⟨hj, hcl k j⟩, fun n hn => by cases hn⟩
    · match d, d', h, h' with
      | 0, 0, h, h' => intro _ _; rfl
    · match i, h with
      | 0, h => exact ⟨_, rfl⟩
    · show Value.string ⟨bl.toArray⟩ = Value.string (bytesOf l)
      rfl
    · unfold World.freeze; split <;> rfl
    · unfold World.freeze; split <;> rfl
    · unfold World.freeze; split <;> rfl
    · rw [hsize]; exact Nat.le_refl _
    · by_cases hk : k = β2
      · subst hk
        rw [hblk] at ho
        cases ho
        refine .inr ⟨cur, _, (0, 0), cur, _, rfl, (hheap k).trans (if_pos rfl), rfl, fun _ _ => rfl, fun hn => ?_⟩
        exact absurd (.inr ⟨⟨_, _, _, htok, by rw [hv2]; rfl⟩, hfree l.length (by simp)⟩) (hn l.length)
      · exact .inl ((hhe k hk).trans ho)
    · match i, hi with
      | 0, hi =>
        cases hi
        match j, hj with
        | 0, hj => cases hj
        | 1, hj => cases hj
  · cases h
end Go.Proofs.YtckdgcpomkefpaaGreatDoor.En
