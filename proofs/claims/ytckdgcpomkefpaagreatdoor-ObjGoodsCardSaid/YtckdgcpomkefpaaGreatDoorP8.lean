/- colophonlaw05.ObjGoods is true of every two objects. -/
import Derived.Test.YtckdgcpomkefpaaGreatDoorP7
import Derived.Test.YtckdgcpomkefpaaGreatDoorO5
set_option linter.unusedVariables false
set_option linter.unusedSimpArgs false
set_option maxRecDepth 100000
namespace Go.Proofs.YtckdgcpomkefpaaGreatDoor.En
open Go Go.RowKit
noncomputable def callH : CallF := addF 23 wakesE (addF 22 LargeE (addF 25 (copyE 101) (addF 24 GoodE (addF 26 rGoodE (addF 27 (sameE 101) (addF 28 (sameE 101) fun _ _ _ => none))))))
theorem callH_sound : SoundCall PR callH :=
  sound_both wakes_sound (sound_both Large_sound (sound_both (copy_sound sound_none 101) (sound_both Good_sound (sound_both rGood_sound (sound_both (osame_sound sound_none 101) (same_sound sound_none 101))))))
def big (k1 n1 : Int) (b1 : Bool) (s1 : ByteArray) (ks1 l1 : List Dat) : Bool := decide (largeO 102 (mkO k1 n1 b1 s1 ks1 l1) 0 0 < 0)
def cp (l : List Dat) : List Dat := l.map (copyO 100)
section
variable (m : Nat) (k1 n1 k2 n2 : Int) (b1 b2 : Bool) (s1 s2 : ByteArray) (ks1 l1 ks2 l2 : List Dat)
noncomputable def goods2 : Option Out :=
  bif fitB 101 ks1 l1 then (bif decP (okO' 101 ks1 (cp l1) 32 65536) then (bif decP (okG 101 ks1 l1 0 0) then
    (bif (((ogO 101 (mkO k1 n1 b1 s1 ks1 (cp l1)) 32 65536).1 == decide (goodO 101 (mkO k1 n1 b1 s1 ks1 l1) 0 0 > 0)) == true) then
      (bif fitB 101 ks1 l1 then (bif fitB 101 ks2 l2 then
        (bif fitB 101 ks1 (cp l1) then (bif fitB 101 ks1 l1 then some (sameO 101 (mkO k1 n1 b1 s1 ks1 (cp l1)) (mkO k2 n2 b2 s2 ks2 (cp l2)) == sameO 101 (mkO k1 n1 b1 s1 ks1 l1) (mkO k2 n2 b2 s2 ks2 l2)) else none) else none).bind fun t =>
          bif (t == true) then (bif fitB 101 ks1 l1 then (bif fitB 101 ks1 l1 then
            ((bif fitB 101 ks1 (cp l1) then some (sameO 101 (mkO k1 n1 b1 s1 ks1 (cp l1)) (mkO k1 n1 b1 s1 ks1 (cp l1))) else none).bind fun t => (bif t then some true else some false).bind fun t => some (.ret (B t) [none, none])) else none) else none)
          else some (.ret (B false) [none, none]) else none) else none)
    else some (.ret (B false) [none, none])) else none) else none) else none
theorem goods_0 : evFn PR TK callH m 5 [.agg (obA k1 n1 b1 s1 ks1 l1), .agg (obA k2 n2 b2 s2 ks2 l2)] [none, none] =
  bif zB 102 s1 ks1 l1 0 0 then (orO (big k1 n1 b1 s1 ks1 l1) (bif zB 102 s2 ks2 l2 0 0 then some (big k2 n2 b2 s2 ks2 l2) else none) fun t => bif t then some (.ret (B true) [none, none]) else
    goods2 k1 n1 k2 n2 b1 b2 s1 s2 ks1 l1 ks2 l2) else none := by kernel_rfl
end
theorem sameO_cc : ∀ (k : Nat) (a b : Dat), sameO k (copyO k a) (copyO k b) = sameO k a b
  | 0, a, b => rfl
  | k + 1, a, b => by
    have hl : ∀ l m : List Dat, allEq (sameO k) (l.map (copyO k)) (m.map (copyO k)) = allEq (sameO k) l m := fun l => by
      induction l with
      | nil => intro m; cases m <;> rfl
      | cons d l ih =>
        intro m
        cases m with
        | nil => rfl
        | cons e m => rw [List.map_cons, List.map_cons, allEq, allEq, sameO_cc k d e, ih m]
    show (((a.at 0).toI == (b.at 0).toI) && (((a.at 1).toB == (b.at 1).toB) && (((a.at 2).toI == (b.at 2).toI) && (((a.at 3).toS.toList == (b.at 3).toS.toList) && (keysEq (a.at 4).toL (b.at 4).toL && allEq (sameO k) ((a.at 5).toL.map (copyO k)) ((b.at 5).toL.map (copyO k))))))) = _
    rw [hl]; rfl
theorem sameO_refl : ∀ (k : Nat) (d : Dat), fitO k (d.at 4).toL (d.at 5).toL → sameO k d d = true
  | 0, d, h => h.elim
  | k + 1, d, h => by
    obtain ⟨h1, h2, h3⟩ := h
    have hl : ∀ l : List Dat, (∀ e ∈ l, fitO k (e.at 4).toL (e.at 5).toL) → allEq (sameO k) l l = true := fun l => by
      induction l with
      | nil => intro _; rfl
      | cons e l ih =>
        intro hl
        rw [allEq, sameO_refl k e (hl e (by simp)), ih fun x hx => hl x (by simp [hx])]
        rfl
    unfold sameO
    rw [hl _ h3, keysEq_refl]
    simp
theorem flatB_len {k1 n1 : Int} {b1 : Bool} {s1 : ByteArray} {ks1 l1 l2 : List Dat} (h : l1.length = l2.length) : flatB k1 n1 b1 s1 ks1 l1 = flatB k1 n1 b1 s1 ks1 l2 := by
  unfold flatB bareB kindB
  rw [h]
theorem goodO_copy : ∀ (k : Nat) (d : Dat) (nest ahead : Int), goodO k (copyO k d) nest ahead = goodO k d nest ahead
  | 0, d, nest, ahead => rfl
  | k + 1, d, nest, ahead => by
    have hl : ∀ (nest : Int) (l : List Dat) (n : Int), itemsG (fun e n => goodO k e nest n) (l.map (copyO k)) n = itemsG (fun e n => goodO k e nest n) l n := fun nest l => by
      induction l with
      | nil => intro n; rfl
      | cons d l ih =>
        intro n
        rw [List.map_cons]
        show (bif decide (goodO k (copyO k d) nest n < 0) then -1 else itemsG (fun e n => goodO k e nest n) (l.map (copyO k)) (goodO k (copyO k d) nest n)) = (bif decide (goodO k d nest n < 0) then -1 else itemsG (fun e n => goodO k e nest n) l (goodO k d nest n))
        rw [goodO_copy k d, ih]
    have hf : flatD (copyO (k + 1) d) = flatD d := flatB_len (by show ((d.at 5).toL.map (copyO k)).length = _; rw [List.length_map])
    unfold goodO
    rw [hf]
    show (bif decide (ahead + 1 > 65536) || !flatD d then -1 else bif (d.at 0).toI == 6 || (d.at 0).toI == 7 then (bif decide (nest + 1 > 32) then -1 else itemsG (fun e n => goodO k e (nest + 1) n) ((d.at 5).toL.map (copyO k)) (ahead + 1)) else itemsG (fun e n => goodO k e nest n) ((d.at 5).toL.map (copyO k)) (ahead + 1)) = _
    rw [hl, hl]
theorem keyZ_copy : ∀ (k j : Nat) (ks l : List Dat), keyZ k ks l → keyZ k ks (l.map (copyO j))
  | 0, j, ks, l, h => trivial
  | k + 1, j, ks, l, h => by
    refine ⟨h.1, fun e he => ?_⟩
    obtain ⟨d, hd, rfl⟩ := List.mem_map.1 he
    have := h.2 d hd
    cases j with
    | zero => exact this
    | succ j => exact keyZ_copy k j (d.at 4).toL (d.at 5).toL this
theorem keyZ_of : ∀ (k : Nat) (s : ByteArray) (ks l : List Dat), fitZ k s ks l → keyZ k ks l
  | 0, s, ks, l, _ => trivial
  | k + 1, s, ks, l, h => by
    obtain ⟨h1, h2, h3, h4, h5⟩ := h
    exact ⟨fun d hd => Nat.le_trans (h4 d hd) (by unfold maxLen; decide), fun d hd => keyZ_of k _ _ _ (h5 d hd)⟩
theorem goods_run {m : Nat} {k1 n1 k2 n2 : Int} {b1 b2 : Bool} {s1 s2 : ByteArray} {ks1 l1 ks2 l2 : List Dat} (hz1 : ∀ k, fitZ k s1 ks1 l1) (hz2 : ∀ k, fitZ k s2 ks2 l2) :
    evFn PR TK callH m 5 [.agg (obA k1 n1 b1 s1 ks1 l1), .agg (obA k2 n2 b2 s2 ks2 l2)] [none, none] = some (.ret (B true) [none, none]) := by
  rw [goods_0]
  have z1 : zB 102 s1 ks1 l1 0 0 = true := decP_eq ⟨by decide, by decide, by decide, by decide, by decide, hz1 102⟩
  have z2 : zB 102 s2 ks2 l2 0 0 = true := decP_eq ⟨by decide, by decide, by decide, by decide, by decide, hz2 102⟩
  rw [z1, z2, cond_true, cond_true, orO_eq]
  cases hb1 : big k1 n1 b1 s1 ks1 l1
  · cases hb2 : big k2 n2 b2 s2 ks2 l2
    · have hL1 := of_decide_eq_false hb1
      have hL2 := of_decide_eq_false hb2
      have f1 : fitO 101 ks1 l1 := (large_fit 101 102 (mkO k1 n1 b1 s1 ks1 l1) 0 0 (by decide) (by decide) (by decide) (by omega)).2
      have f2 : fitO 101 ks2 l2 := (large_fit 101 102 (mkO k2 n2 b2 s2 ks2 l2) 0 0 (by decide) (by decide) (by decide) (by omega)).2
      have c1 : fitO 101 ks1 (cp l1) := fitO_copy 101 (mkO k1 n1 b1 s1 ks1 l1) f1
      have hok : okO' 101 ks1 (cp l1) 32 65536 := ⟨c1, keyZ_copy 101 100 ks1 l1 (keyZ_of 101 s1 ks1 l1 (hz1 101)), by decide, by decide, by decide, by decide⟩
      have hg : okG 101 ks1 l1 0 0 := ⟨f1, by decide, by decide, by decide, by decide⟩
      have e1 : (ogO 101 (mkO k1 n1 b1 s1 ks1 (cp l1)) 32 65536).1 = decide (goodO 101 (mkO k1 n1 b1 s1 ks1 l1) 0 0 > 0) := by
        rw [Good_eq]
        have : goodO 101 (mkO k1 n1 b1 s1 ks1 (cp l1)) 0 0 = goodO 101 (mkO k1 n1 b1 s1 ks1 l1) 0 0 := goodO_copy 101 (mkO k1 n1 b1 s1 ks1 l1) 0 0
        rw [this]
      have e2 : sameO 101 (mkO k1 n1 b1 s1 ks1 (cp l1)) (mkO k2 n2 b2 s2 ks2 (cp l2)) = sameO 101 (mkO k1 n1 b1 s1 ks1 l1) (mkO k2 n2 b2 s2 ks2 l2) := sameO_cc 101 (mkO k1 n1 b1 s1 ks1 l1) (mkO k2 n2 b2 s2 ks2 l2)
      have e3 : sameO 101 (mkO k1 n1 b1 s1 ks1 (cp l1)) (mkO k1 n1 b1 s1 ks1 (cp l1)) = true := by
        have h1 : sameO 101 (mkO k1 n1 b1 s1 ks1 (cp l1)) (mkO k1 n1 b1 s1 ks1 (cp l1)) = sameO 101 (mkO k1 n1 b1 s1 ks1 l1) (mkO k1 n1 b1 s1 ks1 l1) := sameO_cc 101 (mkO k1 n1 b1 s1 ks1 l1) (mkO k1 n1 b1 s1 ks1 l1)
        rw [h1]
        exact sameO_refl 101 _ f1
      rw [Bool.or_self, cond_false]
      unfold goods2
      rw [fitB_eq f1, fitB_eq f2, fitB_eq c1, decP_eq hok, decP_eq hg, e1, e2, e3]
      simp only [cond_true, beq_self_eq_true, Option.bind_some]
    · rfl
  · rfl
noncomputable def goodsE : List AV → Bx → Option (Bool × Out)
  | [.agg [.v (.int .i64 k1), .v (.bool b1), .v (.int .i64 n1), .v (.string s1), .row none 9 ks1, .row none 43 l1], .agg [.v (.int .i64 k2), .v (.bool b2), .v (.int .i64 n2), .v (.string s2), .row none 9 ks2, .row none 43 l2]], [none, none] =>
    some (decP (∀ k, fitZ k s1 ks1 l1) && decP (∀ k, fitZ k s2 ks2 l2), .ret (B true) [none, none])
  | _, _ => none
theorem goods_sound : SoundCall PR (addF 5 goodsE callH) := by
  refine sound_add (takes := TK) hmixP callH_sound _ (fn := (PR.funcs[5]?).getD default) (by kernel_rfl) (by kernel_rfl) goodsE fun xs bs out h => ?_
  unfold goodsE at h
  split at h
  · injection h with h
    injection h with h1 h2
    subst h2
    rw [Bool.and_eq_true] at h1
    exact ⟨1, goods_run (decP_of h1.1) (decP_of h1.2)⟩
  · cases h
theorem goods_ent (k1 n1 k2 n2 : Int) (b1 b2 : Bool) (s1 s2 : ByteArray) (ks1 l1 ks2 l2 : List Dat) : addF 5 goodsE callH 5 [.agg (obA k1 n1 b1 s1 ks1 l1), .agg (obA k2 n2 b2 s2 ks2 l2)] [none, none] = some (decP (∀ k, fitZ k s1 ks1 l1) && decP (∀ k, fitZ k s2 ks2 l2), .ret (B true) [none, none]) := by kernel_rfl
theorem goods_calls {W : World} (hW : GW W) {ds ds' : List Dat} {cs cs' : Array Value} (h : Opn PR W ksO ds cs.toList) (h' : Opn PR W ksO ds' cs'.toList) :
    Calls PR 5 #[.agg cs, .agg cs'] W fun e w' => e = .returned (.bool true) ∧ Below W.heap.size W w' := by
  obtain ⟨k, n, b, s, ks, l, hr, hz⟩ := obj_opn h
  obtain ⟨k', n', b', s', ks', l', hr', hz'⟩ := obj_opn h'
  refine calls_v goods_sound (f := 5) (xs := [.agg (obA k n b s ks l), .agg (obA k' n' b' s' ks' l')]) (bs := [none, none]) (bs' := [none, none]) ?_ (by simp) rfl hW rfl (fun i x hi => ?_)
  · rw [goods_ent, decP_eq hz, decP_eq hz']; rfl
  · match i, hi with
    | 0, hi => cases hi; exact ⟨_, rfl, hr⟩
    | 1, hi => cases hi; exact ⟨_, rfl, hr'⟩
end Go.Proofs.YtckdgcpomkefpaaGreatDoor.En
