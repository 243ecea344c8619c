/- Every operation follows the plain evaluator. -/
import Derived.Test.YtckdgcpomkefpaaGreatDoorEn10
set_option linter.unusedVariables false
set_option linter.unusedSimpArgs false
namespace Go.Proofs.YtckdgcpomkefpaaGreatDoor.En
open Go
section
variable {P : Program} {F : Fx} {g : Gh} {s : St} {a : Act} {w : World}

theorem map_get {xs : Array Operand} (h : Inv P F g s a w) (hok : ∀ y ∈ xs.toList, okO y = true) (i : Nat) (x : AV) (hi : (xs.toList.map s.ev)[i]? = some x) : ∃ v, (xs.map a.eval)[i]? = some v ∧ RepS P g w x v := by
  rw [List.getElem?_map] at hi
  obtain ⟨y, hy, rfl⟩ := Option.map_eq_some_iff.1 hi
  refine ⟨a.eval y, ?_, h.ev y (hok y (List.mem_of_getElem? hy))⟩
  rw [Array.getElem?_map, ← Array.getElem?_toList, hy]
  rfl
theorem bif_some {β : Type} {c : Bool} {x : Option β} {o : β} (h : (bif c then x else none) = some o) : c = true ∧ x = some o := by
  cases c
  · cases h
  · exact ⟨rfl, h⟩
theorem append_run {Ts : Array TypeId} {ty : TypeId} {y z : Operand} {dst : Option Tmp} {pos : String} {after : Array Edge} {guard : Option (Nat × Bool)} {v : Value} {w' : World}
    (h : (Builtin.append_ Ts ty #[a.eval y, a.eval z]).run P w = .ok v w') : (execOp a.eval ⟨dst, .call { callee := .builtin .append, args := #[y, z], argTypes := Ts }, ty, pos, after, guard⟩).run P w = .ok (.value v) w' := by
  simp [execOp, resolve, invoke, builtin, h]
theorem Fr.dead {T : Nat → Nat → Prop} (h : Inv P F g s a w) : Fr F.T F.w0 w := h.fr
theorem evX_sound {β : Type} {takes : FuncId → Option Nat} {call : CallF} {thr : Value → Option β} {o : Oper} {k : St → Option β} {out : β} (hcall : SoundCall P call) (h : Inv P F g s a w) (hok : okOp o = true)
    (hx : evX P F.np takes call thr o s k = some out) {K : Act → World → Prop} {Q : Exit → Act → World → Prop}
    (hk : ∀ g' s' a' w', k s' = some out → Inv P F g' s' a' w' → K a' w') (ht : ∀ v a' w', thr v = some out → a'.defers = F.ds → Fr F.T F.w0 w' → Q (.panic [{ v := v, recovered := false }]) a' w') : o.wp P a w K Q := by
  have hev := fun (y : Operand) (hy : y ∈ o.op.operands.toList) => h.ev y (okOp_mem hok hy)
  obtain ⟨dst, op, ty, pos, after, guard⟩ := o
  unfold evX at hx
  simp only [appendK_eq] at hx
  (try dsimp only at hx)
  split at hx
  case h_1 y d =>
    obtain ⟨g', hI⟩ := h.assign (T := ty) (d := d) (hev y (by simp [Op.operands]))
    exact wp_value (v := a.eval y) (w' := w) rfl (hk _ _ _ _ hx hI)
  case h_2 T d =>
    obtain ⟨z, hz, hx⟩ := Option.bind_eq_some_iff.1 hx
    obtain ⟨ks, hks, hx⟩ := Option.bind_eq_some_iff.1 hx
    cases hc : (Nat.ble F.np d && Nat.ble ks.length 1024 && Nat.beq z.length ks.length && Nat.blt d s.t.length) <;> rw [hc] at hx
    · cases hx
    simp only [Bool.and_eq_true] at hc
    obtain ⟨zv, z1, z2, z3⟩ := zero_rep (P := P) (w := w) hz
    obtain ⟨g', hI⟩ := h.newBox (Nat.le_of_ble_eq_true hc.1.1.1) (Nat.le_of_ble_eq_true hc.2) (Push.alloc w (.cells zv.cells T (0, 0))) (ks := ks) (cs := z) (Nat.le_of_ble_eq_true hc.1.1.2) (Nat.eq_of_beq_eq_true hc.1.2).symm z2 (fun j c hj => by
      obtain ⟨u, q1, rfl, q2⟩ := z3 j c hj
      exact ⟨u, q1, rfl, q2⟩)
    refine wp_value (v := .pointer (some ⟨w.heap.size, 0, none⟩)) (w' := w.alloc (.cells zv.cells T (0, 0))) ?_ (hk _ _ _ _ hx hI)
    simp [execOp, Instr.alloc, z1, newVar, newRow]
  case h_3 T y d =>
    obtain ⟨ks, hks, hx⟩ := Option.bind_eq_some_iff.1 hx
    cases hc : (Nat.ble F.np d && Nat.ble ks.length 1024 && Nat.beq (s.ev y).cells.length ks.length && (s.ev y).cells.all AV.one && Nat.blt d s.t.length) <;> rw [hc] at hx
    · cases hx
    simp only [Bool.and_eq_true] at hc
    obtain ⟨c1, c2⟩ := cells_rep (hev y (by simp [Op.operands])) hc.1.2
    obtain ⟨g', hI⟩ := h.newBox (Nat.le_of_ble_eq_true hc.1.1.1.1) (Nat.le_of_ble_eq_true hc.2) (Push.alloc w (.cells (a.eval y).cells T (0, 0))) (ks := ks) (cs := (s.ev y).cells) (Nat.le_of_ble_eq_true hc.1.1.1.2) (Nat.eq_of_beq_eq_true hc.1.1.2).symm c1 c2
    refine wp_value (v := .pointer (some ⟨w.heap.size, 0, none⟩)) (w' := w.alloc (.cells (a.eval y).cells T (0, 0))) ?_ (hk _ _ _ _ hx hI)
    simp [execOp, Instr.box, newVar, newRow]
  case h_4 T n ps d =>
    obtain ⟨E, hE, hx⟩ := Option.bind_eq_some_iff.1 hx
    obtain ⟨ks, hks, hx⟩ := Option.bind_eq_some_iff.1 hx
    obtain ⟨l, hl, hx⟩ := Option.bind_eq_some_iff.1 hx
    obtain ⟨hc, hx⟩ := bif_some hx
    simp only [Bool.and_eq_true] at hc
    obtain ⟨⟨⟨⟨⟨⟨c1, c2⟩, c3⟩, c4⟩, c5⟩, c6⟩, c7⟩ := hc
    obtain ⟨v, w', q1, ⟨g', q2⟩, _⟩ := bslice_sound h (T := T) hE hks hl (Nat.eq_of_beq_eq_true c1) (by simpa using c2) c3 (Nat.le_of_ble_eq_true c4) (Nat.le_of_ble_eq_true c5) c7 (Nat.le_of_ble_eq_true c6) (fun i x hx => hev x (by simp [Op.operands]; exact ⟨_, by simpa using hx⟩))
    refine wp_value (v := v) (w' := w') ?_ (hk _ _ _ _ hx q2)
    simp [execOp, q1]
  case h_5 src dst' y d =>
    have hy := hev y (by simp [Op.operands])
    split at hx
    · rename_i str hyv
      split at hx
      · rename_i E h1 h2
        split at hx
        · rename_i h3
          obtain ⟨hc, hx⟩ := bif_some hx
          simp only [Bool.and_eq_true] at hc
          rw [hyv] at hy
          obtain ⟨ey, _⟩ := (show a.eval y = .string str ∧ _ from hy)
          obtain ⟨w1, us, cap, q1, q2, q3, q4⟩ := run_s2b (P := P) (w := w) (src := src) (dst := dst') str h1 h2 h3 (Nat.le_of_ble_eq_true hc.1)
          have hf := h.fresh q2 str.size
          have hrow : RepRow P (g.more w.heap.size str.size).G w1 E (bytesTo str) (.slice (some ⟨w.heap.size, 0, none⟩) str.size cap) := by
            have hL : RepL P (g.more w.heap.size str.size).G w1 [.int .u8] (bytesTo str) (str.data.toList.map fun b => Value.int .u8 b.toNat) := by
              refine ⟨by simp [bytesTo], fun u hu => ?_, fun i j k dd hd hkk => ?_⟩
              · obtain ⟨b, _, rfl⟩ := List.mem_map.1 hu
                rfl
              · cases j with
                | succ j => simp at hkk
                | zero =>
                  simp at hkk
                  subst hkk
                  simp only [bytesTo, List.getElem?_map] at hd
                  obtain ⟨b, hb, rfl⟩ := Option.map_eq_some_iff.1 hd
                  exact ⟨.int .u8 b.toNat, by simp [hb], rfl, fun E' hE => by cases hE⟩
            have := hL.row (kinds_byte h3) (β := w.heap.size) (off := 0) (cap := cap) (by simpa [bytesTo] using q3) (fun q u hq => by
              rw [List.getElem?_map] at hq
              obtain ⟨b, hb, rfl⟩ := Option.map_eq_some_iff.1 hq
              rw [Array.getElem?_toList] at hb
              have hlt := (Array.getElem?_eq_some_iff.1 hb).1
              refine ⟨.inr ⟨rfl, by rw [Nat.zero_add]; exact hlt⟩, ?_⟩
              unfold World.cell?
              dsimp only
              rw [q2.new]
              simpa using q4 q b hb)
            have e : (bytesTo str).length = str.size := by simp [bytesTo]
            rw [e] at this
            exact this
          refine wp_value (v := .slice (some ⟨w.heap.size, 0, none⟩) str.size cap) (w' := w1) ?_ (hk _ _ _ _ hx (hf.put (some d) (x := .row none E (bytesTo str)) ⟨hrow, fun n hn => by cases hn⟩))
          simp [execOp, ey, q1]
        · cases hx
      · cases hx
    · cases hx
  case h_6 T y z =>
    obtain ⟨s', h1, h2⟩ := Option.bind_eq_some_iff.1 hx
    obtain ⟨g', w', q1, q2⟩ := store_sound h h1 (hev y (by simp [Op.operands])) (hev z (by simp [Op.operands]))
    refine wp_skip' (w' := w') ?_ (hk _ _ _ _ h2 q2)
    simp [execOp, q1]
  case h_7 y =>
    have hy := hev y (by simp [Op.operands])
    split at hx
    · rename_i T x hyv
      rw [hyv] at hy
      obtain ⟨ey, _⟩ := (show a.eval y = .iface T x ∧ _ from hy)
      unfold Oper.wp
      have : (execOp a.eval ⟨dst, .panic y, ty, pos, after, guard⟩).run P w = .halt (.panic (.iface T x)) w := by
        simp [execOp, ey, Instr.panic, goPanic]
      rw [this]
      exact ht _ _ _ hx h.dfr h.fr
    · cases hx
  case h_8 xs Ts d =>
    obtain ⟨hd, hx⟩ := bif_some hx
    obtain ⟨s', h1, h2⟩ := Option.bind_eq_some_iff.1 hx
    have hd' : d < s.t.length := Nat.le_of_ble_eq_true hd
    obtain ⟨xs⟩ := xs
    unfold appendAV at h1
    split at h1
    · rename_i n E l y' hxs
      have hbs := bif_some h1
      clear h1
      obtain ⟨hok', h1⟩ := hbs
      obtain ⟨x0, r, rfl⟩ : ∃ x0 r, xs = x0 :: r := by
        cases xs with
        | nil => simp at hxs
        | cons x r => exact ⟨x, r, rfl⟩
      obtain ⟨y0, r, rfl⟩ : ∃ y0 r', r = y0 :: r' := by
        cases r with
        | nil => simp at hxs
        | cons y r => exact ⟨y, r, rfl⟩
      have hr : r = [] := by
        cases r with
        | nil => rfl
        | cons y r => simp at hxs
      subst hr
      simp at hxs
      obtain ⟨e1, e2⟩ := hxs
      have hx0 := hev x0 (by simp [Op.operands, Call.operands])
      have hy0 := hev y0 (by simp [Op.operands, Call.operands])
      rw [e1] at hx0
      rw [e2] at hy0
      obtain ⟨ks, hks, hp0⟩ : ∃ ks, kinds P E = some ks ∧ 0 < ks.length := by
        unfold appOk at hok'
        split at hok'
        · simp only [Bool.and_eq_true] at hok'
          have o3 := hok'.2
          split at o3
          · rename_i ks i e3 e4
            simp only [Bool.and_eq_true] at o3
            exact ⟨ks, e3, Nat.le_of_ble_eq_true o3.1.1.2⟩
          · cases o3
        · cases hok'
      have fin : ∀ (l2 : List Dat) (ys : List Value), Src P g.G w ks l2 (a.eval y0) ys → l.length + l2.length ≤ fitsN → s' = ((s.kill n).kill d).put (some d) (.row (some d) E (l ++ l2)) → Oper.wp P { dst := some d, op := .call { callee := .builtin .append, args := #[x0, y0], argTypes := Ts }, type := ty, pos := pos, after := after, guard := guard } a w K Q := fun l2 ys hS hlen hs' => by
        obtain ⟨g', v', w', q1, q2⟩ := append_sound h (ty := ty) hok' hks hx0 hS hlen hd'
        subst hs'
        exact wp_value (K := K) (Q := Q) (append_run (dst := some d) (pos := pos) (after := after) (guard := guard) q1) (hk _ _ _ _ h2 q2)
      split at h1
      · rename_i t E' m
        have hbs := bif_some h1
        clear h1
        obtain ⟨hc, h1⟩ := hbs
        simp only [Bool.and_eq_true] at hc
        have : E = E' := by simpa using hc.1
        subst this
        obtain ⟨ys, hS⟩ := (show RepC P g w (.row t E m) (a.eval y0) from hy0).1.src hks hp0
        cases h1
        exact fin m ys hS (by simpa using Nat.le_of_ble_eq_true hc.2) rfl
      · obtain ⟨ey, _⟩ := (show a.eval y0 = .slice none 0 0 ∧ _ from hy0)
        obtain ⟨hc, h1⟩ := bif_some h1
        cases h1
        obtain ⟨ys, hS⟩ := (RepRow.nil (P := P) (G := g.G) (w := w) E none 0).src hks hp0
        exact fin [] ys (by rw [ey]; exact hS) (by simpa using Nat.le_of_ble_eq_true hc) (by simp)
      · rename_i str
        obtain ⟨ey, _⟩ := (show a.eval y0 = .string str ∧ _ from hy0)
        split at h1
        · rename_i hu
          obtain ⟨hc, h1⟩ := bif_some h1
          cases h1
          have hkb := kinds_byte hu
          rw [hkb] at hks
          cases hks
          obtain ⟨ys, hS⟩ := string_src (P := P) (G := g.G) (w := w) str
          refine fin (bytesTo str) ys (by rw [ey]; exact hS) ?_ rfl
          have : (bytesTo str).length = str.size := by simp [bytesTo]
          rw [this]
          exact Nat.le_of_ble_eq_true hc
        · cases h1
      · cases h1
    · cases h1
  case h_9 dst' f xs Ts =>
    obtain ⟨hsz, hx⟩ := bif_some hx
    obtain ⟨p, hp, hx⟩ := Option.bind_eq_some_iff.1 hx
    obtain ⟨hdst, hx⟩ := bif_some hx
    obtain ⟨⟨qb, r⟩, hr, hx⟩ := Option.bind_eq_some_iff.1 hx
    obtain ⟨hqb, hx⟩ := bif_some hx
    dsimp only at hqb hx
    subst hqb
    obtain ⟨⟨fn, hfn, hbody, hname⟩, hsound⟩ := hcall f p.xs p.bs r hr
    have hspec := argsFor_spec _ _ _ _ hp
    have hargs := map_get (P := P) (F := F) (g := g) (w := w) (a := a) h (xs := xs) (fun y hy => okOp_mem hok (by simp [Op.operands, Call.operands]; exact .inr (by simpa using hy)))
    have hlen : (xs.toList.map s.ev).length ≤ 1024 := by simpa using Nat.le_of_ble_eq_true hsz
    have hC := hsound (ghC P g (takes f) (parL P f Ts) (xs.toList.map s.ev) p.ls) w (xs.map a.eval) (pass_mem h hspec hlen) ⟨h.laid.G, h.laid.P⟩ (by rw [hspec.lb, hspec.lx]) (by rw [hspec.lx]; simp) (fun i x hi => pass_args h hspec hlen hargs i x hi)
    have hrun : (execOp a.eval ⟨dst, .call { callee := .value (.func f), args := xs, argTypes := Ts }, ty, pos, after, guard⟩).run P w = .ok (.enter f (xs.map a.eval)) w := by
      have hb : ¬ fn.body = none := by intro e; rw [e] at hbody; cases hbody
      have hn : ¬ fn.name = "runtime.NumGoroutine" := by simpa using hname
      simp [execOp, resolve, Act.eval, Deferred.ofValue, invoke, callFunc, hfn, hn, hb]
    unfold Oper.wp
    rw [hrun]
    rw [Oper.upon_enter]
    refine hC.mono fun e w' he => ?_
    cases r with
    | thr v =>
      obtain ⟨rfl, hfr⟩ := he
      exact ht v a w' hx h.dfr (h.fr.trans hfr (fun _ _ _ t => t) (fun β j hlt t => pass_T h hspec hlt t))
    | ret v bs =>
      obtain ⟨x, g', rfl, post⟩ := he
      obtain ⟨s2, hb, hx⟩ := Option.bind_eq_some_iff.1 hx
      obtain ⟨y, hy, hx⟩ := Option.bind_eq_some_iff.1 hx
      have hI : ∃ g2, Inv P F g2 (s2.put dst y) (a.put dst x) w' := by
        by_cases hv : ∃ z, v = .v z
        · obtain ⟨z, rfl⟩ := hv
          obtain ⟨g2, hI⟩ := back_inv (dst := none) (y := .dead) h hspec hlen post rfl hb rfl
          have hI' : Inv P F g2 s2 a w' := hI
          refine ⟨g2, hI'.put dst ?_⟩
          cases dst with
          | none => cases hy; exact trivial
          | some d => cases hy; exact post.rep
        · have e : dstN v dst = dst := by cases v <;> first | rfl | exact absurd ⟨_, rfl⟩ hv
          rw [e] at hb
          exact back_inv h hspec hlen post hdst hb hy
      obtain ⟨g2, hI⟩ := hI
      exact hk _ _ _ _ hx hI
  case h_10 => cases hx
end
end Go.Proofs.YtckdgcpomkefpaaGreatDoor.En
