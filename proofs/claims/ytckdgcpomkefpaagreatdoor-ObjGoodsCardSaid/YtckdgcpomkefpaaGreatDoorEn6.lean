/- An append follows the plain evaluator. -/
import Derived.Test.YtckdgcpomkefpaaGreatDoorEn5
set_option linter.unusedVariables false
set_option linter.unusedSimpArgs false
namespace Go.Proofs.YtckdgcpomkefpaaGreatDoor.En
open Go
section
variable {P : Program} {F : Fx} {g : Gh} {s : St} {a : Act} {w : World}

section run
variable {Ts : Array TypeId} {T U E : TypeId} {du : TypeDesc} {i : TypeInfo} {z : Value} {ty : TypeId} {y : Value} {m : Nat} {news : List Value}
theorem run_app_nil (hT : Ts[0]? = some T) (hU : Ts[1]? = some U) (ht : P.underlying T = some (.slice E)) (hu : P.underlying U = some du) (hd : (∃ e', du = .slice e') ∨ du = .string)
    (hi : P.info? E = some i) (hy : (∃ A c, y = .slice A m c) ∨ ∃ str, y = .string str ∧ m = str.size) (hf : ∀ w1 : World, w1.heap = w.heap → (Builtin.firstCells i.size m y).run P w1 = .ok news.toArray w1)
    (hm : m = 0) : (Builtin.append_ Ts ty #[.slice none 0 0, y]).run P w = .ok (.slice none 0 0) w := by
  have hf0 := hf w rfl
  rcases hy with ⟨A, c, rfl⟩ | ⟨str, rfl, e⟩
  · subst hm
    rcases hd with ⟨e', rfl⟩ | rfl <;> simp [Builtin.append_, hT, hU, run_underlying ht, run_underlying hu, sizeOf, typeInfo, hi, hf0, Builtin.lenOf]
  · have e' : str.size = 0 := by omega
    rw [hm] at hf0
    rcases hd with ⟨e'', rfl⟩ | rfl <;> simp [Builtin.append_, hT, hU, run_underlying ht, run_underlying hu, sizeOf, typeInfo, hi, hf0, Builtin.lenOf, e']
theorem run_app_room (hT : Ts[0]? = some T) (hU : Ts[1]? = some U) (ht : P.underlying T = some (.slice E)) (hu : P.underlying U = some du) (hd : (∃ e', du = .slice e') ∨ du = .string)
    (hi : P.info? E = some i) (hy : (∃ A c, y = .slice A m c) ∨ ∃ str, y = .string str ∧ m = str.size) (hf : ∀ w1 : World, w1.heap = w.heap → (Builtin.firstCells i.size m y).run P w1 = .ok news.toArray w1)
    {β n cap : Nat} {cur : Array Value} {T0 : TypeId} (hb : w.heap[β]? = some (.cells cur T0 (0, 0))) (hl : news.length = m * i.size) (h1 : ∀ u ∈ news, u.oneCell' = true) (hroom : n + m ≤ cap) (hfit : n * i.size + news.length ≤ cur.size) :
    (Builtin.append_ Ts ty #[.slice (some ⟨β, 0, none⟩) n cap, y]).run P w = .ok (.slice (some ⟨β, 0, none⟩) (n + m) cap) (w.setRow β (cur.toList.take (n * i.size) ++ news ++ cur.toList.drop (n * i.size + news.length)).toArray) := by
  have hf0 := hf w rfl
  have hst := run_storeCells_at P β (n * i.size) T0 news 0 cur w hb (by simpa using hfit) h1
  simp only [Nat.add_zero] at hst
  rcases hy with ⟨A, c, rfl⟩ | ⟨str, rfl, e⟩
  · rcases hd with ⟨e', rfl⟩ | rfl <;> simp [Builtin.append_, hT, hU, run_underlying ht, run_underlying hu, sizeOf, typeInfo, hi, hf0, Builtin.lenOf, hroom, add_lit, hst]
  · subst e
    rcases hd with ⟨e', rfl⟩ | rfl <;> simp [Builtin.append_, hT, hU, run_underlying ht, run_underlying hu, sizeOf, typeInfo, hi, hf0, Builtin.lenOf, hroom, add_lit, hst]
theorem run_app_grow (hT : Ts[0]? = some T) (hU : Ts[1]? = some U) (ht : P.underlying T = some (.slice E)) (hu : P.underlying U = some du) (hd : (∃ e', du = .slice e') ∨ du = .string)
    (hi : P.info? E = some i) (hz : i.zero = some z) (hy : (∃ A c, y = .slice A m c) ∨ ∃ str, y = .string str ∧ m = str.size) (hf : ∀ w1 : World, w1.heap = w.heap → (Builtin.firstCells i.size m y).run P w1 = .ok news.toArray w1)
    {A0 : Option Addr} {n cap : Nat} {olds : List Value} (hfo : ∀ w1 : World, w1.heap = w.heap → (Builtin.firstCells i.size n (.slice A0 n cap)).run P w1 = .ok olds.toArray w1) (hg : cap < n + m) (h63 : ((n + m : Nat) : Int) ≤ 9223372036854775807) (hfit : Builtin.nextslicecap (n + m) cap * i.bytes ≤ 281474976710656) :
    (Builtin.append_ Ts ty #[.slice A0 n cap, y]).run P w = .ok (.slice (some ⟨w.heap.size, 0, none⟩) (n + m) (grownCap w (n + m) cap E)) (w.drew.alloc (.cells (olds.toArray ++ news.toArray ++ Builtin.zeroCells z.cells (grownCap w (n + m) cap E - (n + m))) E)) := by
  have hf0 := hf w.drew rfl
  have hfo0 := hfo w.drew rfl
  have hn : ¬ (n + m ≤ cap) := by omega
  have h63' : ¬ (9223372036854775807 < ((n : Int) + (m : Int))) := by omega
  have h48' : ¬ (281474976710656 < Builtin.nextslicecap (n + m) cap * i.bytes) := by omega
  rcases hy with ⟨A, c, rfl⟩ | ⟨str, rfl, e⟩
  · rcases hd with ⟨e', rfl⟩ | rfl
    all_goals
      simp [Builtin.append_, hT, hU, run_underlying ht, run_underlying hu, sizeOf, typeInfo, zeroValue, hi, hz, Builtin.lenOf, hn, h63', h48', Question.forced, hf0, hfo0, newRow, grownCap]
      try (congr 2; apply Array.ext'; simp [List.append_assoc])
  · subst e
    rcases hd with ⟨e', rfl⟩ | rfl
    all_goals
      simp [Builtin.append_, hT, hU, run_underlying ht, run_underlying hu, sizeOf, typeInfo, zeroValue, hi, hz, Builtin.lenOf, hn, h63', h48', Question.forced, hf0, hfo0, newRow, grownCap]
      try (congr 2; apply Array.ext'; simp [List.append_assoc])
end run
/-- Elements, as the list of their cells' values. -/
structure RepL (P : Program) (G : Nat → Nat → Prop) (w : World) (ks : List CK) (l : List Dat) (xs : List Value) : Prop where
  len : xs.length = l.length * ks.length
  one : ∀ u ∈ xs, u.oneCell' = true
  rep : ∀ (i j : Nat) k d, l[i]? = some d → ks[j]? = some k → ∃ u, xs[i * ks.length + j]? = some u ∧ scal k (d.at j) u ∧ ∀ E', k = .row E' → RepRow P G w E' (d.at j).toL u
theorem RepL.mono {G G' : Nat → Nat → Prop} {w' : World} {ks : List CK} {l : List Dat} {xs : List Value} (h : RepL P G w ks l xs) (hG : ∀ β j, G β j → G' β j ∧ w'.cell? ⟨β, j, none⟩ = w.cell? ⟨β, j, none⟩) : RepL P G' w' ks l xs :=
  ⟨h.len, h.one, fun i j k d hd hk => let ⟨u, h1, h2, h3⟩ := h.rep i j k d hd hk; ⟨u, h1, h2, fun E' hE => (h3 E' hE).mono hG⟩⟩
theorem RepL.nil {G : Nat → Nat → Prop} {ks : List CK} : RepL P G w ks [] [] := ⟨by simp, by simp, by simp⟩
theorem mul_lt_of {i j n m : Nat} (h1 : i < n) (h2 : j < m) : i * m + j < n * m := by
  have : (i + 1) * m ≤ n * m := Nat.mul_le_mul_right _ h1
  rw [Nat.add_mul] at this
  omega
theorem RepL.append {G : Nat → Nat → Prop} {ks : List CK} {l l2 : List Dat} {xs ys : List Value} (h : RepL P G w ks l xs) (h2 : RepL P G w ks l2 ys) : RepL P G w ks (l ++ l2) (xs ++ ys) := by
  refine ⟨by simp [h.len, h2.len, Nat.add_mul], fun u hu => ?_, fun i j k d hd hk => ?_⟩
  · rcases List.mem_append.1 hu with hu | hu
    · exact h.one u hu
    · exact h2.one u hu
  · have hj := (List.getElem?_eq_some_iff.1 hk).1
    by_cases hi : i < l.length
    · rw [List.getElem?_append_left hi] at hd
      obtain ⟨u, e1, e2⟩ := h.rep i j k d hd hk
      exact ⟨u, by rw [List.getElem?_append_left (by rw [h.len]; exact mul_lt_of hi hj)]; exact e1, e2⟩
    · rw [List.getElem?_append_right (by omega)] at hd
      obtain ⟨u, e1, e2⟩ := h2.rep _ j k d hd hk
      have e : i * ks.length + j = xs.length + ((i - l.length) * ks.length + j) := by
        rw [h.len, ← Nat.add_assoc, ← Nat.add_mul]
        congr 2
        omega
      refine ⟨u, ?_, e2⟩
      rw [e, List.getElem?_append_right (by omega)]
      rw [show xs.length + ((i - l.length) * ks.length + j) - xs.length = (i - l.length) * ks.length + j by omega]
      exact e1
theorem RepRow.list {G : Nat → Nat → Prop} {E : TypeId} {l : List Dat} {v : Value} {ks : List CK} (h : RepRow P G w E l v) (hks : kinds P E = some ks) :
    ∃ xs A cap, v = .slice A l.length cap ∧ RepL P G w ks l xs ∧ ∀ (q : Nat) u, xs[q]? = some u → ∃ β off, A = some ⟨β, off, none⟩ ∧ w.cell? ⟨β, off + q, none⟩ = some u ∧ G β (off + q) := by
  cases h with
  | nil E A cap => exact ⟨[], A, cap, rfl, .nil, fun q u hq => by simp at hq⟩
  | mk E l β off cap ks' vals hk hlen hc hs hr =>
    rw [hks] at hk
    cases hk
    have key : ∀ q, q < l.length * ks.length → q / ks.length < l.length ∧ q % ks.length < ks.length ∧ q / ks.length * ks.length + q % ks.length = q := fun q hq => by
      have hp : 0 < ks.length := by
        rcases Nat.eq_zero_or_pos ks.length with e | e
        · rw [e] at hq; simp at hq
        · exact e
      exact ⟨(Nat.div_lt_iff_lt_mul hp).2 hq, Nat.mod_lt _ hp, by rw [Nat.mul_comm]; exact Nat.div_add_mod q ks.length⟩
    have hget : ∀ (q : Nat) u, ((List.range (l.length * ks.length)).map fun q => vals (q / ks.length) (q % ks.length))[q]? = some u → q < l.length * ks.length ∧ u = vals (q / ks.length) (q % ks.length) := fun q u hq => by
      rw [List.getElem?_map] at hq
      obtain ⟨q', h1, h2⟩ := Option.map_eq_some_iff.1 hq
      obtain ⟨h3, h4⟩ := List.getElem?_eq_some_iff.1 h1
      simp at h3 h4
      subst h4
      exact ⟨h3, h2.symm⟩
    refine ⟨(List.range (l.length * ks.length)).map fun q => vals (q / ks.length) (q % ks.length), _, cap, rfl, ⟨by simp, fun u hu => ?_, fun i j k d hd hk => ?_⟩, fun q u hq => ?_⟩
    · obtain ⟨q, hq, rfl⟩ := List.mem_map.1 hu
      obtain ⟨a1, a2, a3⟩ := key q (by simpa using hq)
      exact (hc _ _ a1 a2).2.2
    · have hi := (List.getElem?_eq_some_iff.1 hd).1
      have hj := (List.getElem?_eq_some_iff.1 hk).1
      have hlt := mul_lt_of hi hj
      have e1 : (i * ks.length + j) / ks.length = i := by
        rw [Nat.mul_comm, Nat.mul_add_div (by omega), Nat.div_eq_of_lt hj]; rfl
      have e2 : (i * ks.length + j) % ks.length = j := by
        rw [Nat.mul_comm, Nat.mul_add_mod, Nat.mod_eq_of_lt hj]
      refine ⟨vals i j, ?_, hs i j d k hd hk, fun E' hE => hr i j d E' hd (hE ▸ hk)⟩
      rw [List.getElem?_map, List.getElem?_range hlt]
      simp [e1, e2]
    · obtain ⟨h1, rfl⟩ := hget q u hq
      obtain ⟨a1, a2, a3⟩ := key q h1
      obtain ⟨c1, c2, c3⟩ := hc _ _ a1 a2
      rw [Nat.add_assoc, a3] at c1 c2
      exact ⟨β, off, rfl, c2, c1⟩
theorem RepL.row {G : Nat → Nat → Prop} {E : TypeId} {l : List Dat} {ks : List CK} {xs : List Value} (h : RepL P G w ks l xs) (hks : kinds P E = some ks) {β off cap : Nat} (hcap : l.length ≤ cap)
    (hc : ∀ (q : Nat) u, xs[q]? = some u → G β (off + q) ∧ w.cell? ⟨β, off + q, none⟩ = some u) : RepRow P G w E l (.slice (some ⟨β, off, none⟩) l.length cap) := by
  refine .mk E l β off cap ks (fun i j => xs.getD (i * ks.length + j) undef) hks hcap (fun i j hi hj => ?_) (fun i j d k hd hk => ?_) (fun i j d E' hd hk => ?_)
  · obtain ⟨u, h1, h2, h3⟩ := h.rep i j ks[j] l[i] (List.getElem?_eq_getElem hi) (List.getElem?_eq_getElem hj)
    rw [List.getD_eq_getElem?_getD, h1]
    obtain ⟨c1, c2⟩ := hc _ u h1
    rw [Nat.add_assoc]
    exact ⟨c1, c2, h.one u (List.mem_of_getElem? h1)⟩
  · obtain ⟨u, h1, h2, h3⟩ := h.rep i j k d hd hk
    rw [List.getD_eq_getElem?_getD, h1]
    exact h2
  · obtain ⟨u, h1, h2, h3⟩ := h.rep i j _ d hd hk
    rw [List.getD_eq_getElem?_getD, h1]
    exact h3 E' rfl
/-- What is appended. -/
structure Src (P : Program) (G : Nat → Nat → Prop) (w : World) (ks : List CK) (l2 : List Dat) (y : Value) (ys : List Value) : Prop where
  rep : RepL P G w ks l2 ys
  form : (∃ A c, y = .slice A l2.length c) ∨ ∃ str, y = .string str ∧ l2.length = str.size
  first : ∀ w1 : World, w1.heap = w.heap → (Builtin.firstCells ks.length l2.length y).run P w1 = .ok ys.toArray w1
theorem cell_heap {w1 : World} (h : w1.heap = w.heap) (ad : Addr) : w1.cell? ad = w.cell? ad := by simp [World.cell?, h]
theorem RepRow.first {G : Nat → Nat → Prop} {E : TypeId} {l : List Dat} {v : Value} {ks : List CK} (h : RepRow P G w E l v) (hks : kinds P E = some ks) (hp : 0 < ks.length) :
    ∃ xs, RepL P G w ks l xs ∧ (∀ w1 : World, w1.heap = w.heap → (Builtin.firstCells ks.length l.length v).run P w1 = .ok xs.toArray w1) ∧ ∃ A cap, v = .slice A l.length cap ∧ ∀ (q : Nat) u, xs[q]? = some u → ∃ β off, A = some ⟨β, off, none⟩ ∧ w.cell? ⟨β, off + q, none⟩ = some u ∧ G β (off + q) := by
  obtain ⟨xs, A, cap, hv, hL, hc⟩ := h.list hks
  refine ⟨xs, hL, fun w1 hw => ?_, A, cap, hv, hc⟩
  rw [hv]
  cases A with
  | none =>
    have : xs = [] := by
      cases xs with
      | nil => rfl
      | cons x xs => obtain ⟨β, off, e, _⟩ := hc 0 x rfl; cases e
    subst this
    exact run_firstCells_none w1 ks.length l.length l.length cap
  | some ad =>
    refine run_firstCells_some w1 ks.length l.length ad l.length cap xs hL.len (fun j u hj => ?_)
    obtain ⟨β, off, e, h1, _⟩ := hc j u hj
    cases e
    rw [add_lit, cell_heap hw]
    exact h1
theorem RepRow.src {G : Nat → Nat → Prop} {E : TypeId} {l : List Dat} {v : Value} {ks : List CK} (h : RepRow P G w E l v) (hks : kinds P E = some ks) (hp : 0 < ks.length) : ∃ ys, Src P G w ks l v ys := by
  obtain ⟨xs, h1, h2, A, cap, h3, _⟩ := h.first hks hp
  exact ⟨xs, h1, .inl ⟨A, cap, h3⟩, h2⟩
theorem string_src {G : Nat → Nat → Prop} (str : ByteArray) : ∃ ys, Src P G w [.int .u8] (bytesTo str) (.string str) ys := by
  refine ⟨str.data.toList.map fun b => .int .u8 b.toNat, ⟨by simp [bytesTo], fun u hu => ?_, fun i j k d hd hk => ?_⟩, .inr ⟨str, rfl, by simp [bytesTo]⟩, fun w1 hw => ?_⟩
  · obtain ⟨b, _, rfl⟩ := List.mem_map.1 hu
    rfl
  · cases j with
    | succ j => simp at hk
    | zero =>
      simp at hk
      subst hk
      simp only [bytesTo, List.getElem?_map] at hd
      obtain ⟨b, hb, rfl⟩ := Option.map_eq_some_iff.1 hd
      refine ⟨.int .u8 b.toNat, by simp [hb], rfl, fun E' hE => by cases hE⟩
  · have e : (bytesTo str).length = str.data.size := by simp [bytesTo]
    simp only [Builtin.firstCells, Sem.run_pure]
    congr 1
    apply Array.ext'
    have e2 : str.extract 0 (bytesTo str).length = str := by rw [e]; exact ByteArray.extract_zero_size
    rw [e2]
    simp
theorem Inv.own_of (h : Inv P F g s a w) {n : Nat} {v : Value} {E : TypeId} (ht : g.tk n = some (v, E)) : Own P g w v E := h.mem.own n v E ht
theorem tok_b {f : Option Nat → Option Nat} {d : Nat} {cs : List AV} (h : (s.tok f).b[d]? = some (some cs)) : ∃ cs0, s.b[d]? = some (some cs0) ∧ cs = cs0.map (AV.tok1 f) := by
  simp only [St.tok, List.getElem?_map] at h
  obtain ⟨o, ho, h1⟩ := Option.map_eq_some_iff.1 h
  obtain ⟨cs1, rfl, rfl⟩ := Option.map_eq_some_iff.1 h1
  exact ⟨cs1, ho, rfl⟩
theorem kill2_b {n m d : Nat} {cs : List AV} (h : ((s.kill n).kill m).b[d]? = some (some cs)) : ∃ cs0, s.b[d]? = some (some cs0) := by
  obtain ⟨c1, h1, _⟩ := tok_b h
  obtain ⟨c2, h2, _⟩ := tok_b h1
  exact ⟨c2, h2⟩
theorem append_sound (h : Inv P F g s a w) {Ts : Array TypeId} {ty : TypeId} {n d : Nat} {E : TypeId} {l l2 : List Dat} {vx vy : Value} {ks : List CK} (hok : appOk P Ts E = true) (hks : kinds P E = some ks)
    (hx : RepS P g w (.row (some n) E l) vx) {ys : List Value} (hy : Src P g.G w ks l2 vy ys) (hlen : l.length + l2.length ≤ fitsN) (hd : d < s.t.length) :
    ∃ g' v' w', (Builtin.append_ Ts ty #[vx, vy]).run P w = .ok v' w' ∧ Inv P F g' (((s.kill n).kill d).put (some d) (.row (some d) E (l ++ l2))) (a.put (some d) v') w' := by
  unfold appOk at hok
  split at hok
  case h_2 => cases hok
  rename_i T U hT hU
  simp only [Bool.and_eq_true] at hok
  obtain ⟨⟨o1, o2⟩, o3⟩ := hok
  have ht := elemT_eq (T := T) (E := E) (P := P) (by simpa using o1)
  obtain ⟨du, hu, hdu⟩ : ∃ du, P.underlying U = some du ∧ ((∃ e', du = .slice e') ∨ du = .string) := by
    split at o2
    · rename_i e' e; exact ⟨_, e, .inl ⟨e', rfl⟩⟩
    · rename_i e; exact ⟨_, e, .inr rfl⟩
    · cases o2
  rw [hks] at o3
  split at o3
  case h_2 => cases o3
  rename_i ks' i hkk hi
  cases hkk
  simp only [Bool.and_eq_true] at o3
  obtain ⟨⟨⟨p1, p2⟩, p3⟩, p4⟩ := o3
  have p1 : i.size = ks.length := by simpa using p1
  have p2 : 0 < ks.length := Nat.le_of_ble_eq_true p2
  have p3 := Nat.le_of_ble_eq_true p3
  obtain ⟨z, hz, hzs⟩ : ∃ z, i.zero = some z ∧ z.cells.size = ks.length := by
    cases hzz : i.zero with
    | none => rw [hzz] at p4; cases p4
    | some z => rw [hzz] at p4; exact ⟨z, rfl, Nat.eq_of_beq_eq_true p4⟩
  obtain ⟨hrow, htk⟩ := (show RepC P g w (.row (some n) E l) vx from hx)
  have htn := htk n rfl
  obtain ⟨xs, hL, hfx, A, cap, hvx, hcx⟩ := hrow.first hks p2
  have hF : fitsN = 1099511627776 := rfl
  -- tokens n and d go
  have hk1 := h.kills (killF_kills n)
  have hk2 := hk1.kills (killF_kills d)
  generalize hg2 : (g.kills (killF n)).kills (killF d) = g2 at hk2
  have hG2 : g2.G = g.G := by subst hg2; rfl
  have hb2 : g2.bx = g.bx := by subst hg2; rfl
  have hd2 : g2.tk d = none := by subst hg2; exact kills_tk (killF_kills d) (killF_self d)
  have hn2 : g2.tk n = none := by subst hg2; exact kills_none (kills_tk (killF_kills n) (killF_self n))
  have hsub : ∀ m v', g2.tk m = some v' → g.tk m = some v' ∧ m ≠ n := fun m v' hm => by
    refine ⟨?_, fun e => by subst e; rw [hn2] at hm; cases hm⟩
    subst hg2
    have hm' : (match killF d (some m) with | some _ => (match killF n (some m) with | some _ => g.tk m | none => none) | none => none) = some v' := hm
    split at hm'
    · split at hm'
      · exact hm'
      · cases hm'
    · cases hm'
  have hap : ∀ β, vx.ownBlock = some β → ∀ m v' E', g2.tk m = some (v', E') → v'.ownBlock ≠ some β := fun β hβ m v' E' hm hv' => by
    obtain ⟨h1, h2⟩ := hsub m _ hm
    exact h2 (h.mem.tkap m n v' vx E' E β h1 htn hv' hβ)
  have hform : ∀ {m : Nat}, m = l2.length → (∃ A c, vy = .slice A m c) ∨ ∃ str, vy = .string str ∧ m = str.size := fun e => by subst e; exact hy.form
  have hfirst : ∀ w1 : World, w1.heap = w.heap → (Builtin.firstCells i.size l2.length vy).run P w1 = .ok ys.toArray w1 := by rw [p1]; exact hy.first
  by_cases hroom : l.length + l2.length ≤ cap
  · rcases h.mem.own n vx E htn with e | ⟨β, n0, cap0, us, ks0, e1, e2, e3, e4, e5, e6, e7⟩
    · -- nil, nothing appended
      rw [hvx] at e
      injection e with ea el ec
      subst ea ec
      have hl0 : l = [] := List.eq_nil_of_length_eq_zero el
      have hm0 : l2.length = 0 := by omega
      have hl2 : l2 = [] := List.eq_nil_of_length_eq_zero hm0
      subst hl0 hl2
      rw [hvx]
      exact ⟨_, _, w, run_app_nil hT hU ht hu hdu hi (hform rfl) hfirst rfl, (hk2.nils (N := one1 d E) (fun m hm => by
        unfold one1 at hm
        by_cases e : m = d
        · rw [e]; exact hd2
        · rw [if_neg e] at hm; exact absurd rfl hm)).put (some d) (x := .row (some d) E []) ⟨.nil _ _ _, fun m hm => by
          cases hm
          show (match one1 d E d with | some E => some (Value.slice none 0 0, E) | none => _) = _
          simp [one1]⟩⟩
    · -- room
      rw [hks] at e3
      cases e3
      rw [hvx] at e1
      injection e1 with ea el ec
      subst ea el ec
      have hvb : vx.ownBlock = some β := by rw [hvx]; rfl
      have hyl : ys.length = l2.length * ks.length := hy.rep.len
      have hfit : l.length * ks.length + ys.length ≤ us.size := by
        rw [e6, hyl, ← Nat.add_mul]; exact Nat.mul_le_mul_right _ hroom
      have hrun := run_app_room (P := P) (w := w) (ty := ty) hT hU ht hu hdu hi (hform rfl) hfirst (n := l.length) (cap := cap) e2 (by rw [p1]; exact hyl) hy.rep.one hroom (by rw [p1]; exact hfit)
      rw [p1] at hrun
      generalize hus' : (us.toList.take (l.length * ks.length) ++ ys ++ us.toList.drop (l.length * ks.length + ys.length)).toArray = us' at hrun
      have hget : ∀ j : Nat, us'[j]? = if l.length * ks.length ≤ j ∧ j < l.length * ks.length + ys.length then ys[j - l.length * ks.length]? else us[j]? := fun j => by
        rw [← hus', List.getElem?_toArray, List.append_assoc, splice_get _ _ (l.length * ks.length) ys.length rfl (by simpa using hfit)]
        simp
      have hsz : us'.size = us.size := by rw [← hus']; simp; omega
      have hw := Wr.setRow (us' := us') e2
      have hGlt : ∀ j, g.G β j → j < l.length * ks.length := fun j hj => Nat.lt_of_not_le fun hle => e7 j hle hj
      have hTB : β < F.w0.heap.size → F.TB β := fun hlt => (h.tb n vx E β htn hvb).resolve_left (by omega)
      have ht2 := hk2.touch (K := (l.length + l2.length) * ks.length) e2 hw hsz (fun j hj => by rw [hget, if_neg (by have := hGlt j (hG2 ▸ hj); omega)]) (fun m v' E' hm => hap β hvb m v' E' hm) (fun e cs he hβ => by
        obtain ⟨cs0, h0⟩ := kill2_b he
        exact h.mem.tkbx n vx E β e cs0 htn hvb h0 (hb2 ▸ hβ)) hTB
      have hcell : ∀ (q : Nat) u, (xs ++ ys)[q]? = some u → q < (l.length + l2.length) * ks.length ∧ us'[q]? = some u := fun q u hq => by
        have hq' := (List.getElem?_eq_some_iff.1 hq).1
        rw [List.length_append, hL.len, hyl] at hq'
        refine ⟨by rw [Nat.add_mul]; exact hq', ?_⟩
        rw [hget]
        by_cases hlt : q < l.length * ks.length
        · rw [if_neg (by omega)]
          rw [List.getElem?_append_left (by rw [hL.len]; exact hlt)] at hq
          obtain ⟨β', off', ea, ec, _⟩ := hcx q u hq
          cases ea
          simpa [World.cell?, e2] using ec
        · rw [if_pos (by omega)]
          rw [List.getElem?_append_right (by rw [hL.len]; omega), hL.len] at hq
          exact hq
      have hGm : ∀ b j, g.G b j → (g2.more β ((l.length + l2.length) * ks.length)).G b j ∧ (w.setRow β us').cell? ⟨b, j, none⟩ = w.cell? ⟨b, j, none⟩ := fun b j hj => by
        refine ⟨.inl (hG2 ▸ hj), ?_⟩
        by_cases e : b = β
        · subst e
          have := hGlt j hj
          have hg1 := hget j
          rw [if_neg (by omega)] at hg1
          simp [World.cell?, e2, hw.new, hg1]
        · exact World.cell?_of_block (a := ⟨b, j, none⟩) (hw.other b e)
      have hOwn : Own P (g2.more β ((l.length + l2.length) * ks.length)) (w.setRow β us') (.slice (some ⟨β, 0, none⟩) (l.length + l2.length) cap) E := by
        refine .inr ⟨β, _, cap, us', ks, rfl, hw.new, hks, hroom, e5, by rw [hsz, e6], fun j hj hg => ?_⟩
        rcases hg with hg | ⟨_, hg⟩
        · have := hGlt j (hG2 ▸ hg)
          rw [Nat.add_mul] at hj
          omega
        · omega
      have hI := ht2.addTok (n := d) (v := .slice (some ⟨β, 0, none⟩) (l.length + l2.length) cap) (E := E) hd2 hOwn (fun m v' E' b hm hv' hb => by
        cases hb
        exact hap β hvb m v' E' hm hv') (fun e cs b he hb hvb' => by
        cases hvb'
        obtain ⟨cs0, h0⟩ := kill2_b he
        exact h.mem.tkbx n vx E β e cs0 htn hvb h0 (hb2 ▸ hb)) (fun b hb => by
        cases hb
        exact h.tb n vx E β htn hvb)
      rw [hvx]
      refine ⟨_, _, _, hrun, hI.put (some d) (x := .row (some d) E (l ++ l2)) ⟨?_, fun m hm => ?_⟩⟩
      · have := RepL.row (G := ((g2.more β ((l.length + l2.length) * ks.length)).tok d (.slice (some ⟨β, 0, none⟩) (l.length + l2.length) cap) E).G) (w := w.setRow β us') (β := β) (off := 0) (cap := cap) ((hL.append hy.rep).mono hGm) hks (by simpa using hroom) (fun q u hq => by
          obtain ⟨c1, c2⟩ := hcell q u hq
          exact ⟨.inr ⟨rfl, by omega⟩, by simp [World.cell?, hw.new, c2]⟩)
        rw [List.length_append] at this
        exact this
      · cases hm
        show (if d = d then _ else _) = _
        rw [if_pos rfl]
  · -- a new block
    have hyl : ys.length = l2.length * ks.length := hy.rep.len
    have hfo : ∀ w1 : World, w1.heap = w.heap → (Builtin.firstCells i.size l.length (.slice A l.length cap)).run P w1 = .ok xs.toArray w1 := by rw [p1, ← hvx]; exact hfx
    have h63 : ((l.length + l2.length : Nat) : Int) ≤ 9223372036854775807 := by omega
    have hfit : Builtin.nextslicecap (l.length + l2.length) cap * i.bytes ≤ 281474976710656 := by
      refine growslice_fits (by omega) ?_
      have : (l.length + l2.length) * i.bytes ≤ 1099511627776 * 128 := Nat.mul_le_mul (by omega) p3
      omega
    have hrun := run_app_grow (P := P) (w := w) (ty := ty) hT hU ht hu hdu hi hz (hform rfl) hfirst (A0 := A) (n := l.length) (cap := cap) hfo (by omega) h63 hfit
    generalize hC : grownCap w (l.length + l2.length) cap E = C at hrun
    have hC1 : l.length + l2.length ≤ C := hC ▸ grownCap_ge _ _ _ _
    have hC2 : C ≤ maxLen := hC ▸ grownCap_le_maxLen _ _ _ _ (by unfold maxLen; omega)
    generalize hus' : xs.toArray ++ ys.toArray ++ Builtin.zeroCells z.cells (C - (l.length + l2.length)) = us' at hrun
    have hsz : us'.size = C * ks.length := by
      rw [← hus']
      simp only [Array.size_append, List.size_toArray, hL.len, hyl, size_zeroCells, hzs, ← Nat.add_mul]
      congr 1
      omega
    have hget : ∀ (q : Nat) u, (xs ++ ys)[q]? = some u → q < (l.length + l2.length) * ks.length ∧ us'[q]? = some u := fun q u hq => by
      have hq' := (List.getElem?_eq_some_iff.1 hq).1
      refine ⟨by rw [List.length_append, hL.len, hyl] at hq'; rw [Nat.add_mul]; exact hq', ?_⟩
      rw [← hus', Array.getElem?_append_left (by simpa using hq')]
      simpa using hq
    have hw := Push.drew w (.cells us' E (0, 0))
    have hf := hk2.fresh hw ((l.length + l2.length) * ks.length)
    have hnew := hw.new
    have hOwn : Own P (g2.more w.heap.size ((l.length + l2.length) * ks.length)) (w.drew.alloc (.cells us' E (0, 0))) (.slice (some ⟨w.heap.size, 0, none⟩) (l.length + l2.length) C) E := by
      refine .inr ⟨w.heap.size, _, C, us', ks, rfl, hnew, hks, hC1, hC2, hsz, fun j hj hg => ?_⟩
      rcases hg with hg | ⟨_, hg⟩
      · have := h.mem.gsz _ _ (hG2 ▸ hg : g.G w.heap.size j); omega
      · omega
    have hI := hf.addTok (n := d) (v := .slice (some ⟨w.heap.size, 0, none⟩) (l.length + l2.length) C) (E := E) hd2 hOwn (fun m v' E' b hm hv' hb => by
      cases hb
      exact Nat.lt_irrefl _ ((h.mem.own m v' E' (hsub m _ hm).1).lt hv')) (fun e cs b he hb hvb' => by
      cases hvb'
      obtain ⟨cs0, h0⟩ := kill2_b he
      obtain ⟨β', us0, T0, b1, b2, _⟩ := h.mem.box e cs0 h0
      have hb' : g.bx e = some w.heap.size := hb2 ▸ hb
      rw [hb'] at b1
      cases b1
      have := (Array.getElem?_eq_some_iff.1 b2).1
      omega) (fun b hb => by
      cases hb
      exact .inl h.fr.size)
    rw [hvx]
    refine ⟨_, _, _, hrun, hI.put (some d) (x := .row (some d) E (l ++ l2)) ⟨?_, fun m hm => ?_⟩⟩
    · have hGm : ∀ b j, g.G b j → (g2.more w.heap.size ((l.length + l2.length) * ks.length)).G b j ∧ (w.drew.alloc (.cells us' E (0, 0))).cell? ⟨b, j, none⟩ = w.cell? ⟨b, j, none⟩ := fun b j hj =>
        ⟨.inl (hG2 ▸ hj), hw.cell (h.mem.gsz b j hj)⟩
      have := RepL.row (G := ((g2.more w.heap.size ((l.length + l2.length) * ks.length)).tok d (.slice (some ⟨w.heap.size, 0, none⟩) (l.length + l2.length) C) E).G) (w := w.drew.alloc (.cells us' E (0, 0))) (β := w.heap.size) (off := 0) (cap := C) ((hL.append hy.rep).mono hGm) hks (by simpa using hC1) (fun q u hq => by
        obtain ⟨c1, c2⟩ := hget q u hq
        exact ⟨.inr ⟨rfl, by omega⟩, by unfold World.cell?; dsimp only; rw [hnew]; simpa using c2⟩)
      rw [List.length_append] at this
      exact this
    · cases hm
      show (if d = d then _ else _) = _
      rw [if_pos rfl]
end
end Go.Proofs.YtckdgcpomkefpaaGreatDoor.En
