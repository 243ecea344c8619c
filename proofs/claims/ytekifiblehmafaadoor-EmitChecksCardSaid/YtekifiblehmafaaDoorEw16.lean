/- Part 16 of a proof: what it needs of the program's functions as plain Lean functions, with the proof that the machine's calls come to them, and of plain laws; put together out of smaller texts. No conditions besides those that each statement names. -/
import Derived.Deep.Slices
import Derived.SizedLaws
import Derived.Test.YtekifiblehmafaaDoorEw0
import Derived.Test.YtekifiblehmafaaDoorEw14
import Derived.Test.YtekifiblehmafaaDoorEw15
import Derived.Test.YtekifiblehmafaaDoorEw2
section
set_option linter.unusedVariables false
set_option linter.unusedSimpArgs false
namespace Go.Proofs.YtekifiblehmafaaDoor.X
open Go.RowKit Go.ChangeShapes Go.WideShapes Go.Proofs.YtekifiblehmafaaDoorW.PrintWords
def Opens {α : Type} (P : Program) (d : Kd α) (t : TypeId) (B : α → Prop) : Prop :=
  ∀ (H : Type) (enc : TypeId × Value → H) (w : World) (base : Nat) (spare : Nat → Bool) (held : Bool) (fuel : Nat) (cs : List Value) (x : DataW H × List MemPlace),
    DataW.trod enc P w base spare held fuel t cs = some x → (∀ n ∈ x.1.weights P t, n ≤ reachBytes) → ∃ a, d.K w a cs ∧ B a
theorem opens_int {P : Program} {t : TypeId} {k : IntKind} (ht : P.underlying t = some (.int k)) : Opens P (Kd.int k) t (fun n => (Lit.int k n).wf = true) := by
  intro H enc w base spare held fuel cs x h hw
  obtain ⟨n, rfl, _, hn⟩ := DataW.trod_int ht h
  exact ⟨n, rfl, hn⟩
theorem weights_all {H : Type} {P : Program} {e : TypeId} : ∀ {l : List (DataW H)} {d : DataW H}, d ∈ l → ∀ n ∈ d.weights P e, n ∈ DataW.weightsAll P e l
  | [], d, h, n, hn => by simp at h
  | a :: l, d, h, n, hn => by
    rw [DataW.weightsAll, List.mem_append]
    rcases List.mem_cons.1 h with rfl | h
    · exact .inl hn
    · exact .inr (weights_all h n hn)
theorem opens_slice {α : Type} {P : Program} {d : Kd α} {t e : TypeId} {B : α → Prop} [Inhabited α] (ht : P.underlying t = some (.slice e)) (he : Opens P d e B) (hc : P.cellsOf e = d.sz) :
    Opens P (Kd.slice e d) t (fun l => l.length * P.bytesOf e ≤ reachBytes ∧ ∀ a ∈ l, B a) := by
  intro H enc w base spare held fuel cs x h hw
  rcases Deep.open_slice ht h with ⟨rfl, rfl⟩ | ⟨a, len, cap, m, n, D, Pl, rfl, hb, hl, hm, hmm, rfl, hx⟩
  · exact ⟨[], ⟨none, 0, rfl, Nat.le_refl _, rfl, by simp, fun hn => absurd hn (Nat.lt_irrefl 0)⟩, by simp, by simp⟩
  have hlm : len ≤ m := by rw [hmm]; split <;> omega
  have each : ∀ i, i < len → ∃ q : α, (∃ c, c.length = d.sz ∧ d.K w q c ∧ ∀ j u, c[j]? = some u → w.cell? (a.add (i * d.sz + j)) = some u) ∧ B q := by
    intro i hi
    obtain ⟨cs', h1, h2⟩ := hx i (by omega)
    obtain ⟨_, hlen, hcell⟩ := World.cells?_some h1
    obtain ⟨q, hq, hB⟩ := he H enc w base spare held n cs' (D i, Pl i) h2 (fun k hk => by
      refine hw k ?_
      simp only [DataW.weights, ht, List.mem_cons, List.mem_append]
      exact .inr (.inl (weights_all (List.mem_map.2 ⟨i, List.mem_range.2 hi, rfl⟩) k hk)))
    refine ⟨q, ⟨cs', by rw [hlen, hc], hq, fun j u hj => ?_⟩, hB⟩
    have hjl : j < P.cellsOf e := by rw [← hlen]; exact (List.getElem?_eq_some_iff.1 hj).1
    have := hcell j hjl
    rw [Deep.add_add, hc] at this
    rw [this]
    exact hj
  obtain ⟨f, hf⟩ := Deep.choose_lt each
  refine ⟨(List.range len).map f, ⟨some a, cap, by simp, by simpa using hl, by simp, by simp; unfold maxLen at hm; omega, fun _ => ⟨a, rfl, fun j p hj => ?_⟩⟩, ?_, ?_⟩
  · have hjl : j < len := by
      have := (List.getElem?_eq_some_iff.1 hj).1
      simpa using this
    rw [List.getElem?_map, List.getElem?_range hjl] at hj
    obtain rfl := Option.some.inj hj
    exact (hf j hjl).1
  · have := hw ((((List.range len).map D).length + ((List.range (m - len)).map fun j => D (len + j)).length) * P.bytesOf e) (by simp [DataW.weights, ht])
    refine Nat.le_trans (Nat.mul_le_mul_right _ ?_) this
    simp
  · intro q hq
    obtain ⟨i, hi, rfl⟩ := List.mem_map.1 hq
    exact (hf i (List.mem_range.1 hi)).2
def cellSum (P : Program) (ts : List TypeId) : Nat := (ts.map P.cellsOf).sum
def OpensF {α : Type} (P : Program) (d : Kd α) (ts : List TypeId) (B : α → Prop) : Prop :=
  ∀ (H : Type) (enc : TypeId × Value → H) (w : World) (base : Nat) (spare : Nat → Bool) (held : Bool) (fuel : Nat) (cs : List Value) (xs : List (DataW H × List MemPlace)),
    xs.length = ts.length → cs.length = cellSum P ts → (∀ i t, ts[i]? = some t → DataW.trod enc P w base spare held fuel t ((cs.drop (cellSum P (ts.take i))).take (P.cellsOf t)) = xs[i]?) →
    (∀ n ∈ DataW.weightsEach P ts (xs.map (·.1)), n ≤ reachBytes) → ∃ a, d.K w a cs ∧ B a
theorem OpensF.one {α : Type} {P : Program} {d : Kd α} {t : TypeId} {B : α → Prop} (h : Opens P d t B) : OpensF P d [t] B := by
  intro H enc w base spare held fuel cs xs hx hc hr hw
  match xs, hx with
  | [x], _ =>
    have h0 := hr 0 t rfl
    simp [cellSum] at h0 hc
    rw [← hc, List.take_length] at h0
    exact h H enc w base spare held fuel cs x h0 (fun n hn => hw n (by simpa [DataW.weightsEach] using hn))
theorem OpensF.cons {α β : Type} {P : Program} {d : Kd α} {d' : Kd β} {t : TypeId} {ts : List TypeId} {B : α → Prop} {B' : β → Prop} (h : Opens P d t B) (h' : OpensF P d' ts B') :
    OpensF P (Kd.pair d d') (t :: ts) (fun p => B p.1 ∧ B' p.2) := by
  intro H enc w base spare held fuel cs xs hx hc hr hw
  match xs, hx with
  | x :: xs, hx =>
    have h0 := hr 0 t rfl
    simp only [List.take_zero, cellSum, List.map_nil, List.sum_nil, List.drop_zero, List.getElem?_cons_zero] at h0
    obtain ⟨a, ha, hB⟩ := h H enc w base spare held fuel _ x h0 (fun n hn => hw n (by simp only [List.map_cons, DataW.weightsEach, List.mem_append]; exact .inl hn))
    obtain ⟨b, hb, hB'⟩ := h' H enc w base spare held fuel (cs.drop (P.cellsOf t)) xs (by simpa using hx) (by simp [cellSum] at hc ⊢; omega) (fun i u hu => by
        have := hr (i + 1) u (by simpa using hu)
        rw [List.getElem?_cons_succ] at this
        rw [← this, List.drop_drop]
        simp [cellSum, List.take_succ_cons]) (fun n hn => hw n (by simp only [List.map_cons, DataW.weightsEach, List.mem_append]; exact .inr hn))
    exact ⟨(a, b), ⟨_, _, (List.take_append_drop (P.cellsOf t) cs).symm, ha, hb⟩, hB, hB'⟩
def fieldsOk (P : Program) (t : TypeId) (fs : Array Field) : Bool :=
  P.cellsOf t == cellSum P (fs.toList.map (·.type)) && (List.range fs.size).all fun i => match fs[i]? with | some f => f.offset == cellSum P ((fs.toList.map (·.type)).take i) | none => false
theorem opens_struct {α : Type} {P : Program} {d : Kd α} {t : TypeId} {fs : Array Field} {B : α → Prop} (ht : P.underlying t = some (.struct fs)) (hok : fieldsOk P t fs = true) (h : OpensF P d (fs.toList.map (·.type)) B) : Opens P d t B := by
  intro H enc w base spare held fuel cs x hx hw
  obtain ⟨xs, k, hk, rfl, hcl, hxl, hf⟩ := DataW.trod_struct ht hx
  simp only [fieldsOk, Bool.and_eq_true, beq_iff_eq, List.all_eq_true, List.mem_range] at hok
  refine h H enc w base spare held k cs xs (by simpa using hxl) (by rw [hcl, hok.1]) ?_ (fun n hn => hw n (by simpa only [DataW.weights, ht] using hn))
  intro i u hu
  rw [List.getElem?_map] at hu
  obtain ⟨f, hf1, rfl⟩ := Option.map_eq_some_iff.1 hu
  have hf2 : fs[i]? = some f := by simpa using hf1
  have hi : i < fs.size := (Array.getElem?_eq_some_iff.1 hf2).1
  have ho := hok.2 i hi
  rw [hf2] at ho
  have ho : f.offset = cellSum P ((fs.toList.map (·.type)).take i) := by simpa using ho
  rw [← ho]
  exact hf i f hf2
theorem opens_iso {α β : Type} {P : Program} {d : Kd α} {t : TypeId} {B : α → Prop} (h : Opens P d t B) (f : β → α) (g : α → β) (hg : ∀ a, f (g a) = a) : Opens P (Kd.iso d f) t (fun b => B (f b)) := by
  intro H enc w base spare held fuel cs x hx hw
  obtain ⟨a, ha, hB⟩ := h H enc w base spare held fuel cs x hx hw
  exact ⟨g a, by show d.K w (f (g a)) cs; rw [hg]; exact ha, by show B (f (g a)); rw [hg]; exact hB⟩
theorem Opens.weaken {α : Type} {P : Program} {d : Kd α} {t : TypeId} {B B' : α → Prop} (h : Opens P d t B) (hb : ∀ a, B a → B' a) : Opens P d t B' := by
  intro H enc w base spare held fuel cs x hx hw
  obtain ⟨a, ha, hB⟩ := h H enc w base spare held fuel cs x hx hw
  exact ⟨a, ha, hb a hB⟩
theorem Opens.list {H : Type} {enc : TypeId × Value → H} {α : Type} {P : Program} {d : Kd α} {t e : TypeId} {B : List α → Prop} (h : Opens P (Kd.slice e d) t B) {w : World} {base : Nat} {spare : Nat → Bool} {held : Bool} {A : Option Addr} {n c : Nat} {x : DataW H} {ps : List MemPlace}
    (hx : DataW.Trod enc P w base spare held t (.slice A n c) x ps) (hw : ∀ k ∈ x.weights P t, k ≤ reachBytes) : ∃ l : List α, n = l.length ∧ l.length ≤ c ∧ Kd.C d w A l.length l ∧ B l := by
  obtain ⟨fuel, hf⟩ := hx
  obtain ⟨l, ⟨A2, c2, hcs, hl, hC⟩, hB⟩ := h H enc w base spare held fuel _ (x, ps) hf hw
  simp only [Value.cells, List.cons.injEq, Value.slice.injEq, and_true] at hcs
  obtain ⟨rfl, rfl, rfl⟩ := hcs
  exact ⟨l, rfl, hl, hC, hB⟩
end Go.Proofs.YtekifiblehmafaaDoor.X
end
section
namespace Go.Proofs.YtekifiblehmafaaDoor.Y
open Go.RowKit Go.Proofs.YtekifiblehmafaaDoorW.PrintWords
instance : Inhabited S48 := ⟨z48⟩
instance : Inhabited S50 := ⟨z50⟩
def markFits (m : S50) : Prop := m.f5.length ≤ 17592186043904
theorem opens48 : X.Opens Tryd.prog k48 48 (fun _ => True) :=
  (X.opens_iso (X.opens_struct Tryd.underlying48 (by kernel_rfl) (.cons (X.opens_int Tryd.underlying3) (.cons (X.opens_int Tryd.underlying3) (.cons (X.opens_int Tryd.underlying3) (.one (X.opens_int Tryd.underlying3))))))
    (fun x : S48 => (x.f0, x.f1, x.f2, x.f3)) (fun a => ⟨a.1, a.2.1, a.2.2.1, a.2.2.2⟩) (fun _ => rfl)).weaken (fun _ _ => trivial)
theorem opens50 : X.Opens Tryd.prog k50 50 markFits :=
  (X.opens_iso (X.opens_struct Tryd.underlying50 (by kernel_rfl) (.cons (X.opens_int Tryd.underlying3) (.cons (X.opens_int Tryd.underlying3) (.cons (X.opens_int Tryd.underlying3) (.cons (X.opens_int Tryd.underlying3) (.cons (X.opens_int Tryd.underlying3)
    (.cons (X.opens_slice Tryd.underlying46 (X.opens_int Tryd.underlying3) (by kernel_rfl)) (.one opens48))))))))
    (fun x : S50 => (x.f0, x.f1, x.f2, x.f3, x.f4, x.f5, x.f6)) (fun a => ⟨a.1, a.2.1, a.2.2.1, a.2.2.2.1, a.2.2.2.2.1, a.2.2.2.2.2.1, a.2.2.2.2.2.2⟩) (fun _ => rfl)).weaken (fun a h => by
      have h5 := h.2.2.2.2.2.1.1
      have e : Tryd.prog.bytesOf 3 = 8 := by kernel_rfl
      rw [e] at h5
      unfold markFits
      unfold reachBytes at h5
      show a.f5.length ≤ _
      have h6 : a.f5.length * 8 ≤ 140737488351232 := h5
      omega)
theorem opens22 : X.Opens Tryd.prog (Kd.slice 50 k50) 22 (fun l => l.length ≤ 140737488351232 ∧ ∀ m ∈ l, markFits m) :=
  (X.opens_slice Tryd.underlying22 opens50 (by kernel_rfl)).weaken (fun a h => ⟨by
      have e : Tryd.prog.bytesOf 50 = 96 := by kernel_rfl
      have h1 := h.1
      rw [e] at h1
      unfold reachBytes at h1
      omega, h.2⟩)
end Go.Proofs.YtekifiblehmafaaDoor.Y
end
section
set_option linter.unusedVariables false
set_option linter.unusedSimpArgs false
namespace Go.Proofs.YtekifiblehmafaaDoor.Y
open Go.RowKit Go.Proofs.YtekifiblehmafaaDoor.X Go.Proofs.YtekifiblehmafaaDoorW.PrintWords
theorem large_l0 (l : List S50) (hf : ∀ m ∈ l, markFits m) : ∀ (n i : Nat) (acc : Int), 0 ≤ acc → acc ≤ 17592186100000 → (i : Int) ≤ acc → i + n = l.length →
    ∃ b, Ev (fun k => colophonlaw15_Large.l0 k l acc (i : Int)) b ∧ (b = false → acc ≤ 40000 ∧ l.length ≤ 20000 ∧ ∀ m ∈ l.drop i, m.f5.length ≤ 40000)
  | 0, i, acc, a0, a1, a2, h => by
    by_cases hb : acc > 40000
    · refine ⟨true, Ev.step (f := fun _ => some true) (fun k => ?_) (Ev.now _), fun e => by cases e⟩
      rw [colophonlaw15_Large.l0, if_neg (by omega), if_pos hb]
    · refine ⟨decide ((l.length : Int) > 20000), Ev.step (f := fun _ => some _) (fun k => ?_) (Ev.now _), fun e => ?_⟩
      · rw [colophonlaw15_Large.l0, if_neg (by omega), if_neg hb]
      · have := of_decide_eq_false e
        refine ⟨by omega, by omega, fun m hm => ?_⟩
        rw [List.drop_of_length_le (by omega)] at hm
        simp at hm
  | n + 1, i, acc, a0, a1, a2, h => by
    have h1 : i < l.length := by omega
    by_cases hb : acc > 40000
    · refine ⟨true, Ev.step (f := fun _ => some true) (fun k => ?_) (Ev.now _), fun e => by cases e⟩
      rw [colophonlaw15_Large.l0, if_pos (by omega), if_neg (by omega), if_pos hb]
    · have hm : markFits l[i] := hf _ (List.getElem_mem h1)
      unfold markFits at hm
      have e1 : wrap64 (acc + wrap64 (1 + (l[i].f5.length : Int))) = acc + (1 + (l[i].f5.length : Int)) := by unfold wrap64; omega
      obtain ⟨b, hb1, hb2⟩ := large_l0 l hf n (i + 1) (acc + (1 + (l[i].f5.length : Int))) (by omega) (by omega) (by omega) (by omega)
      refine ⟨b, Ev.step (fun k => ?_) hb1, fun e => ?_⟩
      · rw [colophonlaw15_Large.l0, if_pos (by omega), if_pos (by omega), if_pos (by omega), rd_T50_nat h1, e1, wrap_nat (by omega)]
      · obtain ⟨q1, q2, q3⟩ := hb2 e
        refine ⟨by omega, q2, fun m hm => ?_⟩
        rw [List.drop_eq_getElem_cons h1] at hm
        rcases List.mem_cons.1 hm with rfl | hm
        · omega
        · exact q3 m hm
theorem large_ev (l : List S50) (hf : ∀ m ∈ l, markFits m) : ∃ b, Ev (fun k => colophonlaw15_Large.f k l) b ∧ (b = false → l.length ≤ 20000 ∧ ∀ m ∈ l, m.f5.length ≤ 40000) := by
  obtain ⟨b, h1, h2⟩ := large_l0 l hf l.length 0 0 (by omega) (by omega) (by omega) (by omega)
  exact ⟨b, h1, fun e => (h2 e).2⟩
theorem copy_l0 (l : List S50) (hl : l.length ≤ 20000) (hg : ∀ m ∈ l, m.f5.length ≤ 40000) : ∀ (n i : Nat) (out : List S50), out.length ≤ i → i + n = l.length → Ev (fun k => colophonref15_Copy.l0 k l out (i : Int)) (out ++ l.drop i)
  | 0, i, out, ho, h => by
    refine Ev.step (f := fun _ => some _) (fun k => ?_) (Ev.now _)
    rw [colophonref15_Copy.l0, if_neg (by omega), List.drop_of_length_le (by omega), List.append_nil]
  | n + 1, i, out, ho, h => by
    have h1 : i < l.length := by omega
    have hm := hg _ (List.getElem_mem h1)
    have := copy_l0 l hl hg n (i + 1) (out ++ [l[i]]) (by simp; omega) (by omega)
    rw [List.append_assoc, List.singleton_append, ← List.drop_eq_getElem_cons h1] at this
    refine Ev.step (fun k => ?_) this
    rw [colophonref15_Copy.l0, if_pos (by omega), if_pos (by omega), Option.bind_some, rd_T50_nat h1, if_pos (by simp; omega), if_pos (by omega), wrap_nat (by omega), List.nil_append]
theorem copy_ev (l : List S50) (hl : l.length ≤ 20000) (hg : ∀ m ∈ l, m.f5.length ≤ 40000) : Ev (fun k => colophonref15_Copy.f k l) l := by
  have := copy_l0 l hl hg l.length 0 [] (by simp) (by omega)
  rw [List.drop_zero, List.nil_append] at this
  exact this
theorem refsame_l0 (a b : List S50) (hl : a.length = b.length) (hn : a.length < 1000000000) (hg : ∀ m ∈ a, m.f5.length < 1000000000) : ∀ n i : Nat, i + n = a.length → Ev (fun k => colophonref15_Same.l0 k a b (i : Int)) (alike (a.drop i) (b.drop i))
  | 0, i, h => by
    refine Ev.step (f := fun _ => some _) (fun k => ?_) (Ev.now _)
    rw [colophonref15_Same.l0, if_neg (by omega), List.drop_of_length_le (by omega), List.drop_of_length_le (by omega)]; rfl
  | n + 1, i, h => by
    have h1 : i < a.length := by omega
    have h2 : i < b.length := by omega
    rw [List.drop_eq_getElem_cons h1, List.drop_eq_getElem_cons h2, alike]
    refine Ev.step (f := fun k => (colophonref15_One.f k a[i].f0 a[i].f1 a[i].f2 a[i].f3 a[i].f4 a[i].f5 a[i].f6.f0 a[i].f6.f1 a[i].f6.f2 a[i].f6.f3 b[i].f0 b[i].f1 b[i].f2 b[i].f3 b[i].f4 b[i].f5 b[i].f6.f0 b[i].f6.f1 b[i].f6.f2 b[i].f6.f3).bind fun t => if t = true then colophonref15_Same.l0 k a b ((i + 1 : Nat) : Int) else some false) (fun k => ?_) ?_
    · rw [colophonref15_Same.l0, if_pos (by omega), if_pos (by omega), if_pos (by omega), rd_T50_nat h1, rd_T50_nat h2, wrap_nat (by omega)]
    · refine Ev.bind (one_ev _ _ _ _ _ _ _ _ _ _ _ _ _ _ _ _ _ _ _ _ (hg _ (List.getElem_mem h1))) ?_
      have := ev_ite_false (c := (sameB a[i] b[i] = true)) (fun _ => refsame_l0 a b hl hn hg n (i + 1) (by omega))
      rw [Bool.decide_eq_true] at this
      exact this
theorem refsame_ev (a b : List S50) (hn : a.length < 1000000000) (hg : ∀ m ∈ a, m.f5.length < 1000000000) : Ev (fun k => colophonref15_Same.f k a b) (alike a b) := by
  by_cases hl : a.length = b.length
  · refine Ev.congr (fun k => ?_) (refsame_l0 a b hl hn hg a.length 0 (by omega))
    rw [colophonref15_Same.f, if_pos (by omega)]; rfl
  · refine Ev.congr (f := fun _ => some _) (fun k => ?_) (Ev.now _)
    rw [colophonref15_Same.f, if_neg (by omega), alike_len a b hl]
def wakeMark : S50 := ⟨1, 0, 786432, 4718592, 47218688, [1, 255], ⟨0, 0, 0, 0⟩⟩
theorem wake_lines : allLines [wakeMark] = [66, 84, 10, 47, 70, 48, 32, 49, 50, 32, 84, 102, 10, 49, 32, 48, 32, 48, 32, 49, 32, 55, 50, 32, 55, 50, 48, 46, 53, 32, 84, 109, 10, 60, 48, 48, 48, 49, 48, 48, 102, 102, 62, 32, 84, 106, 10, 69, 84, 10] := by
  have n1 : num 786432 = bs [49, 50] := by
    rw [num, textOut_in _ (by omega) (by omega)]
    show bs ([] ++ (asU (natDigits 12) ++ [])) = _
    rw [natDigits_big (by omega), natDigits_small (by omega)]
    rfl
  have n2 : num 4718592 = bs [55, 50] := by
    rw [num, textOut_in _ (by omega) (by omega)]
    show bs ([] ++ (asU (natDigits 72) ++ [])) = _
    rw [natDigits_big (by omega), natDigits_small (by omega)]
    rfl
  have n3 : num 47218688 = bs [55, 50, 48, 46, 53] := by
    rw [num, textOut_in _ (by omega) (by omega)]
    have e : fracD 16 (47218688 % 65536) = [5] := by decide +kernel
    show bs ([] ++ (asU (natDigits 720) ++ 46 :: asU (fracD 16 (47218688 % 65536)))) = _
    rw [e, natDigits_big (by omega), natDigits_big (by omega), natDigits_small (by omega)]
    rfl
  have f0 : (Lib.itoa 0) = [48] := by
    rw [show (0 : Int) = ((0 : Nat) : Int) from rfl, Lib.itoa_nonneg, decDigits_asU, natDigits_small (by omega)]; rfl
  have g1 : hex4 1 = [48, 48, 48, 49] := by decide
  have g2 : hex4 255 = [48, 48, 102, 102] := by decide
  simp only [allLines, List.map_cons, List.map_nil, List.flatten_cons, List.flatten_nil, List.append_nil, markLines, wakeMark, if_true, textLines, fontWord, n1, n2, n3, f0, g1, g2]
  rfl
theorem wake_out : emitOut [wakeMark] = (bs (allLines [wakeMark]), 0) := by
  rw [emitOut, if_pos (by decide), if_pos (by rw [wake_lines]; decide)]
theorem wakes15_ev : Ev Z.colophonlaw15_wakes.f true := by
  have h1 : emit_Emit.f [wakeMark] = some (bs (allLines [wakeMark]), 0) := by
    rw [emit_Emit.f, if_pos (by decide), wake_out]
  have h2 := check_ev [⟨4, 0, 0, 0, 0, [], ⟨0, 0, 0, 0⟩⟩] (by simp)
  rw [show checkN [⟨4, 0, 0, 0, 0, [], ⟨0, 0, 0, 0⟩⟩] = 150 from by decide] at h2
  refine Ev.congr (f := fun k => (emit_Check.f k [⟨4, 0, 0, 0, 0, [], ⟨0, 0, 0, 0⟩⟩]).bind fun t => some (t == 150)) (fun k => ?_) (Ev.bind h2 (Ev.now _))
  unfold Z.colophonlaw15_wakes.f
  rw [colophonlaw15_text.f, Option.bind_some, show (([(⟨1, 0, 786432, 4718592, 47218688, (([1, 255] : List Int)), (⟨0, 0, 0, 0⟩ : S48)⟩ : S50)] : List (S50))) = [wakeMark] from rfl, h1, Option.bind_some, if_pos rfl, if_pos (by rw [wake_lines, Lib.toList_data]; rfl)]
end Go.Proofs.YtekifiblehmafaaDoor.Y
end
section
set_option linter.unusedVariables false
set_option linter.unusedSimpArgs false
namespace Go.Proofs.YtekifiblehmafaaDoor.Y
open Go.RowKit Go.Proofs.YtekifiblehmafaaDoor.X Go.Proofs.YtekifiblehmafaaDoorW.PrintWords
theorem big_of {l : List S50} (h : ∀ m ∈ l, m.f5.length ≤ 40000) : bigOk l = true := by
  simp only [bigOk, List.all_eq_true, decide_eq_true_eq]
  exact fun m hm => Nat.le_trans (h m hm) (by omega)
theorem small_of {l : List S50} (hl : l.length ≤ 20000) (h : ∀ m ∈ l, m.f5.length ≤ 40000) : smallOk l = true := by
  simp only [smallOk, Bool.and_eq_true, decide_eq_true_eq, List.all_eq_true]
  exact ⟨by omega, fun m hm => Nat.lt_of_le_of_lt (h m hm) (by omega)⟩
theorem emit_f {l : List S50} (h : ∀ m ∈ l, m.f5.length ≤ 40000) : emit_Emit.f l = some (emitOut l) := by rw [emit_Emit.f, if_pos (big_of h)]
theorem refemit_f {l : List S50} (h : ∀ m ∈ l, m.f5.length ≤ 40000) : colophonref15_Emit.f l = some (emitOut l) := by rw [colophonref15_Emit.f, if_pos (big_of h)]
theorem same_f {a b : List S50} (hl : a.length ≤ 20000) (h : ∀ m ∈ a, m.f5.length ≤ 40000) : emit_Same.f a b = some (alike a b) := by rw [emit_Same.f, if_pos (small_of hl h)]
theorem writes_ev (l : List S50) (hf : ∀ m ∈ l, markFits m) : Ev (fun k => Z.colophonlaw15_EmitWrites.f k l) true := by
  obtain ⟨b, h1, h2⟩ := large_ev l hf
  unfold Z.colophonlaw15_EmitWrites.f
  refine Ev.bind h1 ?_
  cases b
  · obtain ⟨hl, hg⟩ := h2 rfl
    simp only [Bool.false_eq_true, if_false]
    refine Ev.bind (copy_ev l hl hg) ?_
    simp only [emit_f hg, refemit_f hg, Option.bind_some, if_true]
    refine Ev.bind (refsame_ev l l (by omega) (fun m hm => Nat.lt_of_le_of_lt (hg m hm) (by omega))) ?_
    simp only [alike_refl, if_true]
    exact Ev.bind wakes15_ev (Ev.now _)
  · simp only [if_true]
    exact Ev.bind wakes15_ev (Ev.now _)
theorem writes_calls (A : Option Addr) (c : Nat) (l : List S50) (W : World) (hG : GW W) (hr : Kd.C k50 W A l.length l) (hc : l.length ≤ c) (hf : ∀ m ∈ l, markFits m) :
    Calls Tryd.prog 3 #[.slice A l.length c] W fun e w' => e = .returned (.bool true) ∧ Below W.heap.size W w' := by
  obtain ⟨k, h⟩ := (writes_ev l hf).rounds
  exact Z.colophonlaw15_EmitWrites.calls k A c l true W ⟨hG⟩ hr hc h
theorem checks_j0 (a b : List S50) (t : Bool) (h : t = false → (a.length ≤ 20000 ∧ ∀ m ∈ a, m.f5.length ≤ 40000) ∧ (b.length ≤ 20000 ∧ ∀ m ∈ b, m.f5.length ≤ 40000)) : Ev (fun k => Z.colophonlaw15_EmitChecks.j0 k a b t) true := by
  cases t
  · obtain ⟨⟨al, ag⟩, ⟨bl, bg⟩⟩ := h rfl
    have ha : ∀ m ∈ a, m.f5.length < 1000000000 := fun m hm => Nat.lt_of_le_of_lt (ag m hm) (by omega)
    refine Ev.step (fun k => by rw [Z.colophonlaw15_EmitChecks.j0, if_neg (by simp)]) ?_
    refine Ev.bind (copy_ev a al ag) (Ev.bind (check_ev a ha) (Ev.bind (refcheck_ev a ha) ?_))
    simp only [if_true]
    refine Ev.bind (copy_ev a al ag) (Ev.bind (copy_ev b bl bg) ?_)
    simp only [same_f al ag, Option.bind_some]
    refine Ev.bind (refsame_ev a b (by omega) ha) ?_
    simp only [beq_self_eq_true, if_true]
    refine Ev.bind (copy_ev a al ag) (Ev.bind (copy_ev a al ag) ?_)
    simp only [same_f al ag, Option.bind_some, alike_refl, if_true]
    exact Ev.bind wakes15_ev (Ev.now _)
  · refine Ev.step (fun k => by rw [Z.colophonlaw15_EmitChecks.j0, if_pos rfl]) ?_
    exact Ev.bind wakes15_ev (Ev.now _)
theorem checks_ev (a b : List S50) (hf : ∀ m ∈ a, markFits m) (hg : ∀ m ∈ b, markFits m) : Ev (fun k => Z.colophonlaw15_EmitChecks.f k a b) true := by
  obtain ⟨p, h1, h2⟩ := large_ev a hf
  obtain ⟨q, h3, h4⟩ := large_ev b hg
  unfold Z.colophonlaw15_EmitChecks.f
  refine Ev.bind h1 ?_
  cases p
  · simp only [Bool.false_eq_true, if_false]
    exact Ev.bind h3 (checks_j0 a b q (fun e => ⟨h2 rfl, h4 e⟩))
  · simp only [if_true]
    exact checks_j0 a b true (fun e => by cases e)
theorem checks_calls (A : Option Addr) (c : Nat) (a : List S50) (B : Option Addr) (d : Nat) (b : List S50) (W : World) (hG : GW W) (hr : Kd.C k50 W A a.length a) (hc : a.length ≤ c) (hf : ∀ m ∈ a, markFits m) (hr2 : Kd.C k50 W B b.length b) (hc2 : b.length ≤ d) (hg : ∀ m ∈ b, markFits m) :
    Calls Tryd.prog 5 #[.slice A a.length c, .slice B b.length d] W fun e w' => e = .returned (.bool true) ∧ Below W.heap.size W w' := by
  obtain ⟨k, h⟩ := (checks_ev a b hf hg).rounds
  exact Z.colophonlaw15_EmitChecks.calls k A c a B d b true W ⟨hG⟩ hr hc hr2 hc2 h
theorem allLines_append (a b : List S50) : allLines (a ++ b) = allLines a ++ allLines b := by simp [allLines]
theorem emitOut_cases (l : List S50) : ((emitOut l).2 = 0 ∧ (emitOut l).1 = bs (allLines l) ∧ (allLines l).length ≤ 1048576) ∨ ((emitOut l).2 ≠ 0 ∧ (emitOut l).1 = bs []) := by
  unfold emitOut
  by_cases h1 : checkN l = 0
  · rw [if_pos h1]
    by_cases h2 : (allLines l).length ≤ 1048576
    · rw [if_pos h2]; exact .inl ⟨rfl, rfl, h2⟩
    · rw [if_neg h2]; exact .inr ⟨by decide, rfl⟩
  · rw [if_neg h1]; exact .inr ⟨by decide, rfl⟩
theorem nil_toList : (bs []).toList = ([] : List UInt8) := by rw [Lib.toList_data]; rfl
theorem joins_j1 (a b c : List S50) (hc : c = a ++ b) : Ev (fun k => Z.colophonlaw15_EmitJoins.j1 k (emitOut a).1 (emitOut a).2 (emitOut b).1 (emitOut b).2 (emitOut c).1 (emitOut c).2 (if (emitOut a).2 = 0 then (if (emitOut b).2 = 0 then ((emitOut c).2 != 0) else true) else true)) true := by
  have W := Ev.bind (f := fun _ t => some t) wakes15_ev (Ev.now _)
  rcases emitOut_cases a with ⟨a1, a2, a3⟩ | ⟨a1, a2⟩
  · rcases emitOut_cases b with ⟨b1, b2, b3⟩ | ⟨b1, b2⟩
    · rcases emitOut_cases c with ⟨c1, c2, c3⟩ | ⟨c1, c2⟩
      · rw [if_pos a1, if_pos b1, show ((emitOut c).2 != 0) = false from by rw [c1]; rfl]
        refine Ev.step (fun k => by rw [Z.colophonlaw15_EmitJoins.j1, if_neg (by simp)]) ?_
        have hs : (bs (allLines a)).size + (bs (allLines b)).size ≤ 9223372036854775807 := by rw [bs_size, bs_size]; omega
        simp only [a2, b2, c2, if_pos hs]
        simp only [bs_append, hc, allLines_append, if_true]
        exact W
      · rw [if_pos a1, if_pos b1, show ((emitOut c).2 != 0) = true from by simpa using c1]
        refine Ev.step (fun k => by rw [Z.colophonlaw15_EmitJoins.j1, if_pos rfl]) ?_
        simp only [if_pos a1, if_pos b1, if_neg c1, c2, nil_toList, if_true]
        exact W
    · rw [if_pos a1, if_neg b1]
      refine Ev.step (fun k => by rw [Z.colophonlaw15_EmitJoins.j1, if_pos rfl]) ?_
      simp only [if_pos a1, if_neg b1, b2, nil_toList, if_true]
      rcases emitOut_cases c with ⟨c1, c2, c3⟩ | ⟨c1, c2⟩
      · simp only [if_pos c1]; exact W
      · simp only [if_neg c1, c2, nil_toList, if_true]; exact W
  · rw [if_neg a1]
    refine Ev.step (fun k => by rw [Z.colophonlaw15_EmitJoins.j1, if_pos rfl]) ?_
    simp only [if_neg a1, a2, nil_toList, if_true]
    rcases emitOut_cases b with ⟨b1, b2, b3⟩ | ⟨b1, b2⟩
    · simp only [if_pos b1]
      rcases emitOut_cases c with ⟨c1, c2, c3⟩ | ⟨c1, c2⟩
      · simp only [if_pos c1]; exact W
      · simp only [if_neg c1, c2, nil_toList, if_true]; exact W
    · simp only [if_neg b1, b2, nil_toList, if_true]
      rcases emitOut_cases c with ⟨c1, c2, c3⟩ | ⟨c1, c2⟩
      · simp only [if_pos c1]; exact W
      · simp only [if_neg c1, c2, nil_toList, if_true]; exact W
theorem joins_j0 (a b : List S50) (t : Bool) (h : t = false → (a.length ≤ 20000 ∧ ∀ m ∈ a, m.f5.length ≤ 40000) ∧ (b.length ≤ 20000 ∧ ∀ m ∈ b, m.f5.length ≤ 40000)) : Ev (fun k => Z.colophonlaw15_EmitJoins.j0 k a b t) true := by
  cases t
  · obtain ⟨⟨al, ag⟩, ⟨bl, bg⟩⟩ := h rfl
    refine Ev.step (fun k => by rw [Z.colophonlaw15_EmitJoins.j0, if_neg (by simp)]) ?_
    refine Ev.bind (copy_ev a al ag) ?_
    simp only [emit_f ag, Option.bind_some]
    refine Ev.bind (copy_ev b bl bg) ?_
    simp only [emit_f bg, Option.bind_some]
    refine Ev.bind (copy_ev a al ag) (Ev.bind (copy_ev b bl bg) ?_)
    have hlen : a.length + b.length < 1466015503701 := by omega
    have hab : ∀ m ∈ a ++ b, m.f5.length ≤ 40000 := fun m hm => by
      rcases List.mem_append.1 hm with hm | hm
      · exact ag m hm
      · exact bg m hm
    simp only [if_pos hlen, emit_f hab, Option.bind_some]
    have := joins_j1 a b (a ++ b) rfl
    by_cases c1 : (emitOut a).2 = 0
    · simp only [if_pos c1] at this ⊢
      by_cases c2 : (emitOut b).2 = 0
      · simp only [if_pos c2] at this ⊢
        exact this
      · simp only [if_neg c2] at this ⊢
        exact this
    · simp only [if_neg c1] at this ⊢
      exact this
  · refine Ev.step (fun k => by rw [Z.colophonlaw15_EmitJoins.j0, if_pos rfl]) ?_
    exact Ev.bind wakes15_ev (Ev.now _)
theorem joins_ev (a b : List S50) (hf : ∀ m ∈ a, markFits m) (hg : ∀ m ∈ b, markFits m) : Ev (fun k => Z.colophonlaw15_EmitJoins.f k a b) true := by
  obtain ⟨p, h1, h2⟩ := large_ev a hf
  obtain ⟨q, h3, h4⟩ := large_ev b hg
  unfold Z.colophonlaw15_EmitJoins.f
  refine Ev.bind h1 ?_
  cases p
  · simp only [Bool.false_eq_true, if_false]
    exact Ev.bind h3 (joins_j0 a b q (fun e => ⟨h2 rfl, h4 e⟩))
  · simp only [if_true]
    exact joins_j0 a b true (fun e => by cases e)
theorem joins_calls (A : Option Addr) (c : Nat) (a : List S50) (B : Option Addr) (d : Nat) (b : List S50) (W : World) (hG : GW W) (hr : Kd.C k50 W A a.length a) (hc : a.length ≤ c) (hf : ∀ m ∈ a, markFits m) (hr2 : Kd.C k50 W B b.length b) (hc2 : b.length ≤ d) (hg : ∀ m ∈ b, markFits m) :
    Calls Tryd.prog 4 #[.slice A a.length c, .slice B b.length d] W fun e w' => e = .returned (.bool true) ∧ Below W.heap.size W w' := by
  obtain ⟨k, h⟩ := (joins_ev a b hf hg).rounds
  exact Z.colophonlaw15_EmitJoins.calls k A c a B d b true W ⟨hG⟩ hr hc hr2 hc2 h
end Go.Proofs.YtekifiblehmafaaDoor.Y
end
