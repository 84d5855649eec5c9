/- A game that comes in, opened. -/
import Derived.Test.YtckdgniecdfedaaGreatDoorMgI
import Derived.ProofKit
import Derived.Deep.Slices
import Derived.Test.YtckdgniecdfedaaGreatDoorRnB
section
/- A claim that comes in, opened. -/
namespace Go.Proofs.YtckdgniecdfedaaGreatDoor
open Go.ChangeShapes Go.WideShapes Go.ChangeAt Go.RowKit

/-- the leaf types of a struct's fields, which lie one behind the other -/
def fieldLeaves (P : Program) (fl : TypeId → Option (List TypeId)) : List Field → Nat → Option (List TypeId)
  | [], _ => some []
  | f :: r, off => if f.offset = off then (match fl f.type with
    | some ts => if P.cellsOf f.type = ts.length then (fieldLeaves P fl r (off + ts.length)).map (ts ++ ·) else none
    | none => none) else none
/-- the leaf types of a type -/
def leafTypes (P : Program) : Nat → TypeId → Option (List TypeId)
  | 0, _ => none
  | n + 1, t => match P.underlying t with
    | some (.struct fs) => (match fieldLeaves P (leafTypes P n) fs.toList 0 with
      | some ts => if P.cellsOf t = ts.length then some ts else none
      | none => none)
    | some (.array _ _) => none
    | _ => some [t]

section
variable {H : Type} {enc : TypeId × Value → H} {P : Program} {W : World}
theorem leaf_one {fuel : Nat} {t : TypeId} {cs : List Value} {x : DataW H × List MemPlace} (hs : ∀ fs, P.underlying t ≠ some (.struct fs)) (ha : ∀ n e, P.underlying t ≠ some (.array n e))
    (h : DataW.trod enc P W 0 (fun _ => true) true fuel t cs = some x) : ∃ v, cs = [v] := by
  cases fuel with
  | zero => simp [DataW.trod] at h
  | succ n =>
    unfold DataW.trod at h
    split at h <;> simp_all
theorem fields_of {n : Nat} {fl : TypeId → Option (List TypeId)} {fs : Array Field} {cs : List Value} {xs : List (DataW H × List MemPlace)} (hlen : xs.length = fs.size)
    (hx : ∀ (i : Nat) (f : Field), fs[i]? = some f → DataW.trod enc P W 0 (fun _ => true) true n f.type ((cs.drop f.offset).take (P.cellsOf f.type)) = xs[i]?)
    (ih : ∀ t ts, fl t = some ts → ∀ cs x, DataW.trod enc P W 0 (fun _ => true) true n t cs = some x → cs.length = ts.length ∧ ∀ (k : Nat) (u : TypeId), ts[k]? = some u → ∃ m y v, m ≤ n ∧ cs[k]? = some v ∧ DataW.trod enc P W 0 (fun _ => true) true m u [v] = some y ∧ ∀ p ∈ y.2, p ∈ x.2) :
    ∀ (l : List Field) (i : Nat), fs.toList.drop i = l → ∀ off ts, fieldLeaves P fl l off = some ts → ∀ (k : Nat) (u : TypeId), ts[k]? = some u →
      ∃ m y v, m ≤ n ∧ cs[off + k]? = some v ∧ DataW.trod enc P W 0 (fun _ => true) true m u [v] = some y ∧ ∀ p ∈ y.2, p ∈ xs.flatMap (·.2) := by
  intro l
  induction l with
  | nil =>
    intro i _ off ts h k u hk
    simp only [fieldLeaves, Option.some.injEq] at h
    subst h
    simp at hk
  | cons f r ihl =>
    intro i hi off ts h k u hk
    have hlt : i < fs.toList.length := by
      rcases Nat.lt_or_ge i fs.toList.length with h | h
      · exact h
      · rw [List.drop_of_length_le h] at hi
        cases hi
    have hf : fs[i]? = some f := by
      have := congrArg List.head? hi
      simp only [List.head?_drop, List.head?_cons] at this
      simpa using this
    have hr : fs.toList.drop (i + 1) = r := by
      have := congrArg List.tail hi
      simpa using this
    unfold fieldLeaves at h
    split at h
    · rename_i hoff
      split at h
      · rename_i ts0 hts
        split at h
        · rename_i hc
          cases hrest : fieldLeaves P fl r (off + ts0.length) with
          | none => rw [hrest] at h; cases h
          | some ts1 =>
            rw [hrest] at h
            simp only [Option.map_some, Option.some.injEq] at h
            subst h
            have hxi := hx i f hf
            have hix : i < xs.length := by rw [hlen]; simpa using hlt
            rw [List.getElem?_eq_getElem hix] at hxi
            have hmem : xs[i] ∈ xs := List.getElem_mem hix
            obtain ⟨hl0, hk0⟩ := ih f.type ts0 hts _ _ hxi
            by_cases hkk : k < ts0.length
            · rw [List.getElem?_append_left hkk] at hk
              obtain ⟨m, y, v, h1, h2, h3, h4⟩ := hk0 k u hk
              refine ⟨m, y, v, h1, ?_, h3, fun p hp => List.mem_flatMap.2 ⟨_, hmem, h4 p hp⟩⟩
              rw [List.getElem?_take, if_pos (by omega), List.getElem?_drop, hoff] at h2
              exact h2
            · rw [List.getElem?_append_right (by omega)] at hk
              obtain ⟨m, y, v, h1, h2, h3, h4⟩ := ihl (i + 1) hr _ _ hrest (k - ts0.length) u hk
              exact ⟨m, y, v, h1, by rw [show off + k = off + ts0.length + (k - ts0.length) by omega]; exact h2, h3, h4⟩
        · cases h
      · cases h
    · cases h
theorem leaves_of : ∀ (n : Nat) (t : TypeId) (ts : List TypeId), leafTypes P n t = some ts → ∀ (fuel : Nat) (cs : List Value) (x : DataW H × List MemPlace), DataW.trod enc P W 0 (fun _ => true) true fuel t cs = some x →
    cs.length = ts.length ∧ ∀ (k : Nat) (u : TypeId), ts[k]? = some u → ∃ m y v, m ≤ fuel ∧ cs[k]? = some v ∧ DataW.trod enc P W 0 (fun _ => true) true m u [v] = some y ∧ ∀ p ∈ y.2, p ∈ x.2
  | 0, _, _, h, _, _, _, _ => by cases h
  | n + 1, t, ts, h, fuel, cs, x, hx => by
    unfold leafTypes at h
    split at h
    · rename_i fs ht
      split at h
      · rename_i ts' hfl
        split at h
        · rename_i hc
          simp only [Option.some.injEq] at h
          subst h
          obtain ⟨xs, n', rfl, rfl, hl, hlen, hall⟩ := DataW.trod_struct ht hx
          refine ⟨hl.trans hc, fun k u hk => ?_⟩
          have := fields_of (enc := enc) (W := W) (fl := leafTypes P n) hlen hall (fun t ts h cs x hx => leaves_of n t ts h n' cs x hx) fs.toList 0 rfl 0 _ hfl k u hk
          obtain ⟨m, y, v, h1, h2, h3, h4⟩ := this
          exact ⟨m, y, v, by omega, by simpa using h2, h3, h4⟩
        · cases h
      · cases h
    · cases h
    · rename_i hs ha
      simp only [Option.some.injEq] at h
      subst h
      obtain ⟨v, rfl⟩ := leaf_one (fun fs e => hs fs e) (fun n e he => ha n e he) hx
      refine ⟨rfl, fun k u hk => ?_⟩
      cases k with
      | succ k => simp at hk
      | zero =>
        simp only [List.getElem?_cons_zero, Option.some.injEq] at hk
        subst hk
        exact ⟨fuel, x, v, Nat.le_refl _, rfl, hx, fun p hp => hp⟩

/-- a slice whose elements can be read -/
theorem open_list {α : Type} {G : List Value → α → Prop} {t e : TypeId} {ts : List TypeId} (ht : P.underlying t = some (.slice e)) (hc : P.cellsOf e = ts.length) (hpos : 0 < ts.length) {fuel : Nat} {v : Value} {x : DataW H × List MemPlace}
    (hG : ∀ m cs y, m < fuel → DataW.trod enc P W 0 (fun _ => true) true m e cs = some y → (∀ p ∈ y.2, p.block < W.heap.size) → ∃ s : α, G cs s)
    (hx : DataW.trod enc P W 0 (fun _ => true) true fuel t [v] = some x) (hlt : ∀ p ∈ x.2, p.block < W.heap.size) :
    ∃ (a : Option Addr) (c : Nat) (l : List α), v = .slice a l.length c ∧ l.length ≤ c ∧ l.length ≤ 9223372036854775807 ∧ (l ≠ [] → ∃ b off, a = some ⟨b, off, none⟩ ∧ b < W.heap.size ∧
      ∀ j (h : j < l.length), ∃ cs, cs.length = ts.length ∧ (∀ i, i < ts.length → W.cell? ⟨b, off + j * ts.length + i, none⟩ = cs[i]?) ∧ G cs l[j]) := by
  rcases DataW.trod_slice ht hx with ⟨hcs, -⟩ | ⟨a, len, cap, elems, rest, n, hfu, hcs, rfl, -, hl, hm, hel, hin, -⟩
  · simp only [List.cons.injEq, and_true] at hcs
    exact ⟨none, 0, [], hcs, Nat.le_refl _, by simp, fun h => absurd rfl h⟩
  · simp only [List.cons.injEq, and_true] at hcs
    have hm' : len ≤ 9223372036854775807 := by have : maxLen = 9223372036854775807 := rfl; omega
    rw [hc] at hin
    -- each element
    have each : ∀ j, j < len → ∃ (cs : List Value) (s : α), (W.cells? 0 (a.add (j * ts.length)) ts.length = some cs) ∧ cs.length = ts.length ∧ G cs s := fun j hj => by
      have h1 := hin j hj
      rw [List.getElem?_eq_getElem (by omega)] at h1
      obtain ⟨cs, h2, h3⟩ := Option.bind_eq_some_iff.1 h1
      obtain ⟨s, hs⟩ := hG n cs _ (by omega) h3 fun p hp => hlt p (by
        refine List.mem_append_right _ (List.mem_flatMap.2 ⟨elems[j]'(by omega), List.mem_append_left _ (List.getElem_mem _), hp⟩))
      exact ⟨cs, s, h2, (World.cells?_some h2).2.1, hs⟩
    by_cases h0 : len = 0
    · subst h0
      exact ⟨some a, cap, [], hcs, Nat.zero_le _, by simp, fun h => absurd rfl h⟩
    have ha : a.spot = none := by
      obtain ⟨cs, s, h1, h2, -⟩ := each 0 (by omega)
      have h3 := (World.cells?_some h1).2.2 0 (by omega)
      rw [List.getElem?_eq_getElem (by omega)] at h3
      have := World.cell?_spot h3
      simpa [Addr.add] using this
    obtain ⟨b, off, spot⟩ := a
    simp only at ha
    subst ha
    have hb : b < W.heap.size := hlt (.cell b off) (List.mem_append_left _ (MemPlace.mem_row.2 ⟨0, by rw [hc]; exact Nat.mul_pos (by omega) hpos, by simp⟩))
    obtain ⟨F, hF⟩ : ∃ F : Nat → α, ∀ j, j < len → ∃ cs, W.cells? 0 ((⟨b, off, none⟩ : Addr).add (j * ts.length)) ts.length = some cs ∧ cs.length = ts.length ∧ G cs (F j) := by
      obtain ⟨_, s0, _⟩ := each 0 (by omega)
      classical
      refine ⟨fun j => if h : j < len then Classical.choose (Classical.choose_spec (each j h)) else s0, fun j hj => ?_⟩
      simp only [hj, dif_pos]
      exact ⟨_, Classical.choose_spec (Classical.choose_spec (each j hj))⟩
    refine ⟨some ⟨b, off, none⟩, cap, (List.range len).map F, by simpa using hcs, by simpa using hl, by simpa using hm', fun _ => ⟨b, off, rfl, hb, fun j hj => ?_⟩⟩
    have hj' : j < len := by simpa using hj
    obtain ⟨cs, h1, h2, h3⟩ := hF j hj'
    refine ⟨cs, h2, fun i hi => ?_, by simpa using h3⟩
    have h4 := (World.cells?_some h1).2.2 i (by omega)
    rw [add_plain, add_plain] at h4
    exact h4
end
end Go.Proofs.YtckdgniecdfedaaGreatDoor
end
section
/- The parts of a claim that comes in, opened. -/
namespace Go.Proofs.YtckdgniecdfedaaGreatDoor
open Go.ChangeShapes Go.WideShapes Go.ChangeAt Go.RowKit

theorem Tryz.leaves3 : leafTypes Tryz.prog 4 3 = some [3] := by kernel_rfl
theorem Tryz.leaves25 : leafTypes Tryz.prog 4 25 = some [25] := by kernel_rfl
theorem Tryz.cellsOf3 : Tryz.prog.cellsOf 3 = 1 := by kernel_rfl
theorem Tryz.cellsOf25 : Tryz.prog.cellsOf 25 = 1 := by kernel_rfl
theorem Tryz.slice25 : Tryz.prog.underlying 25 = some (.slice 3) := by kernel_rfl
theorem Tryz.slice37 : Tryz.prog.underlying 37 = some (.slice 25) := by kernel_rfl
theorem Tryz.int3 : Tryz.prog.underlying 3 = some (.int .i64) := by kernel_rfl

section
variable {H : Type} {enc : TypeId × Value → H} {W : World}
theorem leaf_int {m : Nat} {v : Value} {y : DataW H × List MemPlace} (h : DataW.trod enc Tryz.prog W 0 (fun _ => true) true m 3 [v] = some y) : ∃ z, v = .int .i64 z := by
  obtain ⟨z, e, -⟩ := DataW.trod_int Tryz.int3 h
  exact ⟨z, by simpa using e⟩
theorem leaf_nums {m : Nat} {v : Value} {y : DataW H × List MemPlace} (h : DataW.trod enc Tryz.prog W 0 (fun _ => true) true m 25 [v] = some y) (hlt : ∀ p ∈ y.2, p.block < W.heap.size) :
    ∃ a c l, v = .slice a l.length c ∧ Nums W (.slice a l.length c) l ∧ l.length ≤ 9223372036854775807 := by
  obtain ⟨a, c, l, rfl, -, hl, hr⟩ := open_list (G := fun cs (z : Int) => cs = [.int .i64 z]) (ts := [3]) Tryz.slice25 Tryz.cellsOf3 (by decide) (fun m cs y _ hy _ => by
    obtain ⟨hlen, hk⟩ := leaves_of 4 3 [3] Tryz.leaves3 m cs y hy
    obtain ⟨m0, y0, v0, -, e0, h0, -⟩ := hk 0 3 rfl
    obtain ⟨z, rfl⟩ := leaf_int h0
    match cs, hlen, e0 with
    | [c0], _, e0 => exact ⟨z, by simpa using e0⟩) h hlt
  refine ⟨a, c, l, rfl, ⟨a, c, rfl, fun h => ?_⟩, hl⟩
  obtain ⟨b, off, e, hb, hc⟩ := hr h
  refine ⟨b, off, e, hb, fun j hj => ?_⟩
  obtain ⟨cs, _, h2, rfl⟩ := hc j hj
  have := h2 0 (by decide)
  simp only [List.length_cons, List.length_nil, Nat.zero_add, Nat.mul_one, Nat.add_zero, List.getElem?_cons_zero] at this
  rw [this]
  simp [hj]
end
end Go.Proofs.YtckdgniecdfedaaGreatDoor
end
section
/- A game that comes in, opened. -/
namespace Go.Proofs.YtckdgniecdfedaaGreatDoor
open Go.ChangeShapes Go.WideShapes Go.ChangeAt Go.RowKit

theorem Tryz.leaves39 : leafTypes Tryz.prog 4 39 = some [25, 25, 37] := by kernel_rfl
section
variable {H : Type} {enc : TypeId × Value → H} {W : World}
theorem leaf_caps {m : Nat} {v : Value} {y : DataW H × List MemPlace} (h : DataW.trod enc Tryz.prog W 0 (fun _ => true) true m 25 [v] = some y) : ∃ a n c, v = .slice a n c ∧ n ≤ c ∧ c ≤ 9223372036854775807 := by
  rcases DataW.trod_slice Tryz.slice25 h with ⟨hcs, -⟩ | ⟨a, len, cap, elems, rest, n, hfu, hcs, rfl, -, hl, hm, hel, hin, -⟩
  · simp only [List.cons.injEq, and_true] at hcs
    exact ⟨none, 0, 0, hcs, Nat.le_refl _, by omega⟩
  · simp only [List.cons.injEq, and_true] at hcs
    have : maxLen = 9223372036854775807 := rfl
    exact ⟨a, len, cap, hcs, hl, by omega⟩
theorem leaf_rowsC {m : Nat} {v : Value} {y : DataW H × List MemPlace} (h : DataW.trod enc Tryz.prog W 0 (fun _ => true) true m 37 [v] = some y) (hlt : ∀ p ∈ y.2, p.block < W.heap.size) :
    ∃ a c l, v = .slice a l.length c ∧ RowsC W (.slice a l.length c) l := by
  obtain ⟨a, c, l, rfl, -, hl, hr⟩ := open_list (G := fun cs (r : List Int) => ∃ a c, cs = [.slice a r.length c] ∧ Nums W (.slice a r.length c) r ∧ r.length ≤ 9223372036854775807 ∧ r.length ≤ c ∧ c ≤ 9223372036854775807) (ts := [25]) Tryz.slice37 Tryz.cellsOf25 (by decide) (fun m cs y _ hy hp => by
    obtain ⟨hlen, hk⟩ := leaves_of 4 25 [25] Tryz.leaves25 m cs y hy
    obtain ⟨m0, y0, v0, -, e0, h0, p0⟩ := hk 0 25 rfl
    obtain ⟨a', n', c', e', g1, g2⟩ := leaf_caps h0
    obtain ⟨a, c, r, rfl, hn, hl⟩ := leaf_nums h0 (fun p h => hp p (p0 p h))
    simp only [Value.slice.injEq] at e'
    obtain ⟨rfl, rfl, rfl⟩ := e'
    match cs, hlen, e0 with
    | [c0], _, e0 => exact ⟨r, a, c, by simpa using e0, hn, hl, g1, g2⟩) h hlt
  refine ⟨a, c, l, rfl, ⟨a, c, rfl, hl, fun h => ?_⟩⟩
  obtain ⟨b, off, e, hb, hc⟩ := hr h
  refine ⟨b, off, e, hb, fun j hj => ?_⟩
  obtain ⟨cs, _, h2, a', c', rfl, hn, hl', hc1, hc2⟩ := hc j hj
  have := h2 0 (by decide)
  simp only [List.length_cons, List.length_nil, Nat.zero_add, Nat.mul_one, Nat.add_zero, List.getElem?_cons_zero] at this
  exact ⟨hl', a', c', this, hc1, hc2, hn⟩
set_option maxRecDepth 100000 in
theorem open_game {fs : Array Field} (hu : Tryz.prog.underlying 39 = some (.struct fs)) {base : Nat} {v : Value} {d : DataW H} {p : List MemPlace} (hok : Value.okWide Tryz.prog W .any base 39 v) (h : DataW.Trod enc Tryz.prog W 0 (fun _ => true) true 39 v d p) (hlt : ∀ x ∈ p, x.block < W.heap.size) :
    ∃ (a0 a1 a2 : Option Addr) (c0 c1 c2 : Nat) (o q : List Int) (s : List (List Int)), v = .agg #[.slice a0 o.length c0, .slice a1 q.length c1, .slice a2 s.length c2] ∧ Nums W (.slice a0 o.length c0) o ∧ Nums W (.slice a1 q.length c1) q ∧ o.length ≤ 9223372036854775807 ∧ q.length ≤ 9223372036854775807 ∧ RowsC W (.slice a2 s.length c2) s := by
  obtain ⟨cs0, rfl, -⟩ := okWide_struct hu hok
  obtain ⟨fuel, hf⟩ := h
  obtain ⟨cs, hcs⟩ : ∃ cs : List Value, cs0 = cs.toArray := ⟨cs0.toList, by simp⟩
  subst hcs
  have hf' : DataW.trod enc Tryz.prog W 0 (fun _ => true) true fuel 39 cs = some (d, p) := by simpa [Value.cells] using hf
  obtain ⟨hlen, hk⟩ := leaves_of 4 39 _ Tryz.leaves39 fuel cs (d, p) hf'
  clear hf hf' hok
  obtain ⟨m0, y0, v0, -, e0, h0, p0⟩ := hk 0 25 rfl
  obtain ⟨m1, y1, v1, -, e1, h1, p1⟩ := hk 1 25 rfl
  obtain ⟨m2, y2, v2, -, e2, h2, p2⟩ := hk 2 37 rfl
  clear hk
  obtain ⟨a0, c0, l0, rfl, n0, b0⟩ := leaf_nums h0 (fun q hq => hlt q (p0 q hq))
  obtain ⟨a1, c1, l1, rfl, n1, b1⟩ := leaf_nums h1 (fun q hq => hlt q (p1 q hq))
  obtain ⟨a2, c2, l2, rfl, n2⟩ := leaf_rowsC h2 (fun q hq => hlt q (p2 q hq))
  match cs, hlen, e0, e1, e2 with
  | [d0, d1, d2], _, e0, e1, e2 =>
    simp only [List.getElem?_cons_zero, List.getElem?_cons_succ, Option.some.injEq] at e0 e1 e2
    subst e0 e1 e2
    exact ⟨a0, a1, a2, c0, c1, c2, l0, l1, l2, rfl, n0, n1, b0, b1, n2⟩
end
end Go.Proofs.YtckdgniecdfedaaGreatDoor
end
