/- A claim that comes in, opened. -/
import Derived.Test.YtckdgniecdfedaaGreatDoorCmp13
import Derived.ProofKit
import Derived.Deep.Slices
section
/- A claim that comes in, opened. -/
namespace Go.Proofs.YtckdgniecdfedaaGreatDoor
open Go.ChangeShapes Go.WideShapes Go.ChangeAt Go.RowKit

/-- the leaf types of a struct's fields, which lie one behind the other -/
def fieldLeaves (P : Program) (fl : TypeId → Option (List TypeId)) : List Field → Nat → Option (List TypeId)
  | [], _ => some []
  | f :: r, off => if f.offset = off then (match fl f.type with
    | some ts => if P.cellsOf f.type = ts.length then (fieldLeaves P fl r (off + ts.length)).map (ts ++ ·) else none
    | none => none) else none
/-- the leaf types of a type -/
def leafTypes (P : Program) : Nat → TypeId → Option (List TypeId)
  | 0, _ => none
  | n + 1, t => match P.underlying t with
    | some (.struct fs) => (match fieldLeaves P (leafTypes P n) fs.toList 0 with
      | some ts => if P.cellsOf t = ts.length then some ts else none
      | none => none)
    | some (.array _ _) => none
    | _ => some [t]

section
variable {H : Type} {enc : TypeId × Value → H} {P : Program} {W : World}
theorem leaf_one {fuel : Nat} {t : TypeId} {cs : List Value} {x : DataW H × List MemPlace} (hs : ∀ fs, P.underlying t ≠ some (.struct fs)) (ha : ∀ n e, P.underlying t ≠ some (.array n e))
    (h : DataW.trod enc P W 0 (fun _ => true) true fuel t cs = some x) : ∃ v, cs = [v] := by
  cases fuel with
  | zero => simp [DataW.trod] at h
  | succ n =>
    unfold DataW.trod at h
    split at h <;> simp_all
theorem fields_of {n : Nat} {fl : TypeId → Option (List TypeId)} {fs : Array Field} {cs : List Value} {xs : List (DataW H × List MemPlace)} (hlen : xs.length = fs.size)
    (hx : ∀ (i : Nat) (f : Field), fs[i]? = some f → DataW.trod enc P W 0 (fun _ => true) true n f.type ((cs.drop f.offset).take (P.cellsOf f.type)) = xs[i]?)
    (ih : ∀ t ts, fl t = some ts → ∀ cs x, DataW.trod enc P W 0 (fun _ => true) true n t cs = some x → cs.length = ts.length ∧ ∀ (k : Nat) (u : TypeId), ts[k]? = some u → ∃ m y v, m ≤ n ∧ cs[k]? = some v ∧ DataW.trod enc P W 0 (fun _ => true) true m u [v] = some y ∧ ∀ p ∈ y.2, p ∈ x.2) :
    ∀ (l : List Field) (i : Nat), fs.toList.drop i = l → ∀ off ts, fieldLeaves P fl l off = some ts → ∀ (k : Nat) (u : TypeId), ts[k]? = some u →
      ∃ m y v, m ≤ n ∧ cs[off + k]? = some v ∧ DataW.trod enc P W 0 (fun _ => true) true m u [v] = some y ∧ ∀ p ∈ y.2, p ∈ xs.flatMap (·.2) := by
  intro l
  induction l with
  | nil =>
    intro i _ off ts h k u hk
    simp only [fieldLeaves, Option.some.injEq] at h
    subst h
    simp at hk
  | cons f r ihl =>
    intro i hi off ts h k u hk
    have hlt : i < fs.toList.length := by
      rcases Nat.lt_or_ge i fs.toList.length with h | h
      · exact h
      · rw [List.drop_of_length_le h] at hi
        cases hi
    have hf : fs[i]? = some f := by
      have := congrArg List.head? hi
      simp only [List.head?_drop, List.head?_cons] at this
      simpa using this
    have hr : fs.toList.drop (i + 1) = r := by
      have := congrArg List.tail hi
      simpa using this
    unfold fieldLeaves at h
    split at h
    · rename_i hoff
      split at h
      · rename_i ts0 hts
        split at h
        · rename_i hc
          cases hrest : fieldLeaves P fl r (off + ts0.length) with
          | none => rw [hrest] at h; cases h
          | some ts1 =>
            rw [hrest] at h
            simp only [Option.map_some, Option.some.injEq] at h
            subst h
            have hxi := hx i f hf
            have hix : i < xs.length := by rw [hlen]; simpa using hlt
            rw [List.getElem?_eq_getElem hix] at hxi
            have hmem : xs[i] ∈ xs := List.getElem_mem hix
            obtain ⟨hl0, hk0⟩ := ih f.type ts0 hts _ _ hxi
            by_cases hkk : k < ts0.length
            · rw [List.getElem?_append_left hkk] at hk
              obtain ⟨m, y, v, h1, h2, h3, h4⟩ := hk0 k u hk
              refine ⟨m, y, v, h1, ?_, h3, fun p hp => List.mem_flatMap.2 ⟨_, hmem, h4 p hp⟩⟩
              rw [List.getElem?_take, if_pos (by omega), List.getElem?_drop, hoff] at h2
              exact h2
            · rw [List.getElem?_append_right (by omega)] at hk
              obtain ⟨m, y, v, h1, h2, h3, h4⟩ := ihl (i + 1) hr _ _ hrest (k - ts0.length) u hk
              exact ⟨m, y, v, h1, by rw [show off + k = off + ts0.length + (k - ts0.length) by omega]; exact h2, h3, h4⟩
        · cases h
      · cases h
    · cases h
theorem leaves_of : ∀ (n : Nat) (t : TypeId) (ts : List TypeId), leafTypes P n t = some ts → ∀ (fuel : Nat) (cs : List Value) (x : DataW H × List MemPlace), DataW.trod enc P W 0 (fun _ => true) true fuel t cs = some x →
    cs.length = ts.length ∧ ∀ (k : Nat) (u : TypeId), ts[k]? = some u → ∃ m y v, m ≤ fuel ∧ cs[k]? = some v ∧ DataW.trod enc P W 0 (fun _ => true) true m u [v] = some y ∧ ∀ p ∈ y.2, p ∈ x.2
  | 0, _, _, h, _, _, _, _ => by cases h
  | n + 1, t, ts, h, fuel, cs, x, hx => by
    unfold leafTypes at h
    split at h
    · rename_i fs ht
      split at h
      · rename_i ts' hfl
        split at h
        · rename_i hc
          simp only [Option.some.injEq] at h
          subst h
          obtain ⟨xs, n', rfl, rfl, hl, hlen, hall⟩ := DataW.trod_struct ht hx
          refine ⟨hl.trans hc, fun k u hk => ?_⟩
          have := fields_of (enc := enc) (W := W) (fl := leafTypes P n) hlen hall (fun t ts h cs x hx => leaves_of n t ts h n' cs x hx) fs.toList 0 rfl 0 _ hfl k u hk
          obtain ⟨m, y, v, h1, h2, h3, h4⟩ := this
          exact ⟨m, y, v, by omega, by simpa using h2, h3, h4⟩
        · cases h
      · cases h
    · cases h
    · rename_i hs ha
      simp only [Option.some.injEq] at h
      subst h
      obtain ⟨v, rfl⟩ := leaf_one (fun fs e => hs fs e) (fun n e he => ha n e he) hx
      refine ⟨rfl, fun k u hk => ?_⟩
      cases k with
      | succ k => simp at hk
      | zero =>
        simp only [List.getElem?_cons_zero, Option.some.injEq] at hk
        subst hk
        exact ⟨fuel, x, v, Nat.le_refl _, rfl, hx, fun p hp => hp⟩

/-- a slice whose elements can be read -/
theorem open_list {α : Type} {G : List Value → α → Prop} {t e : TypeId} {ts : List TypeId} (ht : P.underlying t = some (.slice e)) (hc : P.cellsOf e = ts.length) (hpos : 0 < ts.length) {fuel : Nat} {v : Value} {x : DataW H × List MemPlace}
    (hG : ∀ m cs y, m < fuel → DataW.trod enc P W 0 (fun _ => true) true m e cs = some y → (∀ p ∈ y.2, p.block < W.heap.size) → ∃ s : α, G cs s)
    (hx : DataW.trod enc P W 0 (fun _ => true) true fuel t [v] = some x) (hlt : ∀ p ∈ x.2, p.block < W.heap.size) :
    ∃ (a : Option Addr) (c : Nat) (l : List α), v = .slice a l.length c ∧ l.length ≤ c ∧ l.length ≤ 9223372036854775807 ∧ (l ≠ [] → ∃ b off, a = some ⟨b, off, none⟩ ∧ b < W.heap.size ∧
      ∀ j (h : j < l.length), ∃ cs, cs.length = ts.length ∧ (∀ i, i < ts.length → W.cell? ⟨b, off + j * ts.length + i, none⟩ = cs[i]?) ∧ G cs l[j]) := by
  rcases DataW.trod_slice ht hx with ⟨hcs, -⟩ | ⟨a, len, cap, elems, rest, n, hfu, hcs, rfl, -, hl, hm, hel, hin, -⟩
  · simp only [List.cons.injEq, and_true] at hcs
    exact ⟨none, 0, [], hcs, Nat.le_refl _, by simp, fun h => absurd rfl h⟩
  · simp only [List.cons.injEq, and_true] at hcs
    have hm' : len ≤ 9223372036854775807 := by have : maxLen = 9223372036854775807 := rfl; omega
    rw [hc] at hin
    -- each element
    have each : ∀ j, j < len → ∃ (cs : List Value) (s : α), (W.cells? 0 (a.add (j * ts.length)) ts.length = some cs) ∧ cs.length = ts.length ∧ G cs s := fun j hj => by
      have h1 := hin j hj
      rw [List.getElem?_eq_getElem (by omega)] at h1
      obtain ⟨cs, h2, h3⟩ := Option.bind_eq_some_iff.1 h1
      obtain ⟨s, hs⟩ := hG n cs _ (by omega) h3 fun p hp => hlt p (by
        refine List.mem_append_right _ (List.mem_flatMap.2 ⟨elems[j]'(by omega), List.mem_append_left _ (List.getElem_mem _), hp⟩))
      exact ⟨cs, s, h2, (World.cells?_some h2).2.1, hs⟩
    by_cases h0 : len = 0
    · subst h0
      exact ⟨some a, cap, [], hcs, Nat.zero_le _, by simp, fun h => absurd rfl h⟩
    have ha : a.spot = none := by
      obtain ⟨cs, s, h1, h2, -⟩ := each 0 (by omega)
      have h3 := (World.cells?_some h1).2.2 0 (by omega)
      rw [List.getElem?_eq_getElem (by omega)] at h3
      have := World.cell?_spot h3
      simpa [Addr.add] using this
    obtain ⟨b, off, spot⟩ := a
    simp only at ha
    subst ha
    have hb : b < W.heap.size := hlt (.cell b off) (List.mem_append_left _ (MemPlace.mem_row.2 ⟨0, by rw [hc]; exact Nat.mul_pos (by omega) hpos, by simp⟩))
    obtain ⟨F, hF⟩ : ∃ F : Nat → α, ∀ j, j < len → ∃ cs, W.cells? 0 ((⟨b, off, none⟩ : Addr).add (j * ts.length)) ts.length = some cs ∧ cs.length = ts.length ∧ G cs (F j) := by
      obtain ⟨_, s0, _⟩ := each 0 (by omega)
      classical
      refine ⟨fun j => if h : j < len then Classical.choose (Classical.choose_spec (each j h)) else s0, fun j hj => ?_⟩
      simp only [hj, dif_pos]
      exact ⟨_, Classical.choose_spec (Classical.choose_spec (each j hj))⟩
    refine ⟨some ⟨b, off, none⟩, cap, (List.range len).map F, by simpa using hcs, by simpa using hl, by simpa using hm', fun _ => ⟨b, off, rfl, hb, fun j hj => ?_⟩⟩
    have hj' : j < len := by simpa using hj
    obtain ⟨cs, h1, h2, h3⟩ := hF j hj'
    refine ⟨cs, h2, fun i hi => ?_, by simpa using h3⟩
    have h4 := (World.cells?_some h1).2.2 i (by omega)
    rw [add_plain, add_plain] at h4
    exact h4
end
end Go.Proofs.YtckdgniecdfedaaGreatDoor
end
section
/- The parts of a claim that comes in, opened. -/
namespace Go.Proofs.YtckdgniecdfedaaGreatDoor
open Go.ChangeShapes Go.WideShapes Go.ChangeAt Go.RowKit

theorem Tryz.leaves3 : leafTypes Tryz.prog 4 3 = some [3] := by kernel_rfl
theorem Tryz.leaves25 : leafTypes Tryz.prog 4 25 = some [25] := by kernel_rfl
theorem Tryz.leaves73 : leafTypes Tryz.prog 4 73 = some [9, 4, 3] := by kernel_rfl
theorem Tryz.leaves144 : leafTypes Tryz.prog 4 144 = some [3, 3, 25, 3, 3] := by kernel_rfl
theorem Tryz.leaves48 : leafTypes Tryz.prog 4 48 = some [3, 9, 3, 3, 46] := by kernel_rfl
theorem Tryz.leaves59 : leafTypes Tryz.prog 4 59 = some [3, 45, 3, 9, 3, 3, 46, 3, 3, 3, 37, 37, 3, 3, 3, 25, 37, 57, 25, 25, 37, 37, 25, 46] := by kernel_rfl
theorem Tryz.cellsOf3 : Tryz.prog.cellsOf 3 = 1 := by kernel_rfl
theorem Tryz.cellsOf25 : Tryz.prog.cellsOf 25 = 1 := by kernel_rfl
theorem Tryz.cellsOf73 : Tryz.prog.cellsOf 73 = 3 := by kernel_rfl
theorem Tryz.cellsOf144 : Tryz.prog.cellsOf 144 = 5 := by kernel_rfl
theorem Tryz.cellsOf48 : Tryz.prog.cellsOf 48 = 5 := by kernel_rfl
theorem Tryz.slice25 : Tryz.prog.underlying 25 = some (.slice 3) := by kernel_rfl
theorem Tryz.slice37 : Tryz.prog.underlying 37 = some (.slice 25) := by kernel_rfl
theorem Tryz.slice45 : Tryz.prog.underlying 45 = some (.slice 73) := by kernel_rfl
theorem Tryz.slice46 : Tryz.prog.underlying 46 = some (.slice 48) := by kernel_rfl
theorem Tryz.slice57 : Tryz.prog.underlying 57 = some (.slice 144) := by kernel_rfl
theorem Tryz.int3 : Tryz.prog.underlying 3 = some (.int .i64) := by kernel_rfl
theorem Tryz.bool4 : Tryz.prog.underlying 4 = some .bool := by kernel_rfl
theorem Tryz.string9 : Tryz.prog.underlying 9 = some .string := by kernel_rfl

section
variable {H : Type} {enc : TypeId × Value → H} {W : World}
theorem leaf_int {m : Nat} {v : Value} {y : DataW H × List MemPlace} (h : DataW.trod enc Tryz.prog W 0 (fun _ => true) true m 3 [v] = some y) : ∃ z, v = .int .i64 z := by
  obtain ⟨z, e, -⟩ := DataW.trod_int Tryz.int3 h
  exact ⟨z, by simpa using e⟩
theorem leaf_bool {m : Nat} {v : Value} {y : DataW H × List MemPlace} (h : DataW.trod enc Tryz.prog W 0 (fun _ => true) true m 4 [v] = some y) : ∃ z, v = .bool z := by
  obtain ⟨z, e, -⟩ := DataW.trod_bool Tryz.bool4 h
  exact ⟨z, by simpa using e⟩
theorem leaf_string {m : Nat} {v : Value} {y : DataW H × List MemPlace} (h : DataW.trod enc Tryz.prog W 0 (fun _ => true) true m 9 [v] = some y) : ∃ s : ByteArray, v = .string s ∧ s.size ≤ 9223372036854775807 := by
  obtain ⟨s, e, -, hs⟩ := DataW.trod_string Tryz.string9 h
  exact ⟨s, by simpa using e, hs⟩
theorem leaf_nums {m : Nat} {v : Value} {y : DataW H × List MemPlace} (h : DataW.trod enc Tryz.prog W 0 (fun _ => true) true m 25 [v] = some y) (hlt : ∀ p ∈ y.2, p.block < W.heap.size) :
    ∃ a c l, v = .slice a l.length c ∧ Nums W (.slice a l.length c) l ∧ l.length ≤ 9223372036854775807 := by
  obtain ⟨a, c, l, rfl, -, hl, hr⟩ := open_list (G := fun cs (z : Int) => cs = [.int .i64 z]) (ts := [3]) Tryz.slice25 Tryz.cellsOf3 (by decide) (fun m cs y _ hy _ => by
    obtain ⟨hlen, hk⟩ := leaves_of 4 3 [3] Tryz.leaves3 m cs y hy
    obtain ⟨m0, y0, v0, -, e0, h0, -⟩ := hk 0 3 rfl
    obtain ⟨z, rfl⟩ := leaf_int h0
    match cs, hlen, e0 with
    | [c0], _, e0 => exact ⟨z, by simpa using e0⟩) h hlt
  refine ⟨a, c, l, rfl, ⟨a, c, rfl, fun h => ?_⟩, hl⟩
  obtain ⟨b, off, e, hb, hc⟩ := hr h
  refine ⟨b, off, e, hb, fun j hj => ?_⟩
  obtain ⟨cs, _, h2, rfl⟩ := hc j hj
  have := h2 0 (by decide)
  simp only [List.length_cons, List.length_nil, Nat.zero_add, Nat.mul_one, Nat.add_zero, List.getElem?_cons_zero] at this
  rw [this]
  simp [hj]
theorem leaf_rows {m : Nat} {v : Value} {y : DataW H × List MemPlace} (h : DataW.trod enc Tryz.prog W 0 (fun _ => true) true m 37 [v] = some y) (hlt : ∀ p ∈ y.2, p.block < W.heap.size) :
    ∃ a c l, v = .slice a l.length c ∧ RowsV W (.slice a l.length c) l := by
  obtain ⟨a, c, l, rfl, -, hl, hr⟩ := open_list (G := fun cs (r : List Int) => ∃ a c, cs = [.slice a r.length c] ∧ Nums W (.slice a r.length c) r ∧ r.length ≤ 9223372036854775807) (ts := [25]) Tryz.slice37 Tryz.cellsOf25 (by decide) (fun m cs y _ hy hp => by
    obtain ⟨hlen, hk⟩ := leaves_of 4 25 [25] Tryz.leaves25 m cs y hy
    obtain ⟨m0, y0, v0, -, e0, h0, p0⟩ := hk 0 25 rfl
    obtain ⟨a, c, r, rfl, hn, hl⟩ := leaf_nums h0 (fun p h => hp p (p0 p h))
    match cs, hlen, e0 with
    | [c0], _, e0 => exact ⟨r, a, c, by simpa using e0, hn, hl⟩) h hlt
  refine ⟨a, c, l, rfl, ⟨a, c, rfl, hl, fun h => ?_⟩⟩
  obtain ⟨b, off, e, hb, hc⟩ := hr h
  refine ⟨b, off, e, hb, fun j hj => ?_⟩
  obtain ⟨cs, _, h2, a', c', rfl, hn, hl'⟩ := hc j hj
  have := h2 0 (by decide)
  simp only [List.length_cons, List.length_nil, Nat.zero_add, Nat.mul_one, Nat.add_zero, List.getElem?_cons_zero] at this
  exact ⟨hl', a', c', this, hn⟩
theorem leaf_sigs {m : Nat} {v : Value} {y : DataW H × List MemPlace} (h : DataW.trod enc Tryz.prog W 0 (fun _ => true) true m 45 [v] = some y) (hlt : ∀ p ∈ y.2, p.block < W.heap.size) :
    ∃ a c l, v = .slice a l.length c ∧ SgV W (.slice a l.length c) l := by
  obtain ⟨a, c, l, rfl, -, hl, hr⟩ := open_list (G := fun cs (s : Sg) => cs = [.string s.name, .bool s.input, .int .i64 s.size] ∧ s.name.size ≤ 9223372036854775807) (ts := [9, 4, 3]) Tryz.slice45 Tryz.cellsOf73 (by decide) (fun m cs y _ hy hp => by
    obtain ⟨hlen, hk⟩ := leaves_of 4 73 [9, 4, 3] Tryz.leaves73 m cs y hy
    obtain ⟨m0, y0, v0, -, e0, h0, -⟩ := hk 0 9 rfl
    obtain ⟨m1, y1, v1, -, e1, h1, -⟩ := hk 1 4 rfl
    obtain ⟨m2, y2, v2, -, e2, h2, -⟩ := hk 2 3 rfl
    obtain ⟨s, rfl, hs⟩ := leaf_string h0
    obtain ⟨i, rfl⟩ := leaf_bool h1
    obtain ⟨z, rfl⟩ := leaf_int h2
    match cs, hlen, e0, e1, e2 with
    | [c0, c1, c2], _, e0, e1, e2 =>
      simp only [List.getElem?_cons_zero, List.getElem?_cons_succ, Option.some.injEq] at e0 e1 e2
      subst e0 e1 e2
      exact ⟨⟨s, i, z⟩, rfl, hs⟩) h hlt
  refine ⟨a, c, l, rfl, ⟨a, c, rfl, hl, fun h => ?_⟩⟩
  obtain ⟨b, off, e, hb, hc⟩ := hr h
  refine ⟨b, off, e, hb, fun j hj => ?_⟩
  obtain ⟨cs, _, h2, rfl, hs⟩ := hc j hj
  exact ⟨h2 0 (by decide), h2 1 (by decide), h2 2 (by decide), hs⟩
theorem leaf_spots {m : Nat} {v : Value} {y : DataW H × List MemPlace} (h : DataW.trod enc Tryz.prog W 0 (fun _ => true) true m 57 [v] = some y) (hlt : ∀ p ∈ y.2, p.block < W.heap.size) :
    ∃ a c l, v = .slice a l.length c ∧ SpV W (.slice a l.length c) l := by
  obtain ⟨a, c, l, rfl, -, hl, hr⟩ := open_list (G := fun cs (s : Sp) => ∃ u, cs = [.int .i64 s.mach, .int .i64 s.mem, u, .int .i64 s.turn, .int .i64 s.rank] ∧ Nums W u s.set ∧ s.set.length ≤ 9223372036854775807) (ts := [3, 3, 25, 3, 3]) Tryz.slice57 Tryz.cellsOf144 (by decide) (fun m cs y _ hy hp => by
    obtain ⟨hlen, hk⟩ := leaves_of 4 144 [3, 3, 25, 3, 3] Tryz.leaves144 m cs y hy
    obtain ⟨m0, y0, v0, -, e0, h0, -⟩ := hk 0 3 rfl
    obtain ⟨m1, y1, v1, -, e1, h1, -⟩ := hk 1 3 rfl
    obtain ⟨m2, y2, v2, -, e2, h2, p2⟩ := hk 2 25 rfl
    obtain ⟨m3, y3, v3, -, e3, h3, -⟩ := hk 3 3 rfl
    obtain ⟨m4, y4, v4, -, e4, h4, -⟩ := hk 4 3 rfl
    obtain ⟨z0, rfl⟩ := leaf_int h0
    obtain ⟨z1, rfl⟩ := leaf_int h1
    obtain ⟨a2, c2, l2, rfl, n2, b2⟩ := leaf_nums h2 (fun p h => hp p (p2 p h))
    obtain ⟨z3, rfl⟩ := leaf_int h3
    obtain ⟨z4, rfl⟩ := leaf_int h4
    match cs, hlen, e0, e1, e2, e3, e4 with
    | [c0, c1, c2', c3, c4], _, e0, e1, e2, e3, e4 =>
      simp only [List.getElem?_cons_zero, List.getElem?_cons_succ, Option.some.injEq] at e0 e1 e2 e3 e4
      subst e0 e1 e2 e3 e4
      exact ⟨⟨z0, z1, l2, z3, z4⟩, _, rfl, n2, b2⟩) h hlt
  refine ⟨a, c, l, rfl, ⟨a, c, rfl, hl, fun h => ?_⟩⟩
  obtain ⟨b, off, e, hb, hc⟩ := hr h
  refine ⟨b, off, e, hb, fun j hj => ?_⟩
  obtain ⟨cs, _, h2, u, rfl, hn, hs⟩ := hc j hj
  exact ⟨h2 0 (by decide), h2 1 (by decide), ⟨u, h2 2 (by decide), hn, hs⟩, h2 3 (by decide), h2 4 (by decide)⟩

/-- a formula as it is read, before it stands in a forest -/
structure Nd where
  op : Int
  nm : ByteArray
  val : Int
  bd : Int
  args : Fs
def Fs.ofList : List Nd → Fs
  | [] => .nil
  | d :: l => .cons d.op d.nm d.val d.bd d.args (Fs.ofList l)
theorem Fs.ofList_len : ∀ l : List Nd, (Fs.ofList l).len = l.length
  | [] => rfl
  | d :: l => by simp [Fs.ofList, Fs.len, Fs.ofList_len l]
theorem forest_at {b : Nat} : ∀ (l : List Nd) (off : Nat), (∀ (j : Nat) (h : j < l.length), W.cell? ⟨b, off + j * 5, none⟩ = some (.int .i64 l[j].op) ∧ W.cell? ⟨b, off + j * 5 + 1, none⟩ = some (.string l[j].nm) ∧ l[j].nm.size ≤ 9223372036854775807 ∧ W.cell? ⟨b, off + j * 5 + 2, none⟩ = some (.int .i64 l[j].val) ∧ W.cell? ⟨b, off + j * 5 + 3, none⟩ = some (.int .i64 l[j].bd) ∧
    ∃ u, W.cell? ⟨b, off + j * 5 + 4, none⟩ = some u ∧ FV W u l[j].args) → FAt W (Fs.ofList l) b off
  | [], _, _ => trivial
  | d :: l, off, h => by
    obtain ⟨c0, c1, c2, c3, c4, u, c5, hl, a, c, rfl, hc, hv⟩ := h 0 (by simp)
    simp only [Nat.zero_mul, Nat.add_zero] at c0 c1 c3 c4 c5
    refine ⟨c0, c1, c2, c3, c4, hl, ⟨a, c, c5, hc, hv⟩, forest_at l (off + 5) fun j hj => ?_⟩
    have := h (j + 1) (by simpa using hj)
    have e : off + (j + 1) * 5 = off + 5 + j * 5 := by omega
    rw [e] at this
    exact this
theorem leaf_forest : ∀ (fuel : Nat) (v : Value) (y : DataW H × List MemPlace), DataW.trod enc Tryz.prog W 0 (fun _ => true) true fuel 46 [v] = some y → (∀ p ∈ y.2, p.block < W.heap.size) → ∃ f, FV W v f := by
  intro fuel
  induction fuel using Nat.strongRecOn with
  | _ fuel ih =>
    intro v y h hlt
    obtain ⟨a, c, l, rfl, hlc, hl, hr⟩ := open_list (G := fun cs (s : Nd) => ∃ u, cs = [.int .i64 s.op, .string s.nm, .int .i64 s.val, .int .i64 s.bd, u] ∧ s.nm.size ≤ 9223372036854775807 ∧ FV W u s.args) (ts := [3, 9, 3, 3, 46]) Tryz.slice46 Tryz.cellsOf48 (by decide) (fun m cs y hm hy hp => by
      obtain ⟨hlen, hk⟩ := leaves_of 4 48 [3, 9, 3, 3, 46] Tryz.leaves48 m cs y hy
      obtain ⟨m0, y0, v0, -, e0, h0, -⟩ := hk 0 3 rfl
      obtain ⟨m1, y1, v1, -, e1, h1, -⟩ := hk 1 9 rfl
      obtain ⟨m2, y2, v2, -, e2, h2, -⟩ := hk 2 3 rfl
      obtain ⟨m3, y3, v3, -, e3, h3, -⟩ := hk 3 3 rfl
      obtain ⟨m4, y4, v4, l4, e4, h4, p4⟩ := hk 4 46 rfl
      obtain ⟨z0, rfl⟩ := leaf_int h0
      obtain ⟨s, rfl, hs⟩ := leaf_string h1
      obtain ⟨z2, rfl⟩ := leaf_int h2
      obtain ⟨z3, rfl⟩ := leaf_int h3
      obtain ⟨f, hf⟩ := ih m4 (by omega) v4 y4 h4 (fun p h => hp p (p4 p h))
      match cs, hlen, e0, e1, e2, e3, e4 with
      | [c0, c1, c2', c3, c4], _, e0, e1, e2, e3, e4 =>
        simp only [List.getElem?_cons_zero, List.getElem?_cons_succ, Option.some.injEq] at e0 e1 e2 e3 e4
        subst e0 e1 e2 e3 e4
        exact ⟨⟨z0, s, z2, z3, f⟩, _, rfl, hs, hf⟩) h hlt
    refine ⟨Fs.ofList l, by rw [Fs.ofList_len]; exact hl, a, c, by rw [Fs.ofList_len], by rw [Fs.ofList_len]; exact hlc, fun h0 => ?_⟩
    rw [Fs.ofList_len] at h0
    obtain ⟨b, off, e, hb, hc⟩ := hr (fun e => h0 (by rw [e]; rfl))
    refine ⟨b, off, e, hb, forest_at l off fun j hj => ?_⟩
    obtain ⟨cs, _, h2, u, rfl, hs, hf⟩ := hc j hj
    exact ⟨h2 0 (by decide), h2 1 (by decide), hs, h2 2 (by decide), h2 3 (by decide), u, h2 4 (by decide), hf⟩
set_option maxRecDepth 100000 in
/-- a claim that comes in -/
theorem open_claim {fs : Array Field} (hu : Tryz.prog.underlying 59 = some (.struct fs)) {base : Nat} {v : Value} {d : DataW H} {p : List MemPlace} (hok : Value.okWide Tryz.prog W .any base 59 v) (h : DataW.Trod enc Tryz.prog W 0 (fun _ => true) true 59 v d p) (hlt : ∀ x ∈ p, x.block < W.heap.size) :
    ∃ (x : Cv) (c : Cl), v = .agg (x.cells c) ∧ ClV W x c := by
  obtain ⟨cs0, rfl, -⟩ := okWide_struct hu hok
  obtain ⟨fuel, hf⟩ := h
  obtain ⟨cs, hcs⟩ : ∃ cs : List Value, cs0 = cs.toArray := ⟨cs0.toList, by simp⟩
  subst hcs
  have hf' : DataW.trod enc Tryz.prog W 0 (fun _ => true) true fuel 59 cs = some (d, p) := by simpa [Value.cells] using hf
  obtain ⟨hlen, hk⟩ := leaves_of 4 59 _ Tryz.leaves59 fuel cs (d, p) hf'
  clear hf hf' hok
  obtain ⟨m0, y0, v0, -, e0, h0, p0⟩ := hk 0 3 rfl
  obtain ⟨m1, y1, v1, -, e1, h1, p1⟩ := hk 1 45 rfl
  obtain ⟨m2, y2, v2, -, e2, h2, p2⟩ := hk 2 3 rfl
  obtain ⟨m3, y3, v3, -, e3, h3, p3⟩ := hk 3 9 rfl
  obtain ⟨m4, y4, v4, -, e4, h4, p4⟩ := hk 4 3 rfl
  obtain ⟨m5, y5, v5, -, e5, h5, p5⟩ := hk 5 3 rfl
  obtain ⟨m6, y6, v6, -, e6, h6, p6⟩ := hk 6 46 rfl
  obtain ⟨m7, y7, v7, -, e7, h7, p7⟩ := hk 7 3 rfl
  obtain ⟨m8, y8, v8, -, e8, h8, p8⟩ := hk 8 3 rfl
  obtain ⟨m9, y9, v9, -, e9, h9, p9⟩ := hk 9 3 rfl
  obtain ⟨m10, y10, v10, -, e10, h10, p10⟩ := hk 10 37 rfl
  obtain ⟨m11, y11, v11, -, e11, h11, p11⟩ := hk 11 37 rfl
  obtain ⟨m12, y12, v12, -, e12, h12, p12⟩ := hk 12 3 rfl
  obtain ⟨m13, y13, v13, -, e13, h13, p13⟩ := hk 13 3 rfl
  obtain ⟨m14, y14, v14, -, e14, h14, p14⟩ := hk 14 3 rfl
  obtain ⟨m15, y15, v15, -, e15, h15, p15⟩ := hk 15 25 rfl
  obtain ⟨m16, y16, v16, -, e16, h16, p16⟩ := hk 16 37 rfl
  obtain ⟨m17, y17, v17, -, e17, h17, p17⟩ := hk 17 57 rfl
  obtain ⟨m18, y18, v18, -, e18, h18, p18⟩ := hk 18 25 rfl
  obtain ⟨m19, y19, v19, -, e19, h19, p19⟩ := hk 19 25 rfl
  obtain ⟨m20, y20, v20, -, e20, h20, p20⟩ := hk 20 37 rfl
  obtain ⟨m21, y21, v21, -, e21, h21, p21⟩ := hk 21 37 rfl
  obtain ⟨m22, y22, v22, -, e22, h22, p22⟩ := hk 22 25 rfl
  obtain ⟨m23, y23, v23, -, e23, h23, p23⟩ := hk 23 46 rfl
  clear hk
  obtain ⟨z0, rfl⟩ := leaf_int h0
  obtain ⟨a1, c1, l1, rfl, n1⟩ := leaf_sigs h1 (fun q hq => hlt q (p1 q hq))
  obtain ⟨z2, rfl⟩ := leaf_int h2
  obtain ⟨s3, rfl, b3⟩ := leaf_string h3
  obtain ⟨z4, rfl⟩ := leaf_int h4
  obtain ⟨z5, rfl⟩ := leaf_int h5
  obtain ⟨l6, hf6⟩ := leaf_forest m6 v6 y6 h6 (fun q hq => hlt q (p6 q hq))
  have n6 := hf6
  obtain ⟨-, a6, c6, rfl, -⟩ := hf6
  obtain ⟨z7, rfl⟩ := leaf_int h7
  obtain ⟨z8, rfl⟩ := leaf_int h8
  obtain ⟨z9, rfl⟩ := leaf_int h9
  obtain ⟨a10, c10, l10, rfl, n10⟩ := leaf_rows h10 (fun q hq => hlt q (p10 q hq))
  obtain ⟨a11, c11, l11, rfl, n11⟩ := leaf_rows h11 (fun q hq => hlt q (p11 q hq))
  obtain ⟨z12, rfl⟩ := leaf_int h12
  obtain ⟨z13, rfl⟩ := leaf_int h13
  obtain ⟨z14, rfl⟩ := leaf_int h14
  obtain ⟨a15, c15, l15, rfl, n15, b15⟩ := leaf_nums h15 (fun q hq => hlt q (p15 q hq))
  obtain ⟨a16, c16, l16, rfl, n16⟩ := leaf_rows h16 (fun q hq => hlt q (p16 q hq))
  obtain ⟨a17, c17, l17, rfl, n17⟩ := leaf_spots h17 (fun q hq => hlt q (p17 q hq))
  obtain ⟨a18, c18, l18, rfl, n18, b18⟩ := leaf_nums h18 (fun q hq => hlt q (p18 q hq))
  obtain ⟨a19, c19, l19, rfl, n19, b19⟩ := leaf_nums h19 (fun q hq => hlt q (p19 q hq))
  obtain ⟨a20, c20, l20, rfl, n20⟩ := leaf_rows h20 (fun q hq => hlt q (p20 q hq))
  obtain ⟨a21, c21, l21, rfl, n21⟩ := leaf_rows h21 (fun q hq => hlt q (p21 q hq))
  obtain ⟨a22, c22, l22, rfl, n22, b22⟩ := leaf_nums h22 (fun q hq => hlt q (p22 q hq))
  obtain ⟨l23, hf23⟩ := leaf_forest m23 v23 y23 h23 (fun q hq => hlt q (p23 q hq))
  have n23 := hf23
  obtain ⟨-, a23, c23, rfl, -⟩ := hf23
  match cs, hlen, e0, e1, e2, e3, e4, e5, e6, e7, e8, e9, e10, e11, e12, e13, e14, e15, e16, e17, e18, e19, e20, e21, e22, e23 with
  | [d0, d1, d2, d3, d4, d5, d6, d7, d8, d9, d10, d11, d12, d13, d14, d15, d16, d17, d18, d19, d20, d21, d22, d23], _, e0, e1, e2, e3, e4, e5, e6, e7, e8, e9, e10, e11, e12, e13, e14, e15, e16, e17, e18, e19, e20, e21, e22, e23 =>
    simp only [List.getElem?_cons_zero, List.getElem?_cons_succ, Option.some.injEq] at e0 e1 e2 e3 e4 e5 e6 e7 e8 e9 e10 e11 e12 e13 e14 e15 e16 e17 e18 e19 e20 e21 e22 e23
    subst e0 e1 e2 e3 e4 e5 e6 e7 e8 e9 e10 e11 e12 e13 e14 e15 e16 e17 e18 e19 e20 e21 e22 e23
    exact ⟨⟨a1, c1, a6, c6, a10, c10, a11, c11, a15, c15, a16, c16, a17, c17, a18, c18, a19, c19, a20, c20, a21, c21, a22, c22, a23, c23⟩,
      ⟨z0, l1, z2, s3, z4, z5, l6, ⟨z7, z8, z9, l10, l11⟩, ⟨z12, z13, z14, l15, l16⟩, l17, ⟨l18, l19, l20, l21⟩, l22, l23⟩, rfl,
      ⟨n1, b3, n6, n10, n11, n15, b15, n16, n17, n18, b18, n19, b19, n20, n21, n22, b22, n23⟩⟩
end
end Go.Proofs.YtckdgniecdfedaaGreatDoor
end
