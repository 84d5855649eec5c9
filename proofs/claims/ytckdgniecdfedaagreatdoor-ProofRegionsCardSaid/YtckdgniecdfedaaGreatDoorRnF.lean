/- The raising of measures as plain functions; the world while they are raised. -/
import Derived.Test.YtckdgniecdfedaaGreatDoorRnC
import Derived.Test.YtckdgniecdfedaaGreatDoorRnB
import Derived.Maps.OwnSet
section
/- Worlds with some blocks out of sight: what is read of the others stays while those are written. -/
namespace Go.Proofs.YtckdgniecdfedaaGreatDoor
open Go.RowKit

/-- the world with some blocks out of sight -/
def dim (p : Nat → Bool) (w : World) : World := { w with heap := w.heap.mapIdx fun i o => if p i then .map #[] 0 else o }
theorem dim_size (p : Nat → Bool) (w : World) : (dim p w).heap.size = w.heap.size := by simp [dim]
theorem dim_get (p : Nat → Bool) (w : World) (k : Nat) : (dim p w).heap[k]? = (w.heap[k]?).map fun o => if p k then .map #[] 0 else o := by simp [dim]
theorem dim_cell {p : Nat → Bool} {w : World} {a : Addr} {u : Value} (h : (dim p w).cell? a = some u) : w.cell? a = some u := by
  unfold World.cell? at h ⊢
  rw [dim_get] at h
  cases hk : w.heap[a.block]? with
  | none => rw [hk] at h; simp at h
  | some o =>
    rw [hk] at h
    cases hp : p a.block with
    | true => simp [hp] at h
    | false => simpa [hp] using h
theorem dim_drawn (p : Nat → Bool) (w : World) (n : Nat) : dim p (w.drewN n) = (dim p w).drewN n := rfl
theorem dim_cell_of {p : Nat → Bool} {w : World} {a : Addr} (h : p a.block = false) : (dim p w).cell? a = w.cell? a := by
  unfold World.cell?
  rw [dim_get, h]
  cases w.heap[a.block]? <;> rfl

/-- the blocks below B that are in sight are as they were -/
structure Fr (p : Nat → Bool) (B : Nat) (w w' : World) : Prop where
  os : w'.os = w.os
  tape : w'.tape = w.tape
  output : w'.output = w.output
  size : w.heap.size ≤ w'.heap.size
  block : ∀ k, k < B → p k = false → w'.heap[k]? = w.heap[k]?

section
variable {p : Nat → Bool} {B : Nat} {w w' w'' : World}
theorem Fr.refl (p : Nat → Bool) (B : Nat) (w : World) : Fr p B w w := ⟨rfl, rfl, rfl, Nat.le_refl _, fun _ _ _ => rfl⟩
theorem Fr.trans (h : Fr p B w w') (k : Fr p B w' w'') : Fr p B w w'' := ⟨k.os.trans h.os, k.tape.trans h.tape, k.output.trans h.output, Nat.le_trans h.size k.size, fun i hi hp => (k.block i hi hp).trans (h.block i hi hp)⟩
theorem Fr.of_below (h : Below B w w') : Fr p B w w' := ⟨h.os, h.tape, h.output, h.size, fun k hk _ => h.block k hk⟩
theorem Fr.mono {B' : Nat} (h : Fr p B w w') (hB : B' ≤ B) : Fr p B' w w' := ⟨h.os, h.tape, h.output, h.size, fun k hk => h.block k (Nat.lt_of_lt_of_le hk hB)⟩
theorem Fr.drawn (h : Fr p B w w') (n : Nat) : Fr p B w (w'.drewN n) := ⟨h.os, h.tape, h.output, h.size, h.block⟩
theorem Fr.cell (h : Fr p B w w') {a : Addr} (ha : a.block < B) (hp : p a.block = false) : w'.cell? a = w.cell? a := World.cell?_of_block (h.block _ ha hp)
theorem Fr.alloc (h : Fr p B w w') (hB : B ≤ w'.heap.size) (o : Obj) : Fr p B w (w'.alloc o) := ⟨h.os, h.tape, h.output, by have := h.size; simp; omega, fun k hk hp => (heap_alloc_old w' o (Nat.lt_of_lt_of_le hk hB)).trans (h.block k hk hp)⟩
theorem Fr.setCell (h : Fr p B w w') {a : Addr} (ha : p a.block = true ∨ B ≤ a.block) (v : Value) : Fr p B w (w'.setCell a v) := by
  refine ⟨h.os, h.tape, h.output, by simpa using h.size, fun k hk hp => ?_⟩
  rw [heap_setCell_other _ _ _ _ (fun e => by subst e; exact ha.elim (fun ha => by rw [hp] at ha; cases ha) (fun ha => by omega))]
  exact h.block k hk hp
theorem Fr.grown {row : Option Nat} (h : Fr p B w w') (hg : w'.grownBy w'' row) (hB : B ≤ w'.heap.size) (hr : ∀ k, row = some k → p k = true ∨ B ≤ k) : Fr p B w w'' := by
  refine ⟨hg.os.trans h.os, hg.tape.trans h.tape, hg.output.trans h.output, Nat.le_trans h.size hg.size, fun k hk hp => ?_⟩
  rw [hg.block k (Nat.lt_of_lt_of_le hk hB) (fun e => (hr k e.symm).elim (fun h1 => by rw [hp] at h1; cases h1) (fun h1 => by omega))]
  exact h.block k hk hp
theorem Fr.dim (h : Fr p B w w') (hB : B ≤ w.heap.size) : Below B (dim p w) (dim p w') := by
  refine ⟨h.os, h.tape, h.output, by rw [dim_size, dim_size]; exact h.size, fun k hk => ?_⟩
  rw [dim_get, dim_get]
  cases hp : p k with
  | false => rw [h.block k hk hp]
  | true =>
    have h1 : k < w.heap.size := by omega
    have h2 : k < w'.heap.size := Nat.lt_of_lt_of_le h1 h.size
    rw [Array.getElem?_eq_getElem h1, Array.getElem?_eq_getElem h2]
    rfl
theorem Nums.up {v : Value} {l : List Int} (h : Nums (Go.Proofs.YtckdgniecdfedaaGreatDoor.dim p w) v l) : Nums w v l := by
  obtain ⟨a, c, e, h⟩ := h
  refine ⟨a, c, e, fun h0 => ?_⟩
  obtain ⟨b, o, e', hb, hc⟩ := h h0
  exact ⟨b, o, e', by rwa [dim_size] at hb, fun j hj => dim_cell (hc j hj)⟩
theorem RowsC.up {v : Value} {l : List (List Int)} (h : RowsC (Go.Proofs.YtckdgniecdfedaaGreatDoor.dim p w) v l) : RowsC w v l := by
  obtain ⟨a, c, e, hl, h⟩ := h
  refine ⟨a, c, e, hl, fun h0 => ?_⟩
  obtain ⟨b, off, e', hb, hc⟩ := h h0
  refine ⟨b, off, e', by rwa [dim_size] at hb, fun j hj => ?_⟩
  obtain ⟨h1, au, cu, h2, h3, h5, h4⟩ := hc j hj
  exact ⟨h1, au, cu, dim_cell h2, h3, h5, h4.up⟩
theorem RowsV.up {v : Value} {l : List (List Int)} (h : RowsV (Go.Proofs.YtckdgniecdfedaaGreatDoor.dim p w) v l) : RowsV w v l := by
  obtain ⟨a, c, e, hl, h⟩ := h
  refine ⟨a, c, e, hl, fun h0 => ?_⟩
  obtain ⟨b, off, e', hb, hc⟩ := h h0
  refine ⟨b, off, e', by rwa [dim_size] at hb, fun j hj => ?_⟩
  obtain ⟨h1, au, cu, h2, h4⟩ := hc j hj
  exact ⟨h1, au, cu, dim_cell h2, h4.up⟩
end

/-- a block that holds a row of numbers of some type -/
def RowT (w : World) (b : Nat) (t : TypeId) (zs : List Int) : Prop := w.heap[b]? = some (.cells (zs.map (Value.int .i64)).toArray t (0, 0))
theorem RowT.cell {w : World} {b : Nat} {t : TypeId} {zs : List Int} (h : RowT w b t zs) {j : Nat} (hj : j < zs.length) : w.cell? ⟨b, j, none⟩ = some (.int .i64 (zs.getD j 0)) := by
  unfold RowT at h
  simp [World.cell?, h, hj]
theorem RowT.frozen {w : World} {b : Nat} {t : TypeId} {zs : List Int} (h : RowT w b t zs) (j : Nat) : w.frozen? ⟨b, j, none⟩ = false := by
  unfold RowT at h
  simp [World.frozen?, h]
theorem RowT.set {w : World} {b : Nat} {t : TypeId} {zs : List Int} (h : RowT w b t zs) (j : Nat) (x : Int) : RowT (w.setCell ⟨b, j, none⟩ (.int .i64 x)) b t (zs.set j x) := by
  have := heap_setCell_same w b j _ t (.int .i64 x) h
  unfold RowT
  rw [this]
  simp [List.map_set]
theorem RowT.made (w : World) (t : TypeId) (n : Nat) : RowT (w.alloc (.cells (madeCells #[.int .i64 0] n) t)) w.heap.size t (List.replicate n 0) := by
  unfold RowT
  rw [heap_alloc_new]
  congr 2
  apply Array.toList_inj.1
  rw [toList_madeCells_one]
  simp
theorem RowT.lt {w : World} {b : Nat} {t : TypeId} {zs : List Int} (h : RowT w b t zs) : b < w.heap.size := (Array.getElem?_eq_some_iff.1 h).1
theorem RowT.of_block {w w' : World} {b : Nat} {t : TypeId} {zs : List Int} (h : RowT w b t zs) (e : w'.heap[b]? = w.heap[b]?) : RowT w' b t zs := by
  unfold RowT at h ⊢
  rw [e, h]
theorem RowT.nums {w : World} {b : Nat} {t : TypeId} {zs : List Int} (h : RowT w b t zs) (c : Nat) : Nums w (.slice (some ⟨b, 0, none⟩) zs.length c) zs :=
  ⟨_, c, rfl, fun _ => ⟨b, 0, rfl, h.lt, fun j hj => by rw [Nat.zero_add]; exact h.cell hj⟩⟩
theorem RowsV.at {w : World} {a : Option Addr} {c : Nat} {l : List (List Int)} (h : RowsV w (.slice a l.length c) l) {j : Nat} (hj : j < l.length) : ∃ b o au cu, a = some ⟨b, o, none⟩ ∧ w.cell? ⟨b, o + j, none⟩ = some (.slice au (l.getD j []).length cu) ∧ Nums w (.slice au (l.getD j []).length cu) (l.getD j []) := by
  obtain ⟨a', c', e, _, h⟩ := h
  simp only [Value.slice.injEq, true_and] at e
  obtain ⟨rfl, rfl⟩ := e
  obtain ⟨b, o, e, _, hc⟩ := h (fun e => by rw [e] at hj; simp at hj)
  obtain ⟨_, au, cu, h2, h4⟩ := hc j hj
  have eA : l.getD j [] = l[j] := by simp [hj]
  rw [eA]
  exact ⟨b, o, au, cu, e, h2, h4⟩

/-- a climb as it lies in a world, but for its measures -/
structure ClbS (w : World) (cb : Nat) (o p : List Int) (s : List (List Int)) (mo un : List Int) (cab n : Nat) (be : List (List Int)) : Prop where
  lt : cb < w.heap.size
  c0 : ∃ a c, w.cell? ⟨cb, 0, none⟩ = some (.slice a o.length c) ∧ Nums w (.slice a o.length c) o
  c1 : ∃ a c, w.cell? ⟨cb, 1, none⟩ = some (.slice a p.length c) ∧ Nums w (.slice a p.length c) p
  c2 : ∃ a c, w.cell? ⟨cb, 2, none⟩ = some (.slice a s.length c) ∧ RowsC w (.slice a s.length c) s
  c3 : ∃ a c, w.cell? ⟨cb, 3, none⟩ = some (.slice a mo.length c) ∧ Nums w (.slice a mo.length c) mo
  c4 : ∃ a c, w.cell? ⟨cb, 4, none⟩ = some (.slice a un.length c) ∧ Nums w (.slice a un.length c) un
  c5 : w.cell? ⟨cb, 5, none⟩ = some (.slice (some ⟨cab, 0, none⟩) n n)
  c6 : ∃ a c, w.cell? ⟨cb, 6, none⟩ = some (.slice a be.length c) ∧ RowsV w (.slice a be.length c) be
section
variable {w w' : World} {cb : Nat} {o p : List Int} {s : List (List Int)} {mo un : List Int} {cab n : Nat} {be : List (List Int)} {q : Nat → Bool}
theorem ClbS.keep (h : ClbS w cb o p s mo un cab n be) (hB : Below w.heap.size w w') : ClbS w' cb o p s mo un cab n be := by
  have hlt := h.lt
  have hc : ∀ j, w'.cell? ⟨cb, j, none⟩ = w.cell? ⟨cb, j, none⟩ := fun j => hB.cell (p := ⟨cb, j, none⟩) hlt
  obtain ⟨_, ⟨a0, d0, e0, f0⟩, ⟨a1, d1, e1, f1⟩, ⟨a2, d2, e2, f2⟩, ⟨a3, d3, e3, f3⟩, ⟨a4, d4, e4, f4⟩, e5, ⟨a6, d6, e6, f6⟩⟩ := h
  exact ⟨Nat.lt_of_lt_of_le hlt hB.size, ⟨a0, d0, (hc 0).trans e0, f0.keep hB⟩, ⟨a1, d1, (hc 1).trans e1, f1.keep hB⟩, ⟨a2, d2, (hc 2).trans e2, f2.keep hB⟩, ⟨a3, d3, (hc 3).trans e3, f3.keep hB⟩, ⟨a4, d4, (hc 4).trans e4, f4.keep hB⟩, (hc 5).trans e5, ⟨a6, d6, (hc 6).trans e6, f6.keep hB⟩⟩
theorem ClbS.up (h : ClbS (dim q w) cb o p s mo un cab n be) : ClbS w cb o p s mo un cab n be := by
  obtain ⟨hlt, ⟨a0, d0, e0, f0⟩, ⟨a1, d1, e1, f1⟩, ⟨a2, d2, e2, f2⟩, ⟨a3, d3, e3, f3⟩, ⟨a4, d4, e4, f4⟩, e5, ⟨a6, d6, e6, f6⟩⟩ := h
  exact ⟨by rwa [dim_size] at hlt, ⟨a0, d0, dim_cell e0, f0.up⟩, ⟨a1, d1, dim_cell e1, f1.up⟩, ⟨a2, d2, dim_cell e2, f2.up⟩, ⟨a3, d3, dim_cell e3, f3.up⟩, ⟨a4, d4, dim_cell e4, f4.up⟩, dim_cell e5, ⟨a6, d6, dim_cell e6, f6.up⟩⟩
theorem ClbS.clb (h : ClbS w cb o p s mo un cab n be) {ca : List Int} (hr : RowT w cab 117 ca) (hl : ca.length = n) : Clb w cb o p s mo un ca be := by
  obtain ⟨_, h0, h1, h2, h3, h4, h5, h6⟩ := h
  subst hl
  exact ⟨h0, h1, h2, h3, h4, ⟨_, _, h5, hr.nums _⟩, h6⟩
/-- what the climb reads, at a later world -/
theorem ClbS.later (h : ClbS (dim q w) cb o p s mo un cab n be) (hF : Fr q w.heap.size w w') : ClbS (dim q w') cb o p s mo un cab n be := by
  refine h.keep ?_
  have := hF.dim (Nat.le_refl _)
  rw [dim_size]
  exact this
theorem dim_far {p q : Nat → Bool} {B : Nat} {w w' : World} (h : Fr p B w w') (hB : B ≤ w.heap.size) (e : ∀ k, k < B → q k = p k) : Below B (dim p w) (dim q w') := by
  have h' := h.dim hB
  refine ⟨h'.os, h'.tape, h'.output, by rw [dim_size, dim_size]; exact h.size, fun k hk => ?_⟩
  rw [← h'.block k hk, dim_get, dim_get, e k hk]
theorem ClbS.far {q' : Nat → Bool} (h : ClbS (dim q w) cb o p s mo un cab n be) (hF : Fr q w.heap.size w w') (e : ∀ k, k < w.heap.size → q' k = q k) : ClbS (dim q' w') cb o p s mo un cab n be := by
  refine h.keep ?_
  rw [dim_size]
  exact dim_far hF (Nat.le_refl _) e
theorem Nums.later {v : Value} {l : List Int} (h : Nums (dim q w) v l) (hF : Fr q w.heap.size w w') : Nums (dim q w') v l := by
  refine h.keep ?_
  have := hF.dim (Nat.le_refl _)
  rw [dim_size]
  exact this
end
end Go.Proofs.YtckdgniecdfedaaGreatDoor
end
section
/- What the raising of measures computes, as plain functions: it ends, and its end is one. -/
namespace Go.Proofs.YtckdgniecdfedaaGreatDoor

/-- where the raising of measures stands -/
structure RunS where
  ca : List Int
  ag : Int → Bool
  nx : List Int
  ct : Nat
/-- a set with one number turned -/
def upd (A : Int → Bool) (x : Int) (b : Bool) : Int → Bool := fun y => if y = x then b else A y
def pushF (p un : List Int) (m : Int) (st : RunS) (v : Int) : RunS :=
  if st.ca.getD v.toNat 0 < alongF un m (p.getD v.toNat 0) ∧ st.ag v = false then { st with ag := upd st.ag v true, nx := st.nx ++ [v], ct := st.ct + 1 } else st
def visit1 (st : RunS) (u : Int) : RunS := { st with ag := upd st.ag u false }
def visitF (o p : List Int) (s : List (List Int)) (un : List Int) (be : List (List Int)) (st : RunS) (u : Int) : RunS :=
  if st.ca.getD u.toNat 0 < needF o p s un st.ca u.toNat then (be.getD u.toNat []).foldl (pushF p un (needF o p s un st.ca u.toNat)) { visit1 st u with ca := st.ca.set u.toNat (needF o p s un st.ca u.toNat) } else visit1 st u
def roundF (o p : List Int) (s : List (List Int)) (un : List Int) (be : List (List Int)) (st : RunS) : RunS := st.nx.foldl (visitF o p s un be) { st with nx := [] }
def roundN (o p : List Int) (s : List (List Int)) (un : List Int) (be : List (List Int)) : Nat → RunS → RunS
  | 0, st => st
  | k + 1, st => roundF o p s un be (roundN o p s un be k st)
def agK (k : Nat) : Int → Bool := fun y => decide (0 ≤ y ∧ y < k)
/-- the start, as far as k positions -/
def stK (n k : Nat) : RunS := ⟨List.replicate n 0, agK k, (List.range k).map (fun k : Nat => (k : Int)), k⟩
def firstS (n : Nat) : RunS := stK n n

def tot : List Int → Int
  | [] => 0
  | x :: xs => x + tot xs
theorem tot_set (m : Int) : ∀ (l : List Int) (u : Nat), u < l.length → tot (l.set u m) = tot l - l.getD u 0 + m
  | x :: xs, 0, _ => by simp [tot]; omega
  | x :: xs, u + 1, h => by
    have := tot_set m xs u (by simpa using h)
    simp only [List.set_cons_succ, tot, List.getD_cons_succ]
    omega
theorem tot_le (T : Int) : ∀ l : List Int, (∀ x ∈ l, x ≤ T) → tot l ≤ l.length * T
  | [], _ => by simp [tot]
  | x :: xs, h => by
    have h1 := tot_le T xs (fun y hy => h y (by simp [hy]))
    have h2 := h x (by simp)
    simp only [tot, List.length_cons]
    have e : ((xs.length + 1 : Nat) : Int) * T = xs.length * T + T := by rw [Int.natCast_add, Int.add_mul]; simp
    rw [e]
    omega

/-- what the raising of measures takes for granted -/
structure Cond (o p : List Int) (s : List (List Int)) (un : List Int) (be : List (List Int)) (n B : Nat) : Prop where
  ol : o.length = n
  pl : p.length = n
  sl : s.length = n
  bl : be.length = n
  su : ∀ v, v < n → ∃ x r, s.getD v [] = x :: r ∧ ∀ u ∈ x :: r, 0 ≤ u ∧ u < n
  pr : ∀ v, v < n → 0 ≤ p.getD v 0 ∧ p.getD v 0 ≤ 30000 ∧ ((p.getD v 0 + 1) / 2).toNat < un.length
  ub : ∀ x ∈ un, 0 < x ∧ x ≤ 2000000
  ud : ∀ j, j < un.length → un.getD j 0 ∣ un.getD 0 0
  ul : 0 < un.length
  bb : ∀ u, u < n → (be.getD u []).length ≤ B ∧ ∀ v ∈ be.getD u [], 0 ≤ v ∧ v < n
/-- what holds all the while -/
structure RunOk (un : List Int) (n B : Nat) (C : Int) (st : RunS) : Prop where
  len : st.ca.length = n
  bd : ∀ m ∈ st.ca, 0 ≤ m ∧ m ≤ un.getD 0 0
  nx : ∀ u ∈ st.nx, 0 ≤ u ∧ u < n
  nl : st.nx.length ≤ st.ct
  pot : (st.ct : Int) + B * (n * un.getD 0 0 - tot st.ca) ≤ C

section
variable {o p : List Int} {s : List (List Int)} {un : List Int} {be : List (List Int)} {n B : Nat} {C : Int}
theorem getD_mem {l : List Int} {j : Nat} (h : j < l.length) : l.getD j 0 ∈ l := by
  rw [List.getD_eq_getElem?_getD, List.getElem?_eq_getElem h]
  exact List.getElem_mem _
theorem Cond.top (hC : Cond o p s un be n B) : 0 < un.getD 0 0 ∧ un.getD 0 0 ≤ 2000000 := hC.ub _ (getD_mem hC.ul)
theorem along_bd (hC : Cond o p s un be n B) {m k : Int} (m0 : 0 ≤ m) (m1 : m ≤ un.getD 0 0) (hk : ((k + 1) / 2).toNat < un.length) : 0 ≤ alongF un m k ∧ alongF un m k ≤ un.getD 0 0 := by
  unfold alongF
  obtain ⟨u0, u1⟩ := hC.ub _ (getD_mem hk)
  obtain ⟨q, hq⟩ := hC.ud _ hk
  have hd := Int.mul_ediv_add_emod m (un.getD ((k + 1) / 2).toNat 0)
  have hm0 := Int.emod_nonneg m (show un.getD ((k + 1) / 2).toNat 0 ≠ 0 by omega)
  have hmu := Int.emod_lt_of_pos m u0
  generalize un.getD ((k + 1) / 2).toNat 0 = u at *
  generalize un.getD 0 0 = tp at *
  by_cases h : m = tp
  · rw [if_pos h]; omega
  · rw [if_neg h]
    have hq2 : m / u < q := by
      by_cases h' : m / u < q
      · exact h'
      · have := Int.mul_le_mul_of_nonneg_left (show q ≤ m / u by omega) (show 0 ≤ u by omega)
        omega
    have h3 := Int.mul_le_mul_of_nonneg_left (show m / u + 1 ≤ q by omega) (show 0 ≤ u by omega)
    rw [Int.mul_add, Int.mul_one] at h3
    have h4 := Int.mul_nonneg (show 0 ≤ u by omega) (Int.ediv_nonneg m0 (show 0 ≤ u by omega))
    generalize u * (m / u) = z at *
    split <;> omega
theorem need_bd (hC : Cond o p s un be n B) {ca : List Int} (hl : ca.length = n) (hb : ∀ m ∈ ca, 0 ≤ m ∧ m ≤ un.getD 0 0) {v : Nat} (hv : v < n) : 0 ≤ needF o p s un ca v ∧ needF o p s un ca v ≤ un.getD 0 0 := by
  obtain ⟨x, r, e, hx⟩ := hC.su v hv
  have hg : ∀ u ∈ x :: r, 0 ≤ ca.getD u.toNat 0 ∧ ca.getD u.toNat 0 ≤ un.getD 0 0 := fun u hu => by
    have := hx u hu
    exact hb _ (getD_mem (by omega))
  have hle : 0 ≤ ca.getD (leastFrom ca x r).toNat 0 ∧ ca.getD (leastFrom ca x r).toNat 0 ≤ un.getD 0 0 := by
    rcases leastFrom_mem ca x r with e | e
    · rw [e]; exact hg x (by simp)
    · exact hg _ (List.mem_cons_of_mem _ e)
  obtain ⟨p0, p1, pk⟩ := hC.pr v hv
  unfold needF
  refine along_bd hC ?_ ?_ pk <;> unfold needM <;> rw [e] <;> simp only [List.headD_cons, List.tail_cons] <;> split
  · exact (mostFrom_bd hle.1 hle.2 hg).1
  · exact hle.1
  · exact (mostFrom_bd hle.1 hle.2 hg).2
  · exact hle.2

theorem push_ca (m : Int) (st : RunS) (v : Int) : (pushF p un m st v).ca = st.ca := by unfold pushF; split <;> rfl
theorem pushes_ca (m : Int) : ∀ (l : List Int) (st : RunS), (l.foldl (pushF p un m) st).ca = st.ca
  | [], _ => rfl
  | v :: l, st => by rw [List.foldl_cons, pushes_ca m l, push_ca]
theorem pushes_ct (m : Int) : ∀ (l : List Int) (st : RunS), (l.foldl (pushF p un m) st).ct ≤ st.ct + l.length
  | [], _ => Nat.le_refl _
  | v :: l, st => by
    rw [List.foldl_cons]
    have h := pushes_ct m l (pushF p un m st v)
    have h2 : (pushF p un m st v).ct ≤ st.ct + 1 := by unfold pushF; split <;> simp
    simp only [List.length_cons]
    omega
theorem pushes_nl (m : Int) : ∀ (l : List Int) (st : RunS), st.nx.length ≤ st.ct → (l.foldl (pushF p un m) st).nx.length ≤ (l.foldl (pushF p un m) st).ct
  | [], _, h => h
  | v :: l, st, h => by
    rw [List.foldl_cons]
    refine pushes_nl m l _ ?_
    unfold pushF
    split
    · simp; exact h
    · exact h
theorem pushes_nx (m : Int) : ∀ (l : List Int) (st : RunS), (∀ v ∈ l, 0 ≤ v ∧ v < n) → (∀ u ∈ st.nx, 0 ≤ u ∧ u < n) → ∀ u ∈ (l.foldl (pushF p un m) st).nx, 0 ≤ u ∧ u < n
  | [], _, _, h => h
  | v :: l, st, hl, h => by
    rw [List.foldl_cons]
    refine pushes_nx m l _ (fun y hy => hl y (by simp [hy])) ?_
    unfold pushF
    split
    · intro u hu
      rcases List.mem_append.1 hu with hu | hu
      · exact h u hu
      · rw [List.mem_singleton.1 hu]; exact hl v (by simp)
    · exact h

/-- one visit: all goes on to hold; a raise, or no change -/
theorem visit_ok (hC : Cond o p s un be n B) {st : RunS} (h : RunOk un n B C st) {u : Int} (hu : 0 ≤ u ∧ u < n) :
    RunOk un n B C (visitF o p s un be st u) ∧ (tot st.ca < tot (visitF o p s un be st u).ca ∨ (tot (visitF o p s un be st u).ca = tot st.ca ∧ (visitF o p s un be st u).nx = st.nx)) := by
  have hun : u.toNat < n := by omega
  obtain ⟨n0, n1⟩ := need_bd hC h.len h.bd hun
  unfold visitF
  by_cases hlt : st.ca.getD u.toNat 0 < needF o p s un st.ca u.toNat
  · rw [if_pos hlt]
    generalize needF o p s un st.ca u.toNat = m at *
    have hts := tot_set m st.ca u.toNat (by rw [h.len]; exact hun)
    obtain ⟨b1, b2⟩ := hC.bb _ hun
    have hct := pushes_ct (p := p) (un := un) m (be.getD u.toNat []) { visit1 st u with ca := st.ca.set u.toNat m }
    have e1 : ({ visit1 st u with ca := st.ca.set u.toNat m } : RunS).ct = st.ct := rfl
    rw [e1] at hct
    refine ⟨⟨?_, ?_, ?_, ?_, ?_⟩, .inl ?_⟩
    · rw [pushes_ca]; simp [h.len]
    · rw [pushes_ca]
      intro x hx
      rcases List.mem_or_eq_of_mem_set hx with hx | rfl
      · exact h.bd x hx
      · exact ⟨n0, n1⟩
    · exact pushes_nx m _ _ b2 h.nx
    · exact pushes_nl m _ _ h.nl
    · rw [pushes_ca]
      have hp := h.pot
      show ((List.foldl (pushF p un m) { visit1 st u with ca := st.ca.set u.toNat m } (be.getD u.toNat [])).ct : Int) + B * (n * un.getD 0 0 - tot (st.ca.set u.toNat m)) ≤ C
      rw [hts]
      have h5 : (B : Int) * (n * un.getD 0 0 - (tot st.ca - st.ca.getD u.toNat 0 + m)) ≤ B * (n * un.getD 0 0 - tot st.ca - 1) := Int.mul_le_mul_of_nonneg_left (by omega) (by omega)
      rw [Int.mul_sub _ _ 1, Int.mul_one] at h5
      omega
    · rw [pushes_ca]
      show tot st.ca < tot (st.ca.set u.toNat m)
      omega
  · rw [if_neg hlt]
    exact ⟨⟨h.len, h.bd, h.nx, h.nl, h.pot⟩, .inr ⟨rfl, rfl⟩⟩
theorem visits_ok (hC : Cond o p s un be n B) : ∀ (l : List Int) (st : RunS), RunOk un n B C st → (∀ u ∈ l, 0 ≤ u ∧ u < n) →
    RunOk un n B C (l.foldl (visitF o p s un be) st) ∧ (tot st.ca < tot (l.foldl (visitF o p s un be) st).ca ∨ (tot (l.foldl (visitF o p s un be) st).ca = tot st.ca ∧ (l.foldl (visitF o p s un be) st).nx = st.nx))
  | [], st, h, _ => ⟨h, .inr ⟨rfl, rfl⟩⟩
  | u :: l, st, h, hl => by
    obtain ⟨h1, h2⟩ := visit_ok hC h (hl u (by simp))
    obtain ⟨h3, h4⟩ := visits_ok hC l _ h1 (fun v hv => hl v (by simp [hv]))
    rw [List.foldl_cons]
    refine ⟨h3, ?_⟩
    rcases h2 with h2 | ⟨h2, e2⟩ <;> rcases h4 with h4 | ⟨h4, e4⟩
    · left; omega
    · left; omega
    · left; omega
    · right; exact ⟨by omega, e4.trans e2⟩
theorem emptied_ok {st : RunS} (h : RunOk un n B C st) : RunOk un n B C { st with nx := [] } := ⟨h.len, h.bd, by simp, by simp, h.pot⟩
/-- how much is left to be raised -/
def leftF (un : List Int) (n : Nat) (st : RunS) : Nat := 2 * (n * un.getD 0 0 - tot st.ca).toNat + (if st.nx = [] then 0 else 1)
theorem round_ok (hC : Cond o p s un be n B) {st : RunS} (h : RunOk un n B C st) (hne : st.nx ≠ []) :
    RunOk un n B C (roundF o p s un be st) ∧ leftF un n (roundF o p s un be st) < leftF un n st := by
  obtain ⟨h1, h2⟩ := visits_ok hC st.nx _ (emptied_ok h) h.nx
  refine ⟨h1, ?_⟩
  have ht := tot_le (un.getD 0 0) (roundF o p s un be st).ca (fun x hx => (h1.bd x hx).2)
  have hl : (roundF o p s un be st).ca.length = n := h1.len
  rw [hl] at ht
  have h2' : tot st.ca < tot (roundF o p s un be st).ca ∨ (tot (roundF o p s un be st).ca = tot st.ca ∧ (roundF o p s un be st).nx = []) := h2
  unfold leftF
  rw [if_neg hne]
  rcases h2' with h3 | ⟨h3, h4⟩
  · split <;> omega
  · rw [if_pos h4]; omega
theorem roundN_stable {st : RunS} {k : Nat} (h : (roundN o p s un be k st).nx = []) : ∀ j, (roundN o p s un be (k + j) st) = (roundN o p s un be k st)
  | 0 => rfl
  | j + 1 => by
    have e : roundN o p s un be (k + (j + 1)) st = roundF o p s un be (roundN o p s un be (k + j) st) := rfl
    rw [e, roundN_stable h j]
    unfold roundF
    rw [h]
    show ({ roundN o p s un be k st with nx := [] } : RunS) = roundN o p s un be k st
    generalize roundN o p s un be k st = st' at h ⊢
    cases st'
    simp at h
    subst h
    rfl
/-- the measures at the end -/
def Ran (o p : List Int) (s : List (List Int)) (un : List Int) (be : List (List Int)) (n : Nat) (ca : List Int) : Prop := ∃ k, (roundN o p s un be k (firstS n)).nx = [] ∧ (roundN o p s un be k (firstS n)).ca = ca
theorem Ran.one {ca ca' : List Int} (h : Ran o p s un be n ca) (h' : Ran o p s un be n ca') : ca = ca' := by
  obtain ⟨k, e1, rfl⟩ := h
  obtain ⟨k', e2, rfl⟩ := h'
  rcases Nat.le_total k k' with hk | hk
  · obtain ⟨j, rfl⟩ := Nat.exists_eq_add_of_le hk
    rw [roundN_stable e1]
  · obtain ⟨j, rfl⟩ := Nat.exists_eq_add_of_le hk
    rw [roundN_stable e2]
theorem tot_zero : ∀ n : Nat, tot (List.replicate n 0) = 0
  | 0 => rfl
  | n + 1 => by rw [List.replicate_succ, tot, tot_zero n]; rfl
theorem first_ok (hC : Cond o p s un be n B) : RunOk un n B (n + B * (n * un.getD 0 0)) (firstS n) := by
  refine ⟨by simp [firstS, stK], ?_, ?_, by simp [firstS, stK], ?_⟩
  · intro m hm
    rw [(List.mem_replicate.1 hm).2]
    have := hC.top
    omega
  · intro u hu
    obtain ⟨k, hk, rfl⟩ := List.mem_map.1 hu
    have := List.mem_range.1 hk
    omega
  · show ((n : Nat) : Int) + B * (n * un.getD 0 0 - tot (List.replicate n 0)) ≤ _
    rw [tot_zero]
    simp
theorem RunOk.ct_le {st : RunS} (h : RunOk un n B C st) : (st.ct : Int) ≤ C := by
  have h1 := tot_le (un.getD 0 0) st.ca (fun x hx => (h.bd x hx).2)
  rw [h.len] at h1
  have h2 := h.pot
  have h3 : 0 ≤ (B : Int) * (n * un.getD 0 0 - tot st.ca) := Int.mul_nonneg (by omega) (by omega)
  omega
end
end Go.Proofs.YtckdgniecdfedaaGreatDoor
end
section
/- A map from numbers to truths that a call makes. -/
namespace Go.Proofs.YtckdgniecdfedaaGreatDoor
open Go.RowKit
open Go.Maps (Keyed)

theorem Tryz.keyed3 : Keyed Tryz.prog 3 := Go.Maps.int_keyed Tryz.underlying3
theorem lit_wf {x : Int} (h0 : 0 ≤ x) (h1 : x ≤ 9223372036854775807) : (Lit.int .i64 x).wf = true := by
  have e1 : IntKind.i64.min = -9223372036854775808 := by decide
  have e2 : IntKind.i64.max = 9223372036854775807 := by decide
  simp only [Lit.wf, e1, e2, Bool.and_eq_true, decide_eq_true_eq]
  omega
theorem key3 {x : Int} (h0 : 0 ≤ x) (h1 : x ≤ 9223372036854775807) : keyOf Tryz.prog 3 (.int .i64 x) = some (.int .i64 x) := Go.Maps.keyOf_int_mk Tryz.underlying3 (lit_wf h0 h1)
theorem plainElem_bool_inv {P : Program} {e : TypeId} (he : P.underlying e = some .bool) {v : Value} {z : DataW Unit × List MemPlace} (h : plainElem P e v = some z) : ∃ x, v = .bool x ∧ z = (.lit (.bool x), []) := by
  unfold plainElem at h
  rw [he] at h
  cases v <;> simp at h
  exact ⟨_, rfl, h.symm⟩

/-- a block that holds a map of numbers to truths: A says what is true -/
def BSet (w : World) (mb n : Nat) (A : Int → Bool) : Prop :=
  ∃ D : DataW Unit, w.ownsMap Tryz.prog 3 (plainElem Tryz.prog 4) mb n D ∧ ∀ x, D.atKey (.int .i64 x) (.lit (.bool false)) = .lit (.bool (A x))
section
variable {w : World} {mb n : Nat} {A : Int → Bool}
theorem BSet.made (w : World) : BSet (w.alloc (.map #[] 0)) w.heap.size 0 (fun _ => false) :=
  ⟨.map [], World.ownsMap_made w _ _ _, fun _ => rfl⟩
theorem BSet.drawn (h : BSet w mb n A) (m : Nat) : BSet (w.drewN m) mb n A := h
theorem BSet.lt (h : BSet w mb n A) : mb < w.heap.size := by
  obtain ⟨D, h, _⟩ := h
  exact h.lt
theorem BSet.of_block {w' : World} (h : BSet w mb n A) (hb : w'.heap[mb]? = w.heap[mb]?) : BSet w' mb n A := by
  obtain ⟨D, ⟨es, clock, h1, h2⟩, h3⟩ := h
  exact ⟨D, ⟨es, clock, hb.trans h1, h2⟩, h3⟩
theorem BSet.congr {A' : Int → Bool} (h : BSet w mb n A) (e : ∀ x, A x = A' x) : BSet w mb n A' := by
  obtain rfl : A = A' := funext e
  exact h
theorem BSet.look (h : BSet w mb n A) {x : Int} (h0 : 0 ≤ x) (h1 : x ≤ 9223372036854775807) : (Instr.lookup 175 (.map (some mb)) (.int .i64 x) false).run Tryz.prog w = .ok (.bool (A x)) w := by
  obtain ⟨D, h, hA⟩ := h
  obtain ⟨v, ps, hrun, hv⟩ := h.lookup Tryz.keyed3 Tryz.underlying175 (Tryz.zeroValue4 w) (plainElem_bool Tryz.underlying4 false) (key3 h0 h1)
  obtain ⟨y, rfl, e⟩ := plainElem_bool_inv Tryz.underlying4 hv
  rw [hA x] at e
  obtain ⟨rfl, -⟩ : A x = y ∧ ps = [] := by simpa using e
  exact hrun
theorem BSet.put (h : BSet w mb n A) (hn : n < 9223372036854775807) {x : Int} (h0 : 0 ≤ x) (h1 : x ≤ 9223372036854775807) {ops : Array Oper} {rest : List Oper} {o : Oper} {a : Act} {Q : Exit → Act → World → Prop}
    (hg : o.guard = none) (m k v : Operand) (hop : o.op = Op.mapUpdate 175 m k v) (hm : a.eval m = .map (some mb)) (hk : a.eval k = .int .i64 x) (hv : a.eval v = .bool true)
    (hK : ∀ w', BSet w' mb (n + 1) (upd A x true) → w.mapTurned w' mb → wpList Tryz.prog ops Q rest (a.put o.dst undef) w') : wpList Tryz.prog ops Q (o :: rest) a w := by
  obtain ⟨D, h, hA⟩ := h
  refine wpList_mapUpdate_in w hg m k v 175 hop 3 4 Tryz.keyed3 Tryz.underlying175 _ mb n D hm h (by unfold maxLen; omega) (.int .i64 x) (.bool true) (.int .i64 x) hk hv (key3 h0 h1) (.lit (.bool true)) [] (plainElem_bool Tryz.underlying4 true) ?_
  intro w' h2 h3
  refine hK w' ⟨_, h2, fun y => ?_⟩ h3
  unfold upd
  by_cases e : y = x
  · subst e
    simp only [if_true]
    exact Go.Maps.atKey_put_same h.isMap (show WideAt.IsKeyLit (.int .i64 y) from trivial) _ _
  · simp only [e, if_false]
    rw [← hA y]
    exact Go.Maps.atKey_put_other (by simpa using e) _ _
theorem BSet.del (h : BSet w mb n A) {x : Int} (h0 : 0 ≤ x) (h1 : x ≤ 9223372036854775807) {ops : Array Oper} {rest : List Oper} {o : Oper} {a : Act} {Q : Exit → Act → World → Prop}
    (hg : o.guard = none) (m k : Operand) (hop : o.op = Op.call { callee := Callee.builtin Builtin.delete, args := #[m, k], argTypes := #[175, 3] }) (hm : a.eval m = .map (some mb)) (hk : a.eval k = .int .i64 x)
    (hK : ∀ w', BSet w' mb n (upd A x false) → w.mapTurned w' mb → wpList Tryz.prog ops Q rest (a.put o.dst (.tuple #[])) w') : wpList Tryz.prog ops Q (o :: rest) a w := by
  obtain ⟨D, h, hA⟩ := h
  refine wpList_delete_own w hg m k 175 3 hop 4 Tryz.keyed3 Tryz.underlying175 _ mb n D hm h (.int .i64 x) (.int .i64 x) hk (key3 h0 h1) ?_
  intro w' h2 h3
  refine hK w' ⟨_, h2, fun y => ?_⟩ h3
  unfold upd
  by_cases e : y = x
  · subst e
    simp only [if_true]
    exact Go.Maps.atKey_del_same _
  · simp only [e, if_false]
    rw [← hA y]
    exact Go.Maps.atKey_del_other (by simpa using e) _
end
/-- what writing a map leaves as it was -/
theorem Fr.turned {p : Nat → Bool} {B : Nat} {w w' w'' : World} {mb : Nat} (h : Fr p B w w') (ht : w'.mapTurned w'' mb) (hp : p mb = true ∨ B ≤ mb) : Fr p B w w'' := by
  obtain ⟨es, clock, es', clock', hb, rfl⟩ := ht
  refine ⟨h.os, h.tape, h.output, by simpa [ChangeMaps.setBlock] using h.size, fun k hk hq => ?_⟩
  have hne : mb ≠ k := fun e => by subst e; exact hp.elim (fun hp => by rw [hq] at hp; cases hp) (fun hp => by omega)
  rw [← h.block k hk hq]
  simp [ChangeMaps.setBlock, hne]
theorem mapTurned_other {w w' : World} {mb : Nat} (ht : w.mapTurned w' mb) {k : Nat} (hne : k ≠ mb) : w'.heap[k]? = w.heap[k]? := by
  obtain ⟨es, clock, es', clock', hb, rfl⟩ := ht
  simp [ChangeMaps.setBlock, Ne.symm hne]
theorem mapTurned_size {w w' : World} {mb : Nat} (ht : w.mapTurned w' mb) : w'.heap.size = w.heap.size := by
  obtain ⟨es, clock, es', clock', hb, rfl⟩ := ht
  simp [ChangeMaps.setBlock]
end Go.Proofs.YtckdgniecdfedaaGreatDoor
end
section
/- The world while measures are raised. -/
namespace Go.Proofs.YtckdgniecdfedaaGreatDoor
open Go.RowKit

def only (a : Nat) : Nat → Bool := fun k => k == a
def both (a b : Nat) : Nat → Bool := fun k => k == a || k == b
/-- where the raising stands in a world: the measures in cab, the set in mb, the list to come -/
structure RunAt (cab mb B : Nat) (ws wr : World) (x : Value) (st : RunS) : Prop where
  row : RowT wr cab 117 st.ca
  set : BSet wr mb st.ct st.ag
  nxt : OwnN wr B x st.nx
  fr : Fr (both cab mb) B ws wr
  ne : cab < B ∧ mb < B ∧ cab ≠ mb ∧ B ≤ ws.heap.size
section
variable {cab mb B : Nat} {ws wr : World} {x : Value} {st : RunS}
theorem RunAt.size (h : RunAt cab mb B ws wr x st) : B ≤ wr.heap.size := Nat.le_trans h.ne.2.2.2 h.fr.size
theorem RunAt.drawn (h : RunAt cab mb B ws wr x st) (n : Nat) : RunAt cab mb B ws (wr.drewN n) x st := ⟨h.row, h.set, h.nxt, h.fr.drawn n, h.ne⟩
theorem RunAt.alloc (h : RunAt cab mb B ws wr x st) (o : Obj) : RunAt cab mb B ws (wr.alloc o) x st := by
  have hs := h.size
  obtain ⟨n1, n2, n3, n4⟩ := h.ne
  refine ⟨h.row.of_block (heap_alloc_old _ _ (by omega)), h.set.of_block (heap_alloc_old _ _ (by omega)), h.nxt.of_block fun g hg => heap_alloc_old _ _ (World.ownsRow.lt h.nxt g hg).2, h.fr.alloc hs o, h.ne⟩
theorem RunAt.raise (h : RunAt cab mb B ws wr x st) (u : Nat) (m : Int) : RunAt cab mb B ws (wr.setCell ⟨cab, u, none⟩ (.int .i64 m)) x { st with ca := st.ca.set u m } := by
  obtain ⟨n1, n2, n3, n4⟩ := h.ne
  refine ⟨h.row.set u m, h.set.of_block (heap_setCell_other _ _ _ _ (Ne.symm n3)), h.nxt.of_block fun g hg => heap_setCell_other _ _ _ _ ?_, h.fr.setCell (.inl (by simp [both])) _, h.ne⟩
  have := (World.ownsRow.lt h.nxt g hg).1
  show g ≠ cab
  omega
theorem RunAt.mapped (h : RunAt cab mb B ws wr x st) {w' : World} {ag : Int → Bool} {ct : Nat} (hs : BSet w' mb ct ag) (ht : wr.mapTurned w' mb) : RunAt cab mb B ws w' x { st with ag := ag, ct := ct } := by
  obtain ⟨n1, n2, n3, n4⟩ := h.ne
  refine ⟨h.row.of_block (mapTurned_other ht n3), hs, h.nxt.of_block fun g hg => mapTurned_other ht ?_, h.fr.turned ht (.inl (by simp [both])), h.ne⟩
  have := (World.ownsRow.lt h.nxt g hg).1
  omega
theorem RunAt.app (h : RunAt cab mb B ws wr x st) {w' : World} {v' : Value} {l : List Int} (ho : OwnN w' B v' l) (hg : wr.grownBy w' x.ownBlock) : RunAt cab mb B ws w' v' { st with nx := l } := by
  obtain ⟨n1, n2, n3, n4⟩ := h.ne
  have hs := h.size
  have hx : ∀ k, k < B → some k ≠ x.ownBlock := fun k hk e => by
    have := (World.ownsRow.lt h.nxt k e.symm).1
    omega
  refine ⟨h.row.of_block (hg.block _ (by omega) (hx _ n1)), h.set.of_block (hg.block _ (by omega) (hx _ n2)), ho, h.fr.grown hg hs fun k hk => .inr (World.ownsRow.lt h.nxt k hk).1, h.ne⟩
theorem RunAt.next (h : RunAt cab mb B ws wr x st) : RunAt cab mb wr.heap.size wr wr (.slice none 0 0) { st with nx := [] } := by
  obtain ⟨n1, n2, n3, n4⟩ := h.ne
  have hs := h.size
  exact ⟨h.row, h.set, OwnN.nil _ _, Fr.refl _ _ _, by omega, by omega, n3, Nat.le_refl _⟩
/-- the list to come, as it is read in the round that comes -/
theorem RunAt.now (h : RunAt cab mb B ws wr x st) : Nums (dim (both cab mb) wr) x st.nx := by
  obtain ⟨n1, n2, n3, n4⟩ := h.ne
  refine OwnN.nums (B := B) (OwnN.of_block (w := wr) h.nxt fun g hg => ?_)
  have h1 := World.ownsRow.lt h.nxt g hg
  rw [dim_get]
  have e : both cab mb g = false := by
    simp [both]
    omega
  rw [e]
  cases wr.heap[g]? <;> rfl
/-- append onto the list to come -/
theorem RunAt.append (h : RunAt cab mb B ws wr x st) {ops : Array Oper} {rest : List Oper} {o : Oper} {a : Act} {Q : Exit → Act → World → Prop} (hgd : o.guard = none) (s y : Operand)
    (ho : o.op = .call { callee := .builtin .append, args := #[s, y], argTypes := #[25, 25] }) (hs : a.eval s = x) (g : Nat) (n : Int) (hy : a.eval y = .slice (some ⟨g, 0, none⟩) 1 1)
    (hc : wr.cell? ⟨g, 0, none⟩ = some (.int .i64 n)) (hl : st.nx.length + 1 ≤ 1000000000000)
    (hK : ∀ v' w', Hid (RunAt cab mb B ws w' v' { st with nx := st.nx ++ [n] }) → wpList Tryz.prog ops Q rest (a.put o.dst v') w') : wpList Tryz.prog ops Q (o :: rest) a wr := by
  obtain ⟨i0, hi, hz0, hz1, hz2⟩ := info_parts Tryz.info3
  refine wpList_append_own _ hgd s y 25 ho B 3 i0 (.int .i64 0) 1 8 Tryz.underlying25 hi hz0 hz1 hz2 rfl (by decide) x st.nx.length (st.nx.map (Value.int .i64)) hs h.nxt ⟨g, 0, none⟩ 1 1 [.int .i64 n] hy rfl ?_ ?_ (by unfold maxLen; omega) (by omega) h.size ?_
  · intro i u hu
    match i, hu with
    | 0, hu =>
      obtain rfl : Value.int .i64 n = u := by simpa using hu
      simpa [Addr.add] using hc
  · intro u hu
    simp at hu
    subst hu
    rfl
  · intro v' w' h1 h2 _
    exact hK v' w' (Lib.hid (h.app (by unfold OwnN; simpa using h1) h2))
end
end Go.Proofs.YtckdgniecdfedaaGreatDoor
end
section
/- The walk of write, where the list lies told. -/
namespace Go.Proofs.YtckdgniecdfedaaGreatDoor
open Go.RowKit

/-- what write hands back, in a block of its own -/
def WrittenN (w : World) (zs : List Int) (e : Ending) (w' : World) : Prop := ∃ a c, e = .returned (.slice a zs.length c) ∧ Nums w' (.slice a zs.length c) zs ∧ zs.length ≤ c ∧ c ≤ 9223372036854775807 ∧ Below w.heap.size w w' ∧ ∀ ad, a = some ad → w.heap.size ≤ ad.block

section
variable {w : World} {cb : Nat} {o p : List Int} {s : List (List Int)} {mo un ca : List Int} {be : List (List Int)}
set_option maxRecDepth 100000 in
set_option maxHeartbeats 2000000 in
theorem write57n (h : Clb w cb o p s mo un ca be) (hcb : cb < w.heap.size) (hun : 0 < un.length) (m : Int) (m0 : 0 ≤ m) (m1 : m ≤ 2000000) (hmo : ∀ x ∈ mo, 0 ≤ x ∧ x ≤ 3000) (hml : mo.length ≤ 30000) :
    Calls Tryz.prog 57 #[.pointer (some ⟨cb, 0, none⟩), .int .i64 m] w (WrittenN w (writeF mo un m)) := by
  have HT := Lib.hid (top117 h hun)
  obtain ⟨am, cm, e3, nm⟩ := h.c3
  have HM := Lib.hid nm
  have HMO := Lib.hid hmo
  clear h hmo nm
  by_cases hm : m = un.getD 0 0
  · have HW : Hid (writeF mo un m = []) := Lib.hid (by unfold writeF; rw [if_pos hm])
    have hd : (m == un.getD 0 0) = true := by simpa using hm
    clear hm
    generalize un.getD 0 0 = tp at *
    go_enter Tryz.func57, Tryz.ntmps57
    go_wp2_with fail
    refine HT.out.mono ?_
    rintro e w1 ⟨rfl, hw⟩
    subst w1
    go_wp2_with fail
    go_ret
    rw [HW.out]
    exact ⟨none, 0, rfl, ⟨none, 0, rfl, fun h => absurd rfl h⟩, Nat.le_refl _, by omega, Below.refl _ _, fun _ h => by cases h⟩
  have HW : Hid (writeF mo un m = if mo = [] then [0] else (digs mo m).1) := Lib.hid (by unfold writeF; rw [if_neg hm])
  have hd : (m == un.getD 0 0) = false := by simpa using hm
  clear hm
  generalize un.getD 0 0 = tp at *
  by_cases hmn : mo = []
  · subst hmn
    rw [if_pos rfl] at HW
    have hmk := run_make_row' (P := Tryz.prog) 25 3 (.int .i64 0) 8 Tryz.underlying25 Tryz.info3r rfl .i64 .i64 1 (by omega) (by omega)
    simp only [Int.natCast_one] at hmk
    go_enter Tryz.func57, Tryz.ntmps57
    go_wp2_with fail
    refine HT.out.mono ?_
    rintro e w1 ⟨rfl, hw⟩
    subst w1
    go_wp2_with fail
    refine wp_loop_rounds 1 ?_
    rw [rounds_succ]
    have HMD := Lib.hid (RowB.made w 1)
    have HB : Hid (Below w.heap.size w (w.alloc (.cells (madeCells #[.int .i64 0] 1) 3))) := Lib.hid ((Below.refl _ _).alloc (Nat.le_refl _) _)
    go_wp2_with fail
    go_ret
    rw [HW.out]
    exact ⟨_, 1, rfl, HMD.out.nums 1, Nat.le_refl _, by omega, HB.out, fun _ h => by cases h; exact Nat.le_refl _⟩
  rw [if_neg hmn] at HW
  have HMN := Lib.hid hmn
  obtain ⟨d, hdd⟩ : ∃ d, mo.length = d := ⟨_, rfl⟩
  have hd1 : 1 ≤ d := by
    rw [← hdd]
    exact List.length_pos_iff.2 hmn
  have hmk := run_make_row' (P := Tryz.prog) 25 3 (.int .i64 0) 8 Tryz.underlying25 Tryz.info3r rfl .i64 .i64 d (by omega) (by omega)
  have hdm : d ≤ 30000 := by omega
  have HDD := Lib.hid hdd
  rw [hdd] at e3
  have HMC : Hid (∀ j, j < d → ∃ b o, am = some ⟨b, o, none⟩ ∧ b < w.heap.size ∧ w.cell? ⟨b, o + j, none⟩ = some (.int .i64 (mo.getD j 0))) := Lib.hid fun j hj => by
    obtain ⟨a', c', e, h1⟩ := HM.out
    simp only [Value.slice.injEq, true_and] at e
    obtain ⟨rfl, rfl⟩ := e
    obtain ⟨b, o, e, hb, hc⟩ := h1 (fun e => hmn e)
    exact ⟨b, o, e, hb, hc j (by omega)⟩
  clear hmn hdd hml
  go_enter Tryz.func57, Tryz.ntmps57
  go_wp2_with fail
  refine HT.out.mono ?_
  rintro e w1 ⟨rfl, hw⟩
  subst w1
  go_upto_region 3 with fail
  go_cut [5] from 11 (fun r wx => r = .slice (some ⟨w.heap.size, 0, none⟩) d d ∧ wx = w.alloc (.cells (madeCells #[.int .i64 0] d) 3))
  case first =>
    by_cases h1 : d = 1
    · subst h1
      simp only [Int.natCast_one] at hmk
      go_wp2_with fail
      go_meet
      exact ⟨rfl, rfl⟩
    · have h2 : decide (1 < d) = true := by simp; omega
      have h3 : decide ((1 : Int) < (d : Int)) = true := by simp; omega
      have h4 : (1 : Int) < (d : Int) := by omega
      clear h1
      go_wp2_with fail
      go_meet
      exact ⟨rfl, rfl⟩
  case rest =>
    obtain ⟨rfl, rfl⟩ := hcut
    have HMD := Lib.hid (RowB.made w d)
    have HB : Hid (Below w.heap.size w (w.alloc (.cells (madeCells #[.int .i64 0] d) 3))) := Lib.hid ((Below.refl _ _).alloc (Nat.le_refl _) _)
    have f3 := (HB.out.cell (p := ⟨cb, 3, none⟩) hcb).trans e3
    generalize w.alloc (.cells (madeCells #[.int .i64 0] d) 3) = wa at *
    clear hmk
    have HCB := Lib.hid hcb
    generalize hrb : w.heap.size = rb at HMD ⊢
    have HRB := Lib.hid hrb
    clear hrb hcb
    go_wp2_with fail
    go_loopw [1, 6] (fun y i wr => ∃ k : Nat, k ≤ d ∧ i = .int .i64 ((k : Int) - 1) ∧ y = .int .i64 (digs (mo.drop k) m).2 ∧ Hid (RowB wr rb (List.replicate k 0 ++ (digs (mo.drop k) m).1)) ∧ Hid (Below w.heap.size w wr)) (fun _ i _ => (intOf i + 1).toNat)
    case atStart =>
      have e : mo.drop d = [] := List.drop_of_length_le (by rw [HDD.out]; exact Nat.le_refl _)
      refine ⟨d, Nat.le_refl _, rfl, by rw [e]; rfl, Lib.hid (by rw [e]; simpa [digs] using HMD.out), HB⟩
    case round =>
      obtain ⟨k, hk, rfl, rfl, HRW, HBW⟩ := hrel
      cases k with
      | zero =>
        have e0 : (digs (mo.drop 0) m).1.length = d := by rw [digs_len]; simpa using HDD.out
        have HF : Hid (RowB wr rb (digs mo m).1) := Lib.hid (by simpa using HRW.out)
        have HFL : Hid ((digs mo m).1.length = d) := Lib.hid (by simpa using e0)
        clear e0
        go_wp2_with fail
        go_ret
        rw [HW.out]
        exact ⟨_, d, by rw [HFL.out]; rfl, HF.out.nums d, by rw [HFL.out]; exact Nat.le_refl _, by omega, HBW.out, fun _ h => by cases h; exact Nat.le_of_eq HRB.out⟩
      | succ k =>
        obtain ⟨b, o', rfl, hb, c0⟩ := HMC.out k (by omega)
        have hkm : k < mo.length := by rw [HDD.out]; omega
        have HDR : Hid (mo.drop k = mo.getD k 0 :: mo.drop (k + 1)) := Lib.hid (by
          rw [List.drop_eq_getElem_cons hkm]
          simp [hkm])
        obtain ⟨x0, x1⟩ := HMO.out (mo.getD k 0) (by rw [List.getD_eq_getElem?_getD, List.getElem?_eq_getElem hkm]; exact List.getElem_mem _)
        obtain ⟨M0, M1⟩ := digs_bd m0 (mo.drop (k + 1)) (fun x hx => (HMO.out x (List.mem_of_mem_drop hx)).1)
        have HDG : Hid (digs (mo.drop k) m = ((digs (mo.drop (k + 1)) m).2 % (mo.getD k 0 + 1) :: (digs (mo.drop (k + 1)) m).1, (digs (mo.drop (k + 1)) m).2 / (mo.getD k 0 + 1))) := Lib.hid (by rw [HDR.out]; rfl)
        generalize (digs (mo.drop (k + 1)) m).2 = M at *
        generalize (digs (mo.drop (k + 1)) m).1 = ds at *
        generalize mo.getD k 0 = x at *
        have hM : M ≤ 2000000 := by omega
        have g3 := (HBW.out.cell (p := ⟨cb, 3, none⟩) HCB.out).trans ((HB.out.cell (p := ⟨cb, 3, none⟩) HCB.out).symm.trans f3)
        have c1 := (HBW.out.cell (p := ⟨b, o' + k, none⟩) hb).trans c0
        have hlen : k < (List.replicate (k + 1) (0 : Int) ++ ds).length := by simp; omega
        have r1 := HRW.out.cell hlen
        have r2 := HRW.out.frozen k
        have HNW := Lib.hid (HRW.out.set k (M % (x + 1)))
        have HNB : Hid (Below w.heap.size w (wr.setCell ⟨rb, k, none⟩ (.int .i64 (M % (x + 1))))) := Lib.hid (HBW.out.setCell (show w.heap.size ≤ rb by rw [HRB.out]; exact Nat.le_refl _) _)
        have HSET : Hid ((List.replicate (k + 1) (0 : Int) ++ ds).set k (M % (x + 1)) = List.replicate k 0 ++ (M % (x + 1) :: ds)) := Lib.hid (by
          rw [List.replicate_succ', List.append_assoc, List.set_append_right _ _ (by simp)]
          simp)
        rw [HSET.out] at HNW
        have hq0 : 0 ≤ M % (x + 1) := Int.emod_nonneg _ (by omega)
        have hq1 : M % (x + 1) ≤ M := by
          by_cases h : M < x + 1
          · rw [Int.emod_eq_of_lt M0 h]; exact Int.le_refl _
          · have := Int.emod_lt_of_pos M (show 0 < x + 1 by omega); omega
        have hx1 : 0 < x + 1 := by omega
        clear hlen hkm
        generalize (List.replicate (k + 1) (0 : Int) ++ ds).getD k 0 = old at r1
        go_upto_region 8 with fail
        generalize wr.setCell ⟨rb, k, none⟩ (.int .i64 (M % (x + 1))) = wn at *
        have n3 := (HNB.out.cell (p := ⟨cb, 3, none⟩) HCB.out).trans ((HB.out.cell (p := ⟨cb, 3, none⟩) HCB.out).symm.trans f3)
        have nc1 := (HNB.out.cell (p := ⟨b, o' + k, none⟩) hb).trans c0
        clear g3 c1 r1 r2 c0 f3 e3
        go_wp2_with fail
        go_roundw
        · refine ⟨k, by omega, rfl, by rw [HDG.out], Lib.hid (by rw [HDG.out]; exact HNW.out), HNB⟩
        · show ((k : Int) - 1 + 1).toNat < (((k + 1 : Nat) : Int) - 1 + 1).toNat
          omega
end
end Go.Proofs.YtckdgniecdfedaaGreatDoor
end
