/- What the writer of certificates holds, and the walks of its small methods. -/
import Derived.Test.YtckdgniecdfedaaGreatDoorWalk4
import Derived.Maps.AppendAt
import Derived.Deep.Cut
import Derived.RangeFuncBox
import Derived.Test.YtckdgniecdfedaaGreatDoorWalk3
section
/- The writer of certificates between two calls: what it holds, and that the steps of its methods keep it so. -/
namespace Go.Proofs.YtckdgniecdfedaaGreatDoor
open Go.RowKit

/-- how many numbers a writer takes -/
def cut20 (L : List Int) : List Int := L.take 20001

/-- the writer at block wb has been given the numbers L; n nodes; if it is not bad, then P; the blocks of K lie as they lay, and so does what lay below w0's end -/
structure Wr (w0 : World) (wb : Nat) (w : World) (L : List Int) (n : Nat) (P : Prop) (K : List (Nat × Obj)) : Prop where
  blk : ∃ (v : Value) (b g : Bool), w.heap[wb]? = some (.cells #[v, .int .i64 n, .bool b, .bool g] 128 (0, 0)) ∧ w.ownsRow (wb + 1) 3 1 v (cut20 L).length ((cut20 L).map (Value.int .i64)) ∧ (b = false → P) ∧ ∀ p ∈ K, v.ownBlock ≠ some p.1
  ge : w0.heap.size ≤ wb
  below : Below w0.heap.size w0 w
  kept : ∀ p ∈ K, p.1 ≠ wb ∧ w.heap[p.1]? = some p.2

theorem Wr.lt {w0 : World} {wb : Nat} {w : World} {L : List Int} {n : Nat} {P : Prop} {K : List (Nat × Obj)} (h : Wr w0 wb w L n P K) : wb < w.heap.size := by
  obtain ⟨v, b, g, hh, _⟩ := h.blk
  exact (Array.getElem?_eq_some_iff.1 hh).1
theorem Wr.lt0 {w0 : World} {wb : Nat} {w : World} {L : List Int} {n : Nat} {P : Prop} {K : List (Nat × Obj)} (h : Wr w0 wb w L n P K) : w0.heap.size ≤ w.heap.size := Nat.le_of_lt (Nat.lt_of_le_of_lt h.ge h.lt)

theorem own_alloc {w : World} {base : Nat} {v : Value} {m : Nat} {xs : List Value} (h : w.ownsRow base 3 1 v m xs) : v.ownBlock ≠ some w.heap.size := fun e => Nat.lt_irrefl _ (h.lt _ e).2

/-- a new block -/
theorem Wr.alloc {w0 : World} {wb : Nat} {w : World} {L : List Int} {n : Nat} {P : Prop} {K : List (Nat × Obj)} (h : Wr w0 wb w L n P K) (o : Obj) : Wr w0 wb (w.alloc o) L n P ((w.heap.size, o) :: K) := by
  have hlt := h.lt
  have hlt0 := h.lt0
  obtain ⟨⟨v, b, g, hh, hown, hP, hK⟩, hge, hB, hk⟩ := h
  have old : ∀ k, k < w.heap.size → (w.alloc o).heap[k]? = w.heap[k]? := fun k hk => heap_alloc_old w o hk
  refine ⟨⟨v, b, g, (old wb hlt).trans hh, hown.alloc o, hP, fun p hp => ?_⟩, hge, hB.alloc hlt0 o, fun p hp => ?_⟩
  · rcases List.mem_cons.1 hp with rfl | hp
    · exact own_alloc hown
    · exact hK p hp
  · rcases List.mem_cons.1 hp with rfl | hp
    · exact ⟨fun e => by have e : w.heap.size = wb := e; omega, heap_alloc_new w o⟩
    · exact ⟨(hk p hp).1, (old _ (Array.getElem?_eq_some_iff.1 (hk p hp).2).1).trans (hk p hp).2⟩
theorem Wr.less {w0 : World} {wb : Nat} {w : World} {L : List Int} {n : Nat} {P : Prop} {K K' : List (Nat × Obj)} (h : Wr w0 wb w L n P K) (hs : ∀ p ∈ K', p ∈ K) : Wr w0 wb w L n P K' := by
  obtain ⟨⟨v, b, g, hh, hown, hP, hK⟩, hge, hB, hk⟩ := h
  exact ⟨⟨v, b, g, hh, hown, hP, fun p hp => hK p (hs p hp)⟩, hge, hB, fun p hp => hk p (hs p hp)⟩
theorem Wr.tail {w0 : World} {wb : Nat} {w : World} {L : List Int} {n : Nat} {P : Prop} {K : List (Nat × Obj)} {p : Nat × Obj} (h : Wr w0 wb w L n P (p :: K)) : Wr w0 wb w L n P K := h.less fun _ hp => List.mem_cons_of_mem _ hp
theorem Wr.drawn {w0 : World} {wb : Nat} {w : World} {L : List Int} {n : Nat} {P : Prop} {K : List (Nat × Obj)} (h : Wr w0 wb w L n P K) (m : Nat) : Wr w0 wb (w.drewN m) L n P K := by
  obtain ⟨hb, hge, hB, hk⟩ := h
  exact ⟨hb, hge, below_drawn hB m, hk⟩
theorem Wr.weak {w0 : World} {wb : Nat} {w : World} {L : List Int} {n : Nat} {P Q : Prop} {K : List (Nat × Obj)} (h : Wr w0 wb w L n P K) (hPQ : P → Q) : Wr w0 wb w L n Q K := by
  obtain ⟨⟨v, b, g, hh, hown, hP, hK⟩, hge, hB, hk⟩ := h
  exact ⟨⟨v, b, g, hh, hown, fun e => hPQ (hP e), hK⟩, hge, hB, hk⟩

/-- a cell of the writer other than its numbers is stored -/
theorem Wr.store {w0 : World} {wb : Nat} {w : World} {L : List Int} {n n' : Nat} {P P' : Prop} {K : List (Nat × Obj)} {v x : Value} {b g b' g' : Bool} {j : Nat} (h : Wr w0 wb w L n P K)
    (hh : w.heap[wb]? = some (.cells #[v, .int .i64 n, .bool b, .bool g] 128 (0, 0))) (hj : (#[v, .int .i64 n, .bool b, .bool g] : Array Value).setIfInBounds j x = #[v, .int .i64 n', .bool b', .bool g'])
    (hP : b' = false → P') : Wr w0 wb (w.setCell ⟨wb, j, none⟩ x) L n' P' K := by
  obtain ⟨⟨v1, b1, g1, hh1, hown, _, hK⟩, hge, hB, hk⟩ := h
  rw [hh] at hh1
  simp only [Option.some.injEq, Obj.cells.injEq, Array.mk.injEq, List.cons.injEq, and_true] at hh1
  obtain ⟨rfl, _⟩ := hh1
  refine ⟨⟨v, b', g', ?_, ownsRow_setCell_below hown (show wb < wb + 1 by omega) x, hP, hK⟩, hge, hB.setCell hge x, fun p hp => ⟨(hk p hp).1, (heap_setCell_other w ⟨wb, j, none⟩ _ _ (hk p hp).1).trans (hk p hp).2⟩⟩
  rw [← hj]
  exact heap_setCell_same w wb j _ 128 x hh

/-- what is known of the writer's block -/
theorem Wr.cells {w0 : World} {wb : Nat} {w : World} {L : List Int} {n : Nat} {P : Prop} {K : List (Nat × Obj)} (h : Wr w0 wb w L n P K) :
    ∃ (a : Option Addr) (c : Nat) (b g : Bool), w.heap[wb]? = some (.cells #[.slice a (cut20 L).length c, .int .i64 n, .bool b, .bool g] 128 (0, 0)) ∧ w.ownsRow (wb + 1) 3 1 (.slice a (cut20 L).length c) (cut20 L).length ((cut20 L).map (Value.int .i64)) ∧ (b = false → P) ∧
      w.cell? ⟨wb, 0, none⟩ = some (.slice a (cut20 L).length c) ∧ w.cell? ⟨wb, 1, none⟩ = some (.int .i64 n) ∧ w.cell? ⟨wb, 2, none⟩ = some (.bool b) ∧ w.cell? ⟨wb, 3, none⟩ = some (.bool g) ∧
      (∀ j, w.frozen? ⟨wb, j, none⟩ = false) := by
  obtain ⟨v, b, g, hh, hown, hP, hK⟩ := h.blk
  obtain ⟨a, c, rfl⟩ : ∃ a c, v = .slice a (cut20 L).length c := by
    rcases hown.2 with ⟨e, e0⟩ | ⟨g, cap, cur, e, _⟩
    · exact ⟨none, 0, by rw [e, e0]⟩
    · exact ⟨_, _, e⟩
  exact ⟨a, c, b, g, hh, hown, hP, by simp [World.cell?, hh], by simp [World.cell?, hh], by simp [World.cell?, hh], by simp [World.cell?, hh], fun j => by simp [World.frozen?, hh]⟩

theorem cut20_app {L : List Int} {x : Int} (h : L.length ≤ 20000) : cut20 (L ++ [x]) = cut20 L ++ [x] := by
  unfold cut20
  rw [List.take_of_length_le (by simp; omega), List.take_of_length_le (by omega)]
theorem cut20_full {L : List Int} (x : Int) (h : 20000 < L.length) : cut20 (L ++ [x]) = cut20 L := by
  unfold cut20
  rw [List.take_append_of_le_length (by omega)]
theorem cut20_le {L : List Int} (h : (cut20 L).length ≤ 20000) : L.length ≤ 20000 := by
  unfold cut20 at h
  rw [List.length_take] at h
  omega
theorem cut20_gt {L : List Int} (h : ¬ (cut20 L).length ≤ 20000) : 20000 < L.length := by
  unfold cut20 at h
  rw [List.length_take] at h
  omega
/-- a number that the writer does not take any more -/
theorem Wr.skip {w0 : World} {wb : Nat} {w : World} {L : List Int} {n : Nat} {P : Prop} {K : List (Nat × Obj)} (h : Wr w0 wb w L n P K) (x : Int) (hl : ¬ (cut20 L).length ≤ 20000) : Wr w0 wb w (L ++ [x]) n P K := by
  obtain ⟨⟨v, b, g, hh, hown, hP, hK⟩, hge, hB, hk⟩ := h
  exact ⟨⟨v, b, g, hh, by rw [cut20_full x (cut20_gt hl)]; exact hown, hP, hK⟩, hge, hB, hk⟩
/-- a number that it takes: the append and the store behind it -/
theorem Wr.app {w0 : World} {wb : Nat} {w w1 : World} {L : List Int} {n : Nat} {P : Prop} {K : List (Nat × Obj)} {a : Option Addr} {c : Nat} {b g : Bool} {o : Obj} {x : Int} {v' : Value} (h : Wr w0 wb w L n P K)
    (hh : w.heap[wb]? = some (.cells #[.slice a (cut20 L).length c, .int .i64 n, .bool b, .bool g] 128 (0, 0))) (hl : (cut20 L).length ≤ 20000)
    (hown' : w1.ownsRow (wb + 1) 3 1 v' ((cut20 L).length + 1) ((cut20 L).map (Value.int .i64) ++ [.int .i64 x])) (hg : (w.alloc o).grownBy w1 (Value.slice a (cut20 L).length c).ownBlock)
    (hat : v'.ownBlock = (Value.slice a (cut20 L).length c).ownBlock ∨ v'.ownBlock = some (w.heap.size + 1)) :
    Wr w0 wb (w1.setCell ⟨wb, 0, none⟩ v') (L ++ [x]) n P K ∧ w1.heap[wb]? = some (.cells #[.slice a (cut20 L).length c, .int .i64 n, .bool b, .bool g] 128 (0, 0)) := by
  have hlt := h.lt
  have hlt0 := h.lt0
  obtain ⟨⟨v1, b1, g1, hh1, hown, hP, hK⟩, hge, hB, hk⟩ := h
  rw [hh] at hh1
  simp only [Option.some.injEq, Obj.cells.injEq, Array.mk.injEq, List.cons.injEq, and_true, Value.bool.injEq, true_and] at hh1
  obtain ⟨rfl, rfl, rfl⟩ := hh1
  have k1 : ∀ k, k < w.heap.size → (Value.slice a (cut20 L).length c).ownBlock ≠ some k → w1.heap[k]? = w.heap[k]? := fun k hk hne => (hg.block k (by simp; omega) fun e => hne e.symm).trans (heap_alloc_old w o hk)
  have ne : ∀ k, (Value.slice a (cut20 L).length c).ownBlock = some k → wb + 1 ≤ k ∧ k < w.heap.size := fun k e => hown.lt k e
  have kwb : w1.heap[wb]? = w.heap[wb]? := k1 wb hlt fun e => by have := ne wb e; omega
  have hB1 : Below w0.heap.size w0 w1 := (hB.alloc hlt0 o).grown hg (by simp; omega) fun j e => by have := ne j e; omega
  refine ⟨⟨⟨v', b, g, heap_setCell_same w1 wb 0 _ 128 v' (kwb.trans hh), ?_, hP, fun p hp => ?_⟩, hge, hB1.setCell hge v', fun p hp => ⟨(hk p hp).1, ?_⟩⟩, kwb.trans hh⟩
  · rw [cut20_app (cut20_le hl)]
    have := ownsRow_setCell_below hown' (a := ⟨wb, 0, none⟩) (show wb < wb + 1 by omega) v'
    simpa using this
  · intro e
    have hp1 := (Array.getElem?_eq_some_iff.1 (hk p hp).2).1
    rcases hat with e' | e'
    · exact hK p hp (e'.symm.trans e)
    · rw [e] at e'
      simp only [Option.some.injEq] at e'
      omega
  · refine (heap_setCell_other w1 ⟨wb, 0, none⟩ _ _ (hk p hp).1).trans ?_
    exact (k1 _ (Array.getElem?_eq_some_iff.1 (hk p hp).2).1 (hK p hp)).trans (hk p hp).2
end Go.Proofs.YtckdgniecdfedaaGreatDoor
end
section
/- The walk of the writer's put: it appends numbers. -/
namespace Go.Proofs.YtckdgniecdfedaaGreatDoor
open Go.RowKit

/-- a list of numbers that can be read: it lies below w0's end, or in a block that is kept -/
def Arg (w0 : World) (K : List (Nat × Obj)) (v : Value) (ns : List Int) : Prop :=
  Nums w0 v ns ∨ ∃ b c, v = .slice (some ⟨b, 0, none⟩) ns.length c ∧ (b, Obj.cells (ns.map (Value.int .i64)).toArray 3 (0, 0)) ∈ K
theorem Arg.nums {w0 : World} {wb : Nat} {w : World} {L : List Int} {n : Nat} {P : Prop} {K : List (Nat × Obj)} (h : Wr w0 wb w L n P K) {v : Value} {ns : List Int} (ha : Arg w0 K v ns) : Nums w v ns := by
  rcases ha with ha | ⟨b, c, rfl, hb⟩
  · exact ha.keep h.below
  · obtain ⟨_, hb⟩ := h.kept _ hb
    refine ⟨_, c, rfl, fun _ => ⟨b, 0, rfl, (Array.getElem?_eq_some_iff.1 hb).1, fun j hj => ?_⟩⟩
    simp [World.cell?, hb, hj]
theorem Arg.len {w0 : World} {K : List (Nat × Obj)} {v : Value} {ns : List Int} (ha : Arg w0 K v ns) : ∃ a c, v = .slice a ns.length c := by
  rcases ha with ⟨a, c, e, _⟩ | ⟨b, c, e, _⟩
  · exact ⟨a, c, e⟩
  · exact ⟨_, c, e⟩
theorem Arg.more {w0 : World} {K : List (Nat × Obj)} {v : Value} {ns : List Int} (ha : Arg w0 K v ns) (p : Nat × Obj) : Arg w0 (p :: K) v ns := by
  rcases ha with h | ⟨b, c, e, h⟩
  · exact .inl h
  · exact .inr ⟨b, c, e, List.mem_cons_of_mem _ h⟩
theorem Arg.made {w0 : World} {K : List (Nat × Obj)} (b : Nat) (ns : List Int) (c : Nat) : Arg w0 ((b, Obj.cells (ns.map (Value.int .i64)).toArray 3 (0, 0)) :: K) (.slice (some ⟨b, 0, none⟩) ns.length c) ns := .inr ⟨b, c, rfl, List.mem_cons_self⟩

/-- what a method of the writer hands back -/
def Wrote (w0 : World) (wb : Nat) (L : List Int) (n : Nat) (P : Prop) (K : List (Nat × Obj)) (e : Ending) (w' : World) : Prop := e = .returned (.tuple #[]) ∧ Wr w0 wb w' L n P K

set_option maxRecDepth 100000 in
set_option maxHeartbeats 4000000 in
theorem put_any {w0 : World} {wb : Nat} {w : World} {L : List Int} {n : Nat} {P : Prop} {K : List (Nat × Obj)} (h : Wr w0 wb w L n P K) {v : Value} {ns : List Int} (ha : Arg w0 K v ns) (hn : ns.length ≤ 9223372036854775807) :
    Calls Tryz.prog 67 #[.pointer (some ⟨wb, 0, none⟩), v] w (Wrote w0 wb (L ++ ns) n P K) := by
  obtain ⟨i0, hi, hz0, hz1, hz2⟩ := info_parts Tryz.info3
  obtain ⟨a0, c0, rfl⟩ := ha.len
  have HW0 := Lib.hid h
  have HA := Lib.hid ha
  clear h ha
  go_enter Tryz.func67, Tryz.ntmps67
  go_wp2_with fail
  go_loopw [5, 8] (fun x i wr => ∃ k : Nat, k ≤ ns.length ∧ i = .int .i64 k ∧ Wr w0 wb wr (L ++ ns.take k) n P K) (fun _ i _ => ns.length - (intOf i).toNat)
  case atStart => exact ⟨0, Nat.zero_le _, rfl, by simpa using HW0.out⟩
  case round =>
    obtain ⟨k, hk, rfl, hw⟩ := hrel
    by_cases hlt : k < ns.length
    · obtain ⟨a1, c1, e1, hnum⟩ := HA.out.nums hw
      simp only [Value.slice.injEq, true_and] at e1
      obtain ⟨rfl, rfl⟩ := e1
      obtain ⟨b1, o1, rfl, hb1, hc1⟩ := hnum (fun e => by rw [e] at hlt; simp at hlt)
      have ck := hc1 k hlt
      have eA : ns.getD k 0 = ns[k] := by simp [hlt]
      rw [eA] at ck
      have HS : Hid (ns.take (k + 1) = ns.take k ++ [ns[k]]) := Lib.hid (List.take_succ_eq_append_getElem hlt)
      have hd : decide (k < ns.length) = true := by simpa using hlt
      clear eA hc1 hnum
      generalize ns[k] = x at *
      by_cases hx0 : x < 0
      · have hd0 : decide (x < 0) = true := by simpa using hx0
        obtain ⟨a', c', b', g', hh', hown', hP', c0', c1', c2', c3', hf'⟩ := hw.cells
        have f2 := hf' 2
        have HW := Lib.hid (hw.store (x := .bool true) (j := 2) (P' := P) hh' (b' := true) (g' := g') rfl (fun e => by cases e))
        clear hh' hown' hP' hf' hw
        go_upto_region 5 with fail
        generalize wr.setCell ⟨wb, 2, none⟩ (.bool true) = wq at *
        clear c0' c1' c2' c3' f2
        by_cases hl : (cut20 (L ++ ns.take k)).length ≤ 20000
        · have hdl : decide ((cut20 (L ++ ns.take k)).length ≤ 20000) = true := by simpa using hl
          obtain ⟨a, c, b, g, hh, hown, hP, c0, c1, c2, c3, hf⟩ := HW.out.cells
          have f0 := hf 0
          have HH := Lib.hid hh
          have HO := Lib.hid hown
          clear hh hown hP hf
          generalize hcl : cut20 (L ++ ns.take k) = cl at *
          go_wp2_with (first
            | (at_builtin; refine wpList_append_own_at _ rfl _ _ 25 rfl (wb + 1) 3 i0 (.int .i64 0) 1 8 Tryz.underlying25 hi hz0 hz1 hz2 rfl (by decide) _ _ _ rfl (HO.out.alloc _) ⟨wq.heap.size, 0, none⟩ 1 1 [.int .i64 x] rfl rfl (cell_one_new _ _ _) (by intro u hu; simp at hu; subst hu; rfl) (by unfold maxLen; omega) (by omega) (by rw [World.size_alloc]; exact Nat.succ_le_succ (Nat.le_of_lt HW.out.lt)) ?_))
          intro v' w1 hown' hgrow _ hat
          subst hcl
          obtain ⟨g2, cap2, rfl⟩ := ownsRow_succ hown'
          have A := HW.out.app HH.out hl hown' hgrow hat
          have e3 := A.2
          have HA := Lib.hid A.1
          have d0 : w1.cell? ⟨wb, 0, none⟩ = some (.slice a (cut20 (L ++ ns.take k)).length c) := by simp [World.cell?, e3]
          have q0 : w1.frozen? ⟨wb, 0, none⟩ = false := by simp [World.frozen?, e3]
          clear A e3 hown' hgrow hat
          go_wp2_with fail
          go_roundw
          case rel => exact ⟨k + 1, by omega, by go_num, by rw [HS.out, ← List.append_assoc]; exact HA.out⟩
          case measure => simp [intOf]; omega
        · have hdl : decide ((cut20 (L ++ ns.take k)).length ≤ 20000) = false := by simpa using hl
          have HA := Lib.hid (HW.out.skip x hl)
          obtain ⟨a, c, b, g, hh, hown, hP, c0, c1, c2, c3, hf⟩ := HW.out.cells
          clear hh hown hP hf
          generalize cut20 (L ++ ns.take k) = cl at *
          go_wp2_with fail
          go_roundw
          case rel => exact ⟨k + 1, by omega, by go_num, by rw [HS.out, ← List.append_assoc]; exact HA.out⟩
          case measure => simp [intOf]; omega
      · have hd0 : decide (x < 0) = false := by simpa using hx0
        by_cases hx1 : 65520 ≤ x
        · have hd1 : decide (65520 ≤ x) = true := by simpa using hx1
          obtain ⟨a', c', b', g', hh', hown', hP', c0', c1', c2', c3', hf'⟩ := hw.cells
          have f2 := hf' 2
          have HW := Lib.hid (hw.store (x := .bool true) (j := 2) (P' := P) hh' (b' := true) (g' := g') rfl (fun e => by cases e))
          clear hh' hown' hP' hf' hw
          go_upto_region 5 with fail
          generalize wr.setCell ⟨wb, 2, none⟩ (.bool true) = wq at *
          clear c0' c1' c2' c3' f2
          by_cases hl : (cut20 (L ++ ns.take k)).length ≤ 20000
          · have hdl : decide ((cut20 (L ++ ns.take k)).length ≤ 20000) = true := by simpa using hl
            obtain ⟨a, c, b, g, hh, hown, hP, c0, c1, c2, c3, hf⟩ := HW.out.cells
            have f0 := hf 0
            have HH := Lib.hid hh
            have HO := Lib.hid hown
            clear hh hown hP hf
            generalize hcl : cut20 (L ++ ns.take k) = cl at *
            go_wp2_with (first
              | (at_builtin; refine wpList_append_own_at _ rfl _ _ 25 rfl (wb + 1) 3 i0 (.int .i64 0) 1 8 Tryz.underlying25 hi hz0 hz1 hz2 rfl (by decide) _ _ _ rfl (HO.out.alloc _) ⟨wq.heap.size, 0, none⟩ 1 1 [.int .i64 x] rfl rfl (cell_one_new _ _ _) (by intro u hu; simp at hu; subst hu; rfl) (by unfold maxLen; omega) (by omega) (by rw [World.size_alloc]; exact Nat.succ_le_succ (Nat.le_of_lt HW.out.lt)) ?_))
            intro v' w1 hown' hgrow _ hat
            subst hcl
            obtain ⟨g2, cap2, rfl⟩ := ownsRow_succ hown'
            have A := HW.out.app HH.out hl hown' hgrow hat
            have e3 := A.2
            have HA := Lib.hid A.1
            have d0 : w1.cell? ⟨wb, 0, none⟩ = some (.slice a (cut20 (L ++ ns.take k)).length c) := by simp [World.cell?, e3]
            have q0 : w1.frozen? ⟨wb, 0, none⟩ = false := by simp [World.frozen?, e3]
            clear A e3 hown' hgrow hat
            go_wp2_with fail
            go_roundw
            case rel => exact ⟨k + 1, by omega, by go_num, by rw [HS.out, ← List.append_assoc]; exact HA.out⟩
            case measure => simp [intOf]; omega
          · have hdl : decide ((cut20 (L ++ ns.take k)).length ≤ 20000) = false := by simpa using hl
            have HA := Lib.hid (HW.out.skip x hl)
            obtain ⟨a, c, b, g, hh, hown, hP, c0, c1, c2, c3, hf⟩ := HW.out.cells
            clear hh hown hP hf
            generalize cut20 (L ++ ns.take k) = cl at *
            go_wp2_with fail
            go_roundw
            case rel => exact ⟨k + 1, by omega, by go_num, by rw [HS.out, ← List.append_assoc]; exact HA.out⟩
            case measure => simp [intOf]; omega
        · have hd1 : decide (65520 ≤ x) = false := by simpa using hx1
          have HW := Lib.hid hw
          clear hw
          by_cases hl : (cut20 (L ++ ns.take k)).length ≤ 20000
          · have hdl : decide ((cut20 (L ++ ns.take k)).length ≤ 20000) = true := by simpa using hl
            obtain ⟨a, c, b, g, hh, hown, hP, c0, c1, c2, c3, hf⟩ := HW.out.cells
            have f0 := hf 0
            have HH := Lib.hid hh
            have HO := Lib.hid hown
            clear hh hown hP hf
            generalize hcl : cut20 (L ++ ns.take k) = cl at *
            go_wp2_with (first
              | (at_builtin; refine wpList_append_own_at _ rfl _ _ 25 rfl (wb + 1) 3 i0 (.int .i64 0) 1 8 Tryz.underlying25 hi hz0 hz1 hz2 rfl (by decide) _ _ _ rfl (HO.out.alloc _) ⟨wr.heap.size, 0, none⟩ 1 1 [.int .i64 x] rfl rfl (cell_one_new _ _ _) (by intro u hu; simp at hu; subst hu; rfl) (by unfold maxLen; omega) (by omega) (by rw [World.size_alloc]; exact Nat.succ_le_succ (Nat.le_of_lt HW.out.lt)) ?_))
            intro v' w1 hown' hgrow _ hat
            subst hcl
            obtain ⟨g2, cap2, rfl⟩ := ownsRow_succ hown'
            have A := HW.out.app HH.out hl hown' hgrow hat
            have e3 := A.2
            have HA := Lib.hid A.1
            have d0 : w1.cell? ⟨wb, 0, none⟩ = some (.slice a (cut20 (L ++ ns.take k)).length c) := by simp [World.cell?, e3]
            have q0 : w1.frozen? ⟨wb, 0, none⟩ = false := by simp [World.frozen?, e3]
            clear A e3 hown' hgrow hat
            go_wp2_with fail
            go_roundw
            case rel => exact ⟨k + 1, by omega, by go_num, by rw [HS.out, ← List.append_assoc]; exact HA.out⟩
            case measure => simp [intOf]; omega
          · have hdl : decide ((cut20 (L ++ ns.take k)).length ≤ 20000) = false := by simpa using hl
            have HA := Lib.hid (HW.out.skip x hl)
            obtain ⟨a, c, b, g, hh, hown, hP, c0, c1, c2, c3, hf⟩ := HW.out.cells
            clear hh hown hP hf
            generalize cut20 (L ++ ns.take k) = cl at *
            go_wp2_with fail
            go_roundw
            case rel => exact ⟨k + 1, by omega, by go_num, by rw [HS.out, ← List.append_assoc]; exact HA.out⟩
            case measure => simp [intOf]; omega
    · obtain rfl : k = ns.length := by omega
      rw [List.take_length] at hw
      have HW := Lib.hid hw
      clear hw
      go_wp2_with fail
      (try simp only [Exit.inBlock, Exit.then])
      refine bodyPost_end (results_none rfl _ _ _) rfl ?_
      exact ⟨rfl, HW.out⟩
end Go.Proofs.YtckdgniecdfedaaGreatDoor
end
section
/- The walks of the writer's list, text and need. -/
namespace Go.Proofs.YtckdgniecdfedaaGreatDoor
open Go.RowKit

section
variable {w0 : World} {wb : Nat} {w : World} {L : List Int} {n : Nat} {P : Prop} {K : List (Nat × Obj)}

theorem put1 (h : Wr w0 wb w L n P K) (x : Int) : Calls Tryz.prog 67 #[.pointer (some ⟨wb, 0, none⟩), .slice (some ⟨w.heap.size, 0, none⟩) 1 1] (w.alloc (.cells #[.int .i64 x] 3)) (Wrote w0 wb (L ++ [x]) n P K) :=
  (put_any (h.alloc (.cells #[.int .i64 x] 3)) (v := .slice (some ⟨w.heap.size, 0, none⟩) 1 1) (ns := [x]) (Arg.made w.heap.size [x] 1) (by simp)).mono fun _ _ ⟨e, h⟩ => ⟨e, h.tail⟩
theorem put2 (h : Wr w0 wb w L n P K) (x y : Int) : Calls Tryz.prog 67 #[.pointer (some ⟨wb, 0, none⟩), .slice (some ⟨w.heap.size, 0, none⟩) 2 2] (w.alloc (.cells #[.int .i64 x, .int .i64 y] 3)) (Wrote w0 wb (L ++ [x, y]) n P K) :=
  (put_any (h.alloc (.cells #[.int .i64 x, .int .i64 y] 3)) (v := .slice (some ⟨w.heap.size, 0, none⟩) 2 2) (ns := [x, y]) (Arg.made w.heap.size [x, y] 2) (by simp)).mono fun _ _ ⟨e, h⟩ => ⟨e, h.tail⟩
theorem put3 (h : Wr w0 wb w L n P K) (x y z : Int) : Calls Tryz.prog 67 #[.pointer (some ⟨wb, 0, none⟩), .slice (some ⟨w.heap.size, 0, none⟩) 3 3] (w.alloc (.cells #[.int .i64 x, .int .i64 y, .int .i64 z] 3)) (Wrote w0 wb (L ++ [x, y, z]) n P K) :=
  (put_any (h.alloc (.cells #[.int .i64 x, .int .i64 y, .int .i64 z] 3)) (v := .slice (some ⟨w.heap.size, 0, none⟩) 3 3) (ns := [x, y, z]) (Arg.made w.heap.size [x, y, z] 3) (by simp)).mono fun _ _ ⟨e, h⟩ => ⟨e, h.tail⟩
theorem put4 (h : Wr w0 wb w L n P K) (x y z u : Int) : Calls Tryz.prog 67 #[.pointer (some ⟨wb, 0, none⟩), .slice (some ⟨w.heap.size, 0, none⟩) 4 4] (w.alloc (.cells #[.int .i64 x, .int .i64 y, .int .i64 z, .int .i64 u] 3)) (Wrote w0 wb (L ++ [x, y, z, u]) n P K) :=
  (put_any (h.alloc (.cells #[.int .i64 x, .int .i64 y, .int .i64 z, .int .i64 u] 3)) (v := .slice (some ⟨w.heap.size, 0, none⟩) 4 4) (ns := [x, y, z, u]) (Arg.made w.heap.size [x, y, z, u] 4) (by simp)).mono fun _ _ ⟨e, h⟩ => ⟨e, h.tail⟩

theorem put1s (h : Wr w0 wb w L n P K) {s : Nat} (hs : w.heap.size = s) (x : Int) : Calls Tryz.prog 67 #[.pointer (some ⟨wb, 0, none⟩), .slice (some ⟨s, 0, none⟩) 1 1] (w.alloc (.cells #[.int .i64 x] 3)) (Wrote w0 wb (L ++ [x]) n P K) := by
  subst hs
  exact put1 h x
theorem put2s (h : Wr w0 wb w L n P K) {s : Nat} (hs : w.heap.size = s) (x y : Int) : Calls Tryz.prog 67 #[.pointer (some ⟨wb, 0, none⟩), .slice (some ⟨s, 0, none⟩) 2 2] (w.alloc (.cells #[.int .i64 x, .int .i64 y] 3)) (Wrote w0 wb (L ++ [x, y]) n P K) := by
  subst hs
  exact put2 h x y
theorem put3s (h : Wr w0 wb w L n P K) {s : Nat} (hs : w.heap.size = s) (x y z : Int) : Calls Tryz.prog 67 #[.pointer (some ⟨wb, 0, none⟩), .slice (some ⟨s, 0, none⟩) 3 3] (w.alloc (.cells #[.int .i64 x, .int .i64 y, .int .i64 z] 3)) (Wrote w0 wb (L ++ [x, y, z]) n P K) := by
  subst hs
  exact put3 h x y z
theorem put4s (h : Wr w0 wb w L n P K) {s : Nat} (hs : w.heap.size = s) (x y z u : Int) : Calls Tryz.prog 67 #[.pointer (some ⟨wb, 0, none⟩), .slice (some ⟨s, 0, none⟩) 4 4] (w.alloc (.cells #[.int .i64 x, .int .i64 y, .int .i64 z, .int .i64 u] 3)) (Wrote w0 wb (L ++ [x, y, z, u]) n P K) := by
  subst hs
  exact put4 h x y z u

/-- a list with its length ahead -/
def lst (ns : List Int) : List Int := (ns.length : Int) :: ns

set_option maxHeartbeats 1000000 in
theorem list_any (h : Wr w0 wb w L n P K) {v : Value} {ns : List Int} (ha : Arg w0 K v ns) (hn : ns.length ≤ 9223372036854775807) :
    Calls Tryz.prog 78 #[.pointer (some ⟨wb, 0, none⟩), v] w (Wrote w0 wb (L ++ lst ns) n P K) := by
  obtain ⟨a0, c0, rfl⟩ := ha.len
  have HW := Lib.hid h
  have HA := Lib.hid ha
  clear h ha
  go_enter Tryz.func78, Tryz.ntmps78
  go_wp2_with fail
  refine (put1 HW.out _).mono ?_
  rintro e w1 ⟨rfl, h1⟩
  have HW1 := Lib.hid h1
  clear h1
  go_wp2_with fail
  refine (put_any HW1.out HA.out hn).mono ?_
  rintro e w2 ⟨rfl, h2⟩
  have HW2 := Lib.hid h2
  clear h2
  go_wp2_with fail
  (try simp only [Exit.inBlock, Exit.then])
  refine bodyPost_end (results_none rfl _ _ _) rfl ⟨rfl, ?_⟩
  have := HW2.out
  rw [List.append_assoc] at this
  exact this

/-- a text: its length and its bytes -/
def txt (s : List UInt8) : List Int := (s.length : Int) :: s.map fun c => (c.toNat : Int)
theorem txt_take {s : List UInt8} {k : Nat} (h : k < s.length) : (s.take (k + 1)).map (fun c => (c.toNat : Int)) = (s.take k).map (fun c => (c.toNat : Int)) ++ [(s[k].toNat : Int)] := by
  rw [List.take_succ_eq_append_getElem h, List.map_append]; rfl

theorem wrap64_byte (c : UInt8) : wrap64 (c.toNat : Int) = (c.toNat : Int) := by
  have := c.toNat_lt
  unfold wrap64
  omega
set_option maxHeartbeats 1000000 in
theorem text_wr (h : Wr w0 wb w L n P K) (s : ByteArray) (hs : s.size ≤ 9223372036854775807) :
    Calls Tryz.prog 133 #[.pointer (some ⟨wb, 0, none⟩), .string s] w (Wrote w0 wb (L ++ txt s.data.toList) n P K) := by
  have HW := Lib.hid h
  have hl : s.data.toList.length = s.size := Array.length_toList
  have HL := Lib.hid hl
  clear h hl
  go_enter Tryz.func133, Tryz.ntmps133
  go_wp2_with fail
  refine (put1 HW.out _).mono ?_
  rintro e w1 ⟨rfl, h1⟩
  have HW1 := Lib.hid h1
  clear h1
  go_wp2_with fail
  go_loopw [4, 12] (fun x i wr => ∃ k : Nat, k ≤ s.size ∧ i = .int .i64 k ∧ Wr w0 wb wr (L ++ [(s.size : Int)] ++ (s.data.toList.take k).map fun c => (c.toNat : Int)) n P K) (fun _ i _ => s.size - (intOf i).toNat)
  case atStart => exact ⟨0, Nat.zero_le _, rfl, by simpa using HW1.out⟩
  case round =>
    obtain ⟨k, hk, rfl, hw⟩ := hrel
    by_cases hlt : k < s.size
    · have HS := Lib.hid (txt_take (s := s.data.toList) (k := k) (by rw [HL.out]; exact hlt))
      have HB := Lib.hid (bytes_get s k hlt)
      have HV := Lib.hid hw
      clear hw
      go_wp2_with fail
      refine (put1 HV.out _).mono ?_
      rintro e w2 ⟨rfl, h2⟩
      have HW2 := Lib.hid h2
      clear h2
      go_wp2_with fail
      go_roundw
      case rel => exact ⟨k + 1, by omega, by go_num, by rw [HS.out, ← List.append_assoc, HB.out]; have e := HW2.out; rw [wrap64_byte] at e; exact e⟩
      case measure => simp [intOf]; omega
    · obtain rfl : k = s.size := by omega
      have HV := Lib.hid hw
      clear hw
      go_wp2_with fail
      (try simp only [Exit.inBlock, Exit.then])
      refine bodyPost_end (results_none rfl _ _ _) rfl ⟨rfl, ?_⟩
      have := HV.out
      rw [List.take_of_length_le (by rw [HL.out]; exact Nat.le_refl _), List.append_assoc] at this
      unfold txt
      rw [HL.out]
      exact this

set_option maxRecDepth 100000 in
set_option maxHeartbeats 1000000 in
theorem need_any (h : Wr w0 wb w L n P K) (m : Int) {v : Value} {ns : List Int} (ha : Arg w0 K v ns) (hn : ns.length ≤ 9223372036854775807) :
    Calls Tryz.prog 79 #[.pointer (some ⟨wb, 0, none⟩), .int .i64 m, v] w (Wrote w0 wb L n (P ∧ ∀ x ∈ ns, x = m) K) := by
  obtain ⟨a0, c0, rfl⟩ := ha.len
  have HW0 := Lib.hid h
  have HA := Lib.hid ha
  clear h ha
  go_enter Tryz.func79, Tryz.ntmps79
  go_wp2_with fail
  go_loopw [7, 10] (fun x i wr => ∃ k : Nat, k ≤ ns.length ∧ i = .int .i64 k ∧ Wr w0 wb wr L n (P ∧ ∀ x ∈ ns.take k, x = m) K) (fun _ i _ => ns.length - (intOf i).toNat)
  case atStart => exact ⟨0, Nat.zero_le _, rfl, by simpa using HW0.out⟩
  case round =>
    obtain ⟨k, hk, rfl, hw⟩ := hrel
    by_cases hlt : k < ns.length
    · obtain ⟨a1, c1, e1, hnum⟩ := HA.out.nums hw
      simp only [Value.slice.injEq, true_and] at e1
      obtain ⟨rfl, rfl⟩ := e1
      obtain ⟨b1, o1, rfl, hb1, hc1⟩ := hnum (fun e => by rw [e] at hlt; simp at hlt)
      have ck := hc1 k hlt
      have eA : ns.getD k 0 = ns[k] := by simp [hlt]
      rw [eA] at ck
      have HS : Hid (ns.take (k + 1) = ns.take k ++ [ns[k]]) := Lib.hid (List.take_succ_eq_append_getElem hlt)
      have hd : decide (k < ns.length) = true := by simpa using hlt
      clear eA hc1 hnum
      generalize ns[k] = x at *
      by_cases hxm : x = m
      · have hd0 : (x != m) = false := by simpa using hxm
        have HV := Lib.hid (hw.weak (Q := P ∧ ∀ x ∈ ns.take (k + 1), x = m) fun h => ⟨h.1, by
          rw [HS.out]
          intro y hy
          rcases List.mem_append.1 hy with hy | hy
          · exact h.2 y hy
          · rw [List.mem_singleton.1 hy]; exact hxm⟩)
        clear hw hxm
        go_wp2_with fail
        go_roundw
        case rel => exact ⟨k + 1, by omega, by go_num, HV.out⟩
        case measure => simp [intOf]; omega
      · have hd0 : (x != m) = true := by simpa using hxm
        obtain ⟨a', c', b', g', hh', hown', hP', c0', c1', c2', c3', hf'⟩ := hw.cells
        have f2 := hf' 2
        have HV := Lib.hid (hw.store (x := .bool true) (j := 2) (P' := P ∧ ∀ x ∈ ns.take (k + 1), x = m) hh' (b' := true) (g' := g') rfl (fun e => by cases e))
        clear hh' hown' hP' hf' hw hxm
        go_wp2_with fail
        go_roundw
        case rel => exact ⟨k + 1, by omega, by go_num, HV.out⟩
        case measure => simp [intOf]; omega
    · obtain rfl : k = ns.length := by omega
      rw [List.take_length] at hw
      have HV := Lib.hid hw
      clear hw
      go_wp2_with fail
      (try simp only [Exit.inBlock, Exit.then])
      refine bodyPost_end (results_none rfl _ _ _) rfl ?_
      exact ⟨rfl, HV.out⟩
end
end Go.Proofs.YtckdgniecdfedaaGreatDoor
end
