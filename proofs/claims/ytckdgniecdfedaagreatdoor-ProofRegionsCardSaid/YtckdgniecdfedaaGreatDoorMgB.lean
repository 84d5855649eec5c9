/- The walks of the writer's signals and spots; kept blocks. -/
import Derived.Test.YtckdgniecdfedaaGreatDoorMgA
section
/- The walk of the writer's signals. -/
namespace Go.Proofs.YtckdgniecdfedaaGreatDoor
open Go.RowKit

/-- a signal as it is read -/
structure Sg where
  name : ByteArray
  input : Bool
  size : Int

/-- its numbers -/
def Sg.code (s : Sg) : List Int := txt s.name.data.toList ++ [if s.input then 1 else 0, s.size]
/-- the numbers of signals, without their number -/
def sgs : List Sg → List Int
  | [] => []
  | s :: l => s.code ++ sgs l
theorem sgs_append (l m : List Sg) : sgs (l ++ m) = sgs l ++ sgs m := by
  induction l with
  | nil => rfl
  | cons s l ih => simp [sgs, ih]

/-- a list of signals that can be read -/
def SgV (w : World) (v : Value) (l : List Sg) : Prop :=
  ∃ a c, v = .slice a l.length c ∧ l.length ≤ 9223372036854775807 ∧ (l ≠ [] → ∃ b off, a = some ⟨b, off, none⟩ ∧ b < w.heap.size ∧ ∀ j (h : j < l.length),
    w.cell? ⟨b, off + j * 3, none⟩ = some (.string l[j].name) ∧ w.cell? ⟨b, off + j * 3 + 1, none⟩ = some (.bool l[j].input) ∧ w.cell? ⟨b, off + j * 3 + 2, none⟩ = some (.int .i64 l[j].size) ∧ l[j].name.size ≤ 9223372036854775807)
theorem SgV.keep {w w' : World} {v : Value} {l : List Sg} (h : SgV w v l) (hB : Below w.heap.size w w') : SgV w' v l := by
  obtain ⟨a, c, e, hl, h⟩ := h
  refine ⟨a, c, e, hl, fun hA => ?_⟩
  obtain ⟨b, off, e', hb, hc⟩ := h hA
  refine ⟨b, off, e', Nat.lt_of_lt_of_le hb hB.size, fun j hj => ?_⟩
  obtain ⟨c0, c1, c2, c3⟩ := hc j hj
  exact ⟨(hB.cell (p := ⟨b, off + j * 3, none⟩) hb).trans c0, (hB.cell (p := ⟨b, off + j * 3 + 1, none⟩) hb).trans c1, (hB.cell (p := ⟨b, off + j * 3 + 2, none⟩) hb).trans c2, c3⟩

section
variable {w0 : World} {wb : Nat} {w : World} {L : List Int} {n : Nat} {P : Prop} {K : List (Nat × Obj)}
theorem Wr.cell {B : Nat} {cs : Array Value} {t : TypeId} (h : Wr w0 wb w L n P ((B, .cells cs t (0, 0)) :: K)) (j : Nat) : w.cell? ⟨B, j, none⟩ = cs[j]? := by
  have := (h.kept _ List.mem_cons_self).2
  simp [World.cell?, this]
set_option maxRecDepth 100000 in
set_option maxHeartbeats 4000000 in
theorem signals_any (h : Wr w0 wb w L n P K) {v : Value} {l : List Sg} (hv : SgV w0 v l) :
    Calls Tryz.prog 69 #[.pointer (some ⟨wb, 0, none⟩), v] w (Wrote w0 wb (L ++ (l.length : Int) :: sgs l) n P K) := by
  obtain ⟨a, c, rfl, hl, hv⟩ := hv
  have HW := Lib.hid h
  have HV := Lib.hid hv
  clear h hv
  go_enter Tryz.func69, Tryz.ntmps69
  go_wp2_with fail
  refine (put1 HW.out _).mono ?_
  rintro e w1 ⟨rfl, h1⟩
  have HW1 := Lib.hid h1
  clear h1
  go_wp2_with fail
  go_loopw [5, 6, 14] (fun x y i wr => ∃ k : Nat, k ≤ l.length ∧ i = .int .i64 k ∧ Wr w0 wb wr (L ++ [(l.length : Int)] ++ sgs (l.take k)) n P K) (fun _ _ i _ => l.length - (intOf i).toNat)
  case atStart => exact ⟨0, Nat.zero_le _, rfl, by simpa [sgs] using HW1.out⟩
  case round =>
    obtain ⟨k, hk, rfl, hw⟩ := hrel
    by_cases hlt : k < l.length
    · obtain ⟨b1, o1, rfl, hb1, hc⟩ := HV.out (fun e => by rw [e] at hlt; simp at hlt)
      have HS := Lib.hid (show sgs (l.take (k + 1)) = sgs (l.take k) ++ l[k].code by rw [List.take_succ_eq_append_getElem hlt, sgs_append]; simp [sgs])
      obtain ⟨c0, c1, c2, c3⟩ := hc k hlt
      have hB := hw.below
      have c0 := (hB.cell (p := ⟨b1, o1 + k * 3, none⟩) hb1).trans c0
      have c1 := (hB.cell (p := ⟨b1, o1 + k * 3 + 1, none⟩) hb1).trans c1
      have c2 := (hB.cell (p := ⟨b1, o1 + k * 3 + 2, none⟩) hb1).trans c2
      have HV' := Lib.hid hw
      clear hw hB hc
      generalize l[k] = s at *
      go_wp2_with fail
      refine (text_wr (HV'.out.alloc (.cells #[.string s.name, .bool s.input, .int .i64 s.size] 73)) s.name c3).mono ?_
      rintro e w2 ⟨rfl, h2⟩
      have d1 := h2.cell 1
      have d2 := h2.cell 2
      simp only [List.getElem?_toArray, List.getElem?_cons_succ, List.getElem?_cons_zero] at d1 d2
      have H2 := Lib.hid h2.tail
      clear h2 c0 c1 c2 hb1
      generalize wr.heap.size = B at *
      cases hin : s.input with
      | true =>
        rw [hin] at d1
        have HC : Hid (s.code = txt s.name.data.toList ++ [1, s.size]) := Lib.hid (by unfold Sg.code; rw [hin]; rfl)
        clear hin
        go_wp2_with fail
        refine (put2 H2.out _ _).mono ?_
        rintro e w3 ⟨rfl, h3⟩
        have H3 := Lib.hid h3
        clear h3
        go_wp2_with fail
        go_roundw
        case rel => exact ⟨k + 1, by omega, by go_num, by rw [HS.out, HC.out]; have e := H3.out; simp only [List.append_assoc] at e ⊢; exact e⟩
        case measure => simp [intOf]; omega
      | false =>
        rw [hin] at d1
        have HC : Hid (s.code = txt s.name.data.toList ++ [0, s.size]) := Lib.hid (by unfold Sg.code; rw [hin]; rfl)
        clear hin
        go_wp2_with fail
        refine (put2 H2.out _ _).mono ?_
        rintro e w3 ⟨rfl, h3⟩
        have H3 := Lib.hid h3
        clear h3
        go_wp2_with fail
        go_roundw
        case rel => exact ⟨k + 1, by omega, by go_num, by rw [HS.out, HC.out]; have e := H3.out; simp only [List.append_assoc] at e ⊢; exact e⟩
        case measure => simp [intOf]; omega
    · obtain rfl : k = l.length := by omega
      rw [List.take_length] at hw
      have HV' := Lib.hid hw
      clear hw
      go_wp2_with fail
      (try simp only [Exit.inBlock, Exit.then])
      refine bodyPost_end (results_none rfl _ _ _) rfl ⟨rfl, ?_⟩
      have := HV'.out
      rw [List.append_assoc] at this
      exact this
end
end Go.Proofs.YtckdgniecdfedaaGreatDoor
end
section
/- The walk of the writer's spots. -/
namespace Go.Proofs.YtckdgniecdfedaaGreatDoor
open Go.RowKit

/-- a spot as it is read -/
structure Sp where
  mach : Int
  mem : Int
  set : List Int
  turn : Int
  rank : Int

/-- its numbers -/
def Sp.code (s : Sp) : List Int := [s.mach, s.mem] ++ lst s.set ++ [s.turn, s.rank]
/-- the numbers of spots, without their number -/
def sps : List Sp → List Int
  | [] => []
  | s :: l => s.code ++ sps l
theorem sps_append (l m : List Sp) : sps (l ++ m) = sps l ++ sps m := by
  induction l with
  | nil => rfl
  | cons s l ih => simp [sps, ih]

/-- a list of spots that can be read -/
def SpV (w : World) (v : Value) (l : List Sp) : Prop :=
  ∃ a c, v = .slice a l.length c ∧ l.length ≤ 9223372036854775807 ∧ (l ≠ [] → ∃ b off, a = some ⟨b, off, none⟩ ∧ b < w.heap.size ∧ ∀ j (h : j < l.length),
    w.cell? ⟨b, off + j * 5, none⟩ = some (.int .i64 l[j].mach) ∧ w.cell? ⟨b, off + j * 5 + 1, none⟩ = some (.int .i64 l[j].mem) ∧ (∃ u, w.cell? ⟨b, off + j * 5 + 2, none⟩ = some u ∧ Nums w u l[j].set ∧ l[j].set.length ≤ 9223372036854775807) ∧
    w.cell? ⟨b, off + j * 5 + 3, none⟩ = some (.int .i64 l[j].turn) ∧ w.cell? ⟨b, off + j * 5 + 4, none⟩ = some (.int .i64 l[j].rank))
theorem SpV.keep {w w' : World} {v : Value} {l : List Sp} (h : SpV w v l) (hB : Below w.heap.size w w') : SpV w' v l := by
  obtain ⟨a, c, e, hl, h⟩ := h
  refine ⟨a, c, e, hl, fun hA => ?_⟩
  obtain ⟨b, off, e', hb, hc⟩ := h hA
  refine ⟨b, off, e', Nat.lt_of_lt_of_le hb hB.size, fun j hj => ?_⟩
  obtain ⟨c0, c1, ⟨u, c2, c2', c2''⟩, c3, c4⟩ := hc j hj
  exact ⟨(hB.cell (p := ⟨b, off + j * 5, none⟩) hb).trans c0, (hB.cell (p := ⟨b, off + j * 5 + 1, none⟩) hb).trans c1, ⟨u, (hB.cell (p := ⟨b, off + j * 5 + 2, none⟩) hb).trans c2, c2'.keep hB, c2''⟩, (hB.cell (p := ⟨b, off + j * 5 + 3, none⟩) hb).trans c3, (hB.cell (p := ⟨b, off + j * 5 + 4, none⟩) hb).trans c4⟩

section
variable {w0 : World} {wb : Nat} {w : World} {L : List Int} {n : Nat} {P : Prop} {K : List (Nat × Obj)}
set_option maxRecDepth 100000 in
set_option maxHeartbeats 4000000 in
theorem spots_wr (h : Wr w0 wb w L n P K) {v : Value} {l : List Sp} (hv : SpV w0 v l) :
    Calls Tryz.prog 75 #[.pointer (some ⟨wb, 0, none⟩), v] w (Wrote w0 wb (L ++ (l.length : Int) :: sps l) n P K) := by
  obtain ⟨a, c, rfl, hl, hv⟩ := hv
  have HW := Lib.hid h
  have HV := Lib.hid hv
  clear h hv
  go_enter Tryz.func75, Tryz.ntmps75
  go_wp2_with fail
  refine (put1 HW.out _).mono ?_
  rintro e w1 ⟨rfl, h1⟩
  have HW1 := Lib.hid h1
  clear h1
  go_wp2_with fail
  go_loopw [5, 13] (fun x i wr => ∃ k : Nat, k ≤ l.length ∧ i = .int .i64 k ∧ Wr w0 wb wr (L ++ [(l.length : Int)] ++ sps (l.take k)) n P K) (fun _ i _ => l.length - (intOf i).toNat)
  case atStart => exact ⟨0, Nat.zero_le _, rfl, by simpa [sps] using HW1.out⟩
  case round =>
    obtain ⟨k, hk, rfl, hw⟩ := hrel
    by_cases hlt : k < l.length
    · obtain ⟨b1, o1, rfl, hb1, hc⟩ := HV.out (fun e => by rw [e] at hlt; simp at hlt)
      have HS := Lib.hid (show sps (l.take (k + 1)) = sps (l.take k) ++ l[k].code by rw [List.take_succ_eq_append_getElem hlt, sps_append]; simp [sps])
      obtain ⟨c0, c1, ⟨u, c2, hu, hul⟩, c3, c4⟩ := hc k hlt
      have hB := hw.below
      have c0 := (hB.cell (p := ⟨b1, o1 + k * 5, none⟩) hb1).trans c0
      have c1 := (hB.cell (p := ⟨b1, o1 + k * 5 + 1, none⟩) hb1).trans c1
      have c2 := (hB.cell (p := ⟨b1, o1 + k * 5 + 2, none⟩) hb1).trans c2
      have c3 := (hB.cell (p := ⟨b1, o1 + k * 5 + 3, none⟩) hb1).trans c3
      have c4 := (hB.cell (p := ⟨b1, o1 + k * 5 + 4, none⟩) hb1).trans c4
      have HV' := Lib.hid hw
      have HU := Lib.hid hu
      obtain ⟨au, cu, rfl, -⟩ := hu
      clear hw hB hc
      have HC := Lib.hid (show l[k].code = [l[k].mach, l[k].mem] ++ lst l[k].set ++ [l[k].turn, l[k].rank] from rfl)
      generalize l[k] = s at *
      have A := HV'.out.alloc (.cells #[.int .i64 s.mach, .int .i64 s.mem, .slice au s.set.length cu, .int .i64 s.turn, .int .i64 s.rank] 144)
      have d0 := A.cell 0
      have d1 := A.cell 1
      have d2 := A.cell 2
      have d3 := A.cell 3
      have d4 := A.cell 4
      simp only [List.getElem?_toArray, List.getElem?_cons_succ, List.getElem?_cons_zero] at d0 d1 d2 d3 d4
      have HA := Lib.hid A
      clear A
      go_wp2_with fail
      refine (put2s HA.out (s := wr.heap.size + 1) (by simp) _ _).mono ?_
      rintro e w2 ⟨rfl, h2⟩
      have e2 := h2.cell 2
      have e3 := h2.cell 3
      have e4 := h2.cell 4
      simp only [List.getElem?_toArray, List.getElem?_cons_succ, List.getElem?_cons_zero] at e2 e3 e4
      have H2 := Lib.hid h2
      clear h2 c0 c1 c2 c3 c4 d0 d1 d2 d3 d4 hb1
      generalize wr.heap.size = B at *
      go_wp2_with fail
      refine (list_any H2.out (.inl HU.out) hul).mono ?_
      rintro e w3 ⟨rfl, h3⟩
      have d3 := h3.cell 3
      have d4 := h3.cell 4
      simp only [List.getElem?_toArray, List.getElem?_cons_succ, List.getElem?_cons_zero] at d3 d4
      have H3 := Lib.hid h3
      clear h3 e2 e3 e4
      go_wp2_with fail
      refine (put2 H3.out _ _).mono ?_
      rintro e w4 ⟨rfl, h4⟩
      have H4 := Lib.hid h4.tail
      clear h4 d3 d4
      go_wp2_with fail
      go_roundw
      case rel => exact ⟨k + 1, by omega, by go_num, by rw [HS.out, HC.out]; have e := H4.out; simp only [List.append_assoc] at e ⊢; exact e⟩
      case measure => simp [intOf]; omega
    · obtain rfl : k = l.length := by omega
      rw [List.take_length] at hw
      have HV' := Lib.hid hw
      clear hw
      go_wp2_with fail
      (try simp only [Exit.inBlock, Exit.then])
      refine bodyPost_end (results_none rfl _ _ _) rfl ⟨rfl, ?_⟩
      have := HV'.out
      rw [List.append_assoc] at this
      exact this
end
end Go.Proofs.YtckdgniecdfedaaGreatDoor
end
section
/- A kept block that is stored into. -/
namespace Go.Proofs.YtckdgniecdfedaaGreatDoor
open Go.RowKit

section
variable {w0 : World} {wb : Nat} {w : World} {L : List Int} {n : Nat} {P : Prop} {K : List (Nat × Obj)}
/-- a store into the block at the head of those that are kept -/
theorem Wr.setK {B : Nat} {cs : Array Value} {t : TypeId} (h : Wr w0 wb w L n P ((B, .cells cs t (0, 0)) :: K)) (hB0 : w0.heap.size ≤ B) (hK : ∀ p ∈ K, p.1 ≠ B) (j : Nat) (x : Value) :
    Wr w0 wb (w.setCell ⟨B, j, none⟩ x) L n P ((B, .cells (cs.setIfInBounds j x) t (0, 0)) :: K) := by
  obtain ⟨⟨v, b, g, hh, hown, hP, hKv⟩, hge, hB, hk⟩ := h
  obtain ⟨hne, hcs⟩ := hk _ List.mem_cons_self
  have hvB : v.ownBlock ≠ some B := hKv _ List.mem_cons_self
  have other : ∀ k, k ≠ B → (w.setCell ⟨B, j, none⟩ x).heap[k]? = w.heap[k]? := fun k hk' => heap_setCell_other w ⟨B, j, none⟩ k x hk'
  have hne' : wb ≠ B := fun e => hne e.symm
  refine ⟨⟨v, b, g, (other wb hne').trans hh, ⟨hown.1, ?_⟩, hP, fun p hp => ?_⟩, hge, hB.setCell hB0 x, fun p hp => ?_⟩
  · rcases hown.2 with h2 | ⟨q, cap, cur, rfl, hq, hqh, r⟩
    · exact .inl h2
    · exact .inr ⟨q, cap, cur, rfl, hq, (other q fun e => hvB (by rw [e]; rfl)).trans hqh, r⟩
  · rcases List.mem_cons.1 hp with rfl | hp
    · exact hvB
    · exact hKv p (List.mem_cons_of_mem _ hp)
  · rcases List.mem_cons.1 hp with rfl | hp
    · exact ⟨hne, heap_setCell_same w B j cs t x hcs⟩
    · exact ⟨(hk p (List.mem_cons_of_mem _ hp)).1, (other _ (hK p hp)).trans (hk p (List.mem_cons_of_mem _ hp)).2⟩
/-- an append onto the row in the block at the head of those that are kept -/
theorem Wr.appK {B B' : Nat} {cs cs' : Array Value} {t : TypeId} {o : Obj} {w1 : World} (h : Wr w0 wb w L n P ((B, .cells cs t (0, 0)) :: K)) (hB0 : w0.heap.size ≤ B) (hK : ∀ p ∈ K, p.1 ≠ B)
    (hg : (w.alloc o).grownBy w1 (some B)) (hb : w1.heap[B']? = some (.cells cs' t (0, 0))) (hat : B' = B ∨ B' = w.heap.size + 1) : Wr w0 wb w1 L n P ((B', .cells cs' t (0, 0)) :: K) := by
  have hlt := h.lt
  have hlt0 := h.lt0
  obtain ⟨⟨v, b, g, hh, hown, hP, hKv⟩, hge, hB, hk⟩ := h
  obtain ⟨hne, hcs⟩ := hk _ List.mem_cons_self
  have hvB : v.ownBlock ≠ some B := hKv _ List.mem_cons_self
  have other : ∀ k, k < w.heap.size → k ≠ B → w1.heap[k]? = w.heap[k]? := fun k hk1 hk2 => (hg.block k (by simp; omega) fun e => hk2 (Option.some.inj e)).trans (heap_alloc_old w o hk1)
  refine ⟨⟨v, b, g, (other wb hlt fun e => hne e.symm).trans hh, ⟨hown.1, ?_⟩, hP, fun p hp => ?_⟩, hge, (hB.alloc hlt0 o).grown hg (by simp; omega) fun k e => by cases e; exact hB0, fun p hp => ?_⟩
  · rcases hown.2 with h2 | ⟨q, cap, cur, rfl, hq, hqh, r⟩
    · exact .inl h2
    · exact .inr ⟨q, cap, cur, rfl, hq, (other q (Array.getElem?_eq_some_iff.1 hqh).1 fun e => hvB (by rw [e]; rfl)).trans hqh, r⟩
  · rcases List.mem_cons.1 hp with rfl | hp
    · rcases hat with rfl | rfl
      · exact hvB
      · intro e
        have := (hown.lt _ e).2
        omega
    · exact hKv p (List.mem_cons_of_mem _ hp)
  · rcases List.mem_cons.1 hp with rfl | hp
    · refine ⟨?_, hb⟩
      rcases hat with rfl | rfl
      · exact hne
      · intro e
        have e : w.heap.size + 1 = wb := e
        omega
    · have h1 := hk p (List.mem_cons_of_mem _ hp)
      exact ⟨h1.1, (other _ (Array.getElem?_eq_some_iff.1 h1.2).1 (hK p hp)).trans h1.2⟩
/-- what is known of the first kept block -/
theorem Wr.headK {B : Nat} {o : Obj} (h : Wr w0 wb w L n P ((B, o) :: K)) : w.heap[B]? = some o ∧ B ≠ wb := ⟨(h.kept _ List.mem_cons_self).2, (h.kept _ List.mem_cons_self).1⟩
/-- kept blocks in another order -/
theorem Wr.swap {p q : Nat × Obj} (h : Wr w0 wb w L n P (p :: q :: K)) : Wr w0 wb w L n P (q :: p :: K) := h.less fun x hx => by
  rcases List.mem_cons.1 hx with rfl | hx
  · simp
  · rcases List.mem_cons.1 hx with rfl | hx
    · simp
    · simp [hx]
end
end Go.Proofs.YtckdgniecdfedaaGreatDoor
end
section
/- The writer's count of nodes and its mark for too large a formula. -/
namespace Go.Proofs.YtckdgniecdfedaaGreatDoor
open Go.RowKit

section
variable {w0 : World} {wb : Nat} {w : World} {L : List Int} {n : Nat} {P : Prop} {K : List (Nat × Obj)}
/-- one node more -/
theorem Wr.node (h : Wr w0 wb w L n P K) : Wr w0 wb (w.setCell ⟨wb, 1, none⟩ (.int .i64 ((n : Int) + 1))) L (n + 1) P K := by
  obtain ⟨a, c, b, g, hh, hown, hP, _⟩ := h.cells
  exact h.store (b' := b) (g' := g) hh (by simp) hP
/-- the mark is set -/
theorem Wr.big (h : Wr w0 wb w L n P K) : Wr w0 wb (w.setCell ⟨wb, 3, none⟩ (.bool true)) L n P K := by
  obtain ⟨a, c, b, g, hh, hown, hP, _⟩ := h.cells
  exact h.store (b' := b) (g' := true) hh (by simp) hP
/-- bad is set to x: if that is false, then Q -/
theorem Wr.bad (h : Wr w0 wb w L n P K) (x : Bool) {Q : Prop} (hQ : x = false → Q) : Wr w0 wb (w.setCell ⟨wb, 2, none⟩ (.bool x)) L n Q K := by
  obtain ⟨a, c, b, g, hh, hown, hP, _⟩ := h.cells
  exact h.store (b' := x) (g' := g) hh (by simp) hQ
end
end Go.Proofs.YtckdgniecdfedaaGreatDoor
end
