/- The walk of Encode at the claim of a region. -/
import Derived.Test.YtckdgniecdfedaaGreatDoorMgC
import Derived.StillTailTactics
import Derived.Test.YtckdgniecdfedaaGreatDoorMgI
section
/- The writer of certificates where nothing is bad: put, list and need. -/
namespace Go.Proofs.YtckdgniecdfedaaGreatDoor
open Go.RowKit

/-- the writer has been given the numbers L, and has marked nothing -/
structure Wz (w0 : World) (wb : Nat) (w : World) (L : List Int) (K : List (Nat × Obj)) : Prop where
  wr : Wr w0 wb w L 0 True K
  bad : w.cell? ⟨wb, 2, none⟩ = some (.bool false)
  big : w.cell? ⟨wb, 3, none⟩ = some (.bool false)

section
variable {w0 : World} {wb : Nat} {w : World} {L : List Int} {K : List (Nat × Obj)}
theorem Wz.alloc (h : Wz w0 wb w L K) (o : Obj) : Wz w0 wb (w.alloc o) L ((w.heap.size, o) :: K) :=
  ⟨h.wr.alloc o, (World.cell?_alloc_past _ _ _ h.wr.lt).trans h.bad, (World.cell?_alloc_past _ _ _ h.wr.lt).trans h.big⟩
theorem Wz.less {K' : List (Nat × Obj)} (h : Wz w0 wb w L K) (hs : ∀ p ∈ K', p ∈ K) : Wz w0 wb w L K' := ⟨h.wr.less hs, h.bad, h.big⟩
theorem Wz.tail {p : Nat × Obj} (h : Wz w0 wb w L (p :: K)) : Wz w0 wb w L K := ⟨h.wr.tail, h.bad, h.big⟩
theorem Wz.drawn (h : Wz w0 wb w L K) (m : Nat) : Wz w0 wb (w.drewN m) L K := ⟨h.wr.drawn m, h.bad, h.big⟩
theorem Wz.cell {B : Nat} {cs : Array Value} {t : TypeId} (h : Wz w0 wb w L ((B, .cells cs t (0, 0)) :: K)) (j : Nat) : w.cell? ⟨B, j, none⟩ = cs[j]? := h.wr.cell j
theorem Wz.cells (h : Wz w0 wb w L K) (hl : L.length ≤ 20000) : ∃ (a : Option Addr) (c : Nat), w.heap[wb]? = some (.cells #[.slice a L.length c, .int .i64 0, .bool false, .bool false] 128 (0, 0)) ∧ w.ownsRow (wb + 1) 3 1 (.slice a L.length c) L.length (L.map (Value.int .i64)) ∧
    w.cell? ⟨wb, 0, none⟩ = some (.slice a L.length c) ∧ w.frozen? ⟨wb, 0, none⟩ = false := by
  obtain ⟨a, c, b, g, hh, hown, _, c0, _, c2, c3, hf⟩ := h.wr.cells
  have e : cut20 L = L := List.take_of_length_le (by omega)
  rw [e] at hh hown c0
  obtain rfl : b = false := by have := c2.symm.trans h.bad; simpa using this
  obtain rfl : g = false := by have := c3.symm.trans h.big; simpa using this
  exact ⟨a, c, hh, hown, c0, hf 0⟩
theorem Wz.app {w1 : World} {a : Option Addr} {c : Nat} {o : Obj} {x : Int} {v' : Value} (h : Wz w0 wb w L K) (hl : L.length + 1 ≤ 20000)
    (hh : w.heap[wb]? = some (.cells #[.slice a L.length c, .int .i64 0, .bool false, .bool false] 128 (0, 0)))
    (hown' : w1.ownsRow (wb + 1) 3 1 v' (L.length + 1) (L.map (Value.int .i64) ++ [.int .i64 x])) (hg : (w.alloc o).grownBy w1 (Value.slice a L.length c).ownBlock)
    (hat : v'.ownBlock = (Value.slice a L.length c).ownBlock ∨ v'.ownBlock = some (w.heap.size + 1)) :
    Wz w0 wb (w1.setCell ⟨wb, 0, none⟩ v') (L ++ [x]) K ∧ w1.heap[wb]? = some (.cells #[.slice a L.length c, .int .i64 0, .bool false, .bool false] 128 (0, 0)) := by
  have e : cut20 L = L := List.take_of_length_le (by omega)
  have A := h.wr.app (w1 := w1) (a := a) (c := c) (b := false) (g := false) (o := o) (x := x) (v' := v') (by rw [e]; exact hh) (by rw [e]; omega) (by rw [e]; exact hown') (by rw [e]; exact hg) (by rw [e]; exact hat)
  rw [e] at A
  have k := heap_setCell_same w1 wb 0 _ 128 v' A.2
  exact ⟨⟨A.1, by simp [World.cell?, k], by simp [World.cell?, k]⟩, A.2⟩
/-- bad is set to what it is -/
theorem Wz.same_bad (h : Wz w0 wb w L K) : Wz w0 wb (w.setCell ⟨wb, 2, none⟩ (.bool false)) L K := by
  obtain ⟨a, c, b, g, hh, _, _, _, _, c2, c3, _⟩ := h.wr.cells
  obtain rfl : b = false := by have := c2.symm.trans h.bad; simpa using this
  obtain rfl : g = false := by have := c3.symm.trans h.big; simpa using this
  have k := heap_setCell_same w wb 2 _ 128 (.bool false) hh
  exact ⟨h.wr.store (b' := false) (g' := false) hh (by simp) (fun _ => trivial), by simp [World.cell?, k], by simp [World.cell?, k]⟩
/-- what a method of the writer hands back where nothing is bad -/
def WroteZ (w0 : World) (wb : Nat) (L : List Int) (K : List (Nat × Obj)) (e : Ending) (w' : World) : Prop := e = .returned (.tuple #[]) ∧ Wz w0 wb w' L K

set_option maxRecDepth 100000 in
set_option maxHeartbeats 4000000 in
theorem put_ok (h : Wz w0 wb w L K) {v : Value} {ns : List Int} (ha : Arg w0 K v ns) (hr : ∀ x ∈ ns, 0 ≤ x ∧ x < 65520) (hl : L.length + ns.length ≤ 20000) :
    Calls Tryz.prog 67 #[.pointer (some ⟨wb, 0, none⟩), v] w (WroteZ w0 wb (L ++ ns) K) := by
  obtain ⟨i0, hi, hz0, hz1, hz2⟩ := info_parts Tryz.info3
  obtain ⟨a0, c0, rfl⟩ := ha.len
  have HW0 := Lib.hid h
  have HA := Lib.hid ha
  have HR := Lib.hid hr
  clear h ha hr
  go_enter Tryz.func67, Tryz.ntmps67
  go_wp2_with fail
  go_loopw [5, 8] (fun x i wr => ∃ k : Nat, k ≤ ns.length ∧ i = .int .i64 k ∧ Wz w0 wb wr (L ++ ns.take k) K) (fun _ i _ => ns.length - (intOf i).toNat)
  case atStart => exact ⟨0, Nat.zero_le _, rfl, by simpa using HW0.out⟩
  case round =>
    obtain ⟨k, hk, rfl, hw⟩ := hrel
    by_cases hlt : k < ns.length
    · obtain ⟨a1, c1, e1, hnum⟩ := HA.out.nums hw.wr
      simp only [Value.slice.injEq, true_and] at e1
      obtain ⟨rfl, rfl⟩ := e1
      obtain ⟨b1, o1, rfl, hb1, hc1⟩ := hnum (fun e => by rw [e] at hlt; simp at hlt)
      have ck := hc1 k hlt
      have eA : ns.getD k 0 = ns[k] := by simp [hlt]
      rw [eA] at ck
      have HS : Hid (ns.take (k + 1) = ns.take k ++ [ns[k]]) := Lib.hid (List.take_succ_eq_append_getElem hlt)
      have hd : decide (k < ns.length) = true := by simpa using hlt
      obtain ⟨x0, x1⟩ := HR.out ns[k] (List.getElem_mem _)
      have hll : (L ++ ns.take k).length + 1 ≤ 20000 := by simp; omega
      clear eA hc1 hnum
      generalize ns[k] = x at *
      have hd0 : decide (x < 0) = false := by simpa using x0
      have hd1 : decide (65520 ≤ x) = false := by simp; omega
      have HW := Lib.hid hw
      clear hw
      have HLL := Lib.hid hll
      have hdl : decide ((L ++ ns.take k).length ≤ 20000) = true := by simp only [decide_eq_true_eq]; omega
      clear hll
      generalize hM : L ++ ns.take k = M at *
      obtain ⟨a, c, hh, hown, c0, f0⟩ := HW.out.cells (by have := HLL.out; omega)
      have HH := Lib.hid hh
      have HO := Lib.hid hown
      have HM := Lib.hid hM
      have hml : M.length ≤ 20000 := by have := HLL.out; omega
      clear hh hown hM
      go_wp2_with (first
        | (at_builtin; refine wpList_append_own_at _ rfl _ _ 25 rfl (wb + 1) 3 i0 (.int .i64 0) 1 8 Tryz.underlying25 hi hz0 hz1 hz2 rfl (by decide) _ _ _ rfl (HO.out.alloc _) ⟨wr.heap.size, 0, none⟩ 1 1 [.int .i64 x] rfl rfl (cell_one_new _ _ _) (by intro u hu; simp at hu; subst hu; rfl) (by unfold maxLen; omega) (by omega) (by rw [World.size_alloc]; exact Nat.succ_le_succ (Nat.le_of_lt HW.out.wr.lt)) ?_))
      intro v' w1 hown' hgrow _ hat
      obtain ⟨g2, cap2, rfl⟩ := ownsRow_succ hown'
      have A := HW.out.app HLL.out HH.out hown' hgrow hat
      have e3 := A.2
      have HA := Lib.hid A.1
      have d0 : w1.cell? ⟨wb, 0, none⟩ = some (.slice a M.length c) := by simp [World.cell?, e3]
      have q0 : w1.frozen? ⟨wb, 0, none⟩ = false := by simp [World.frozen?, e3]
      clear A e3 hown' hgrow hat
      go_wp2_with fail
      go_roundw
      case rel => exact ⟨k + 1, by omega, by go_num, by rw [HS.out, ← List.append_assoc, HM.out]; exact HA.out⟩
      case measure => simp [intOf]; omega
    · obtain rfl : k = ns.length := by omega
      rw [List.take_length] at hw
      have HW := Lib.hid hw
      clear hw
      go_wp2_with fail
      (try simp only [Exit.inBlock, Exit.then])
      refine bodyPost_end (results_none rfl _ _ _) rfl ?_
      exact ⟨rfl, HW.out⟩
end
end Go.Proofs.YtckdgniecdfedaaGreatDoor
end
section
/- The writer of certificates where nothing is bad: a game. -/
namespace Go.Proofs.YtckdgniecdfedaaGreatDoor
open Go.RowKit

/-- a game that is small enough for its numbers to be written -/
def Gm.tiny (g : Gm) : Prop := g.owner.length ≤ 100 ∧ (∀ x ∈ g.owner, 0 ≤ x ∧ x < 65520) ∧ (∀ x ∈ g.prio, 0 ≤ x ∧ x < 65520) ∧ (∀ r ∈ g.succ, r.length ≤ 20 ∧ ∀ x ∈ r, 0 ≤ x ∧ x < 65520) ∧ (∀ r ∈ g.meas, r.length ≤ 20 ∧ ∀ x ∈ r, 0 ≤ x ∧ x < 65520)
theorem gps_len : ∀ (xs ys : List Int) (rs : List (List Int)), (∀ r ∈ rs, r.length ≤ 20) → (gps xs ys rs).length ≤ xs.length * 23
  | [], _, _, _ => by simp [gps]
  | _ :: _, [], _, _ => by simp [gps]
  | _ :: _, _ :: _, [], _ => by simp [gps]
  | x :: xs, y :: ys, r :: rs, h => by
    have h1 := gps_len xs ys rs (fun r hr => h r (by simp [hr]))
    have h2 := h r (by simp)
    simp only [gps, lst, List.length_append, List.length_cons, List.length_nil]
    omega
theorem lsts_len : ∀ (rs : List (List Int)), (∀ r ∈ rs, r.length ≤ 20) → (lsts rs).length ≤ rs.length * 21
  | [], _ => by simp [lsts]
  | r :: rs, h => by
    have h1 := lsts_len rs (fun r hr => h r (by simp [hr]))
    have h2 := h r (by simp)
    simp only [lsts, lst, List.length_append, List.length_cons]
    omega

section
variable {w0 : World} {wb : Nat} {w : World} {L : List Int} {K : List (Nat × Obj)}
theorem put1z (h : Wz w0 wb w L K) {s : Nat} (hs : w.heap.size = s) (x : Int) (h0 : 0 ≤ x) (h1 : x < 65520) (hl : L.length + 1 ≤ 20000) : Calls Tryz.prog 67 #[.pointer (some ⟨wb, 0, none⟩), .slice (some ⟨s, 0, none⟩) 1 1] (w.alloc (.cells #[.int .i64 x] 3)) (WroteZ w0 wb (L ++ [x]) K) := by
  subst hs
  exact (put_ok (h.alloc (.cells #[.int .i64 x] 3)) (v := .slice (some ⟨w.heap.size, 0, none⟩) 1 1) (ns := [x]) (Arg.made w.heap.size [x] 1) (by intro y hy; rw [List.mem_singleton.1 hy]; exact ⟨h0, h1⟩) hl).mono fun _ _ ⟨e, h⟩ => ⟨e, h.tail⟩
theorem put2z (h : Wz w0 wb w L K) {s : Nat} (hs : w.heap.size = s) (x y : Int) (hx : 0 ≤ x ∧ x < 65520) (hy : 0 ≤ y ∧ y < 65520) (hl : L.length + 2 ≤ 20000) : Calls Tryz.prog 67 #[.pointer (some ⟨wb, 0, none⟩), .slice (some ⟨s, 0, none⟩) 2 2] (w.alloc (.cells #[.int .i64 x, .int .i64 y] 3)) (WroteZ w0 wb (L ++ [x, y]) K) := by
  subst hs
  exact (put_ok (h.alloc (.cells #[.int .i64 x, .int .i64 y] 3)) (v := .slice (some ⟨w.heap.size, 0, none⟩) 2 2) (ns := [x, y]) (Arg.made w.heap.size [x, y] 2) (by intro z hz; simp only [List.mem_cons, List.not_mem_nil, or_false] at hz; rcases hz with rfl | rfl; exact hx; exact hy) hl).mono fun _ _ ⟨e, h⟩ => ⟨e, h.tail⟩
set_option maxHeartbeats 1000000 in
theorem list_ok (h : Wz w0 wb w L K) {v : Value} {ns : List Int} (ha : Arg w0 K v ns) (hr : ∀ x ∈ ns, 0 ≤ x ∧ x < 65520) (hl : L.length + 1 + ns.length ≤ 20000) :
    Calls Tryz.prog 78 #[.pointer (some ⟨wb, 0, none⟩), v] w (WroteZ w0 wb (L ++ lst ns) K) := by
  obtain ⟨a0, c0, rfl⟩ := ha.len
  have HW := Lib.hid h
  have HA := Lib.hid ha
  have HR := Lib.hid hr
  clear h ha hr
  go_enter Tryz.func78, Tryz.ntmps78
  go_wp2_with fail
  refine (put1z HW.out rfl _ (by omega) (by omega) (by omega)).mono ?_
  rintro e w1 ⟨rfl, h1⟩
  have HW1 := Lib.hid h1
  clear h1
  go_wp2_with fail
  refine (put_ok HW1.out HA.out HR.out (by simp only [List.length_append, List.length_cons, List.length_nil]; omega)).mono ?_
  rintro e w2 ⟨rfl, h2⟩
  have HW2 := Lib.hid h2
  clear h2
  go_wp2_with fail
  (try simp only [Exit.inBlock, Exit.then])
  refine bodyPost_end (results_none rfl _ _ _) rfl ⟨rfl, ?_⟩
  have := HW2.out
  rw [List.append_assoc] at this
  exact this

set_option maxHeartbeats 1000000 in
theorem need_ok (h : Wz w0 wb w L K) (m : Int) {v : Value} {ns : List Int} (ha : Arg w0 K v ns) (hn : ns.length ≤ 20000) (hall : ∀ x ∈ ns, x = m) :
    Calls Tryz.prog 79 #[.pointer (some ⟨wb, 0, none⟩), .int .i64 m, v] w (WroteZ w0 wb L K) := by
  obtain ⟨a0, c0, rfl⟩ := ha.len
  have HW0 := Lib.hid h
  have HA := Lib.hid ha
  have HALL := Lib.hid hall
  clear h ha hall
  go_enter Tryz.func79, Tryz.ntmps79
  go_wp2_with fail
  go_loopw [7, 10] (fun x i wr => ∃ k : Nat, k ≤ ns.length ∧ i = .int .i64 k ∧ Wz w0 wb wr L K) (fun _ i _ => ns.length - (intOf i).toNat)
  case atStart => exact ⟨0, Nat.zero_le _, rfl, HW0.out⟩
  case round =>
    obtain ⟨k, hk, rfl, hw⟩ := hrel
    by_cases hlt : k < ns.length
    · obtain ⟨a1, c1, e1, hnum⟩ := HA.out.nums hw.wr
      simp only [Value.slice.injEq, true_and] at e1
      obtain ⟨rfl, rfl⟩ := e1
      obtain ⟨b1, o1, rfl, hb1, hc1⟩ := hnum (fun e => by rw [e] at hlt; simp at hlt)
      have ck := hc1 k hlt
      have eA : ns.getD k 0 = ns[k] := by simp [hlt]
      rw [eA] at ck
      have HS : Hid (ns.take (k + 1) = ns.take k ++ [ns[k]]) := Lib.hid (List.take_succ_eq_append_getElem hlt)
      have hd : decide (k < ns.length) = true := by simpa using hlt
      clear eA hc1 hnum
      have hxm : ns[k] = m := HALL.out _ (List.getElem_mem hlt)
      generalize ns[k] = x at *
      have hd0 : (x != m) = false := by simpa using hxm
      have HV := Lib.hid hw
      clear hw hxm
      go_wp2_with fail
      go_roundw
      case rel => exact ⟨k + 1, by omega, by go_num, HV.out⟩
      case measure => simp [intOf]; omega
    · obtain rfl : k = ns.length := by omega
      have HV := Lib.hid hw
      clear hw
      go_wp2_with fail
      (try simp only [Exit.inBlock, Exit.then])
      refine bodyPost_end (results_none rfl _ _ _) rfl ?_
      exact ⟨rfl, HV.out⟩
theorem need3z (h : Wz w0 wb w L K) {s : Nat} (hs : w.heap.size = s) (m x y z : Int) (hx : x = m) (hy : y = m) (hz : z = m) : Calls Tryz.prog 79 #[.pointer (some ⟨wb, 0, none⟩), .int .i64 m, .slice (some ⟨s, 0, none⟩) 3 3] (w.alloc (.cells #[.int .i64 x, .int .i64 y, .int .i64 z] 3)) (WroteZ w0 wb L K) := by
  subst hs
  exact (need_ok (h.alloc (.cells #[.int .i64 x, .int .i64 y, .int .i64 z] 3)) m (v := .slice (some ⟨w.heap.size, 0, none⟩) 3 3) (ns := [x, y, z]) (Arg.made w.heap.size [x, y, z] 3) (by simp) (by intro u hu; simp only [List.mem_cons, List.not_mem_nil, or_false] at hu; rcases hu with rfl | rfl | rfl; exact hx; exact hy; exact hz)).mono fun _ _ ⟨e, h⟩ => ⟨e, h.tail⟩

set_option maxRecDepth 100000 in
set_option maxHeartbeats 4000000 in
theorem game_ok (h : Wz w0 wb w L K) (g : Gm) (u v s t : Value) (hu : Nums w0 u g.owner) (_lu : g.owner.length ≤ 9223372036854775807) (hv : Nums w0 v g.prio) (_lv : g.prio.length ≤ 9223372036854775807) (hs : RowsV w0 s g.succ) (ht : RowsV w0 t g.meas) (hf : g.fit) (hti : g.tiny) (hL : L.length ≤ 100) :
    Calls Tryz.prog 77 #[.pointer (some ⟨wb, 0, none⟩), .agg #[u, v, s], t] w (WroteZ w0 wb (L ++ g.code) K) := by
  have HF := Lib.hid hf
  have HI := Lib.hid hti
  clear hf hti
  have HU := Lib.hid hu
  obtain ⟨au, cu, rfl, -⟩ := hu
  have HV := Lib.hid hv
  obtain ⟨av, cv, rfl, -⟩ := hv
  have HS := Lib.hid hs
  obtain ⟨as', cs, rfl, ls, -⟩ := hs
  have HT := Lib.hid ht
  obtain ⟨at', ct, rfl, lt, -⟩ := ht
  have A := h.alloc (.cells #[.slice au g.owner.length cu, .slice av g.prio.length cv, .slice as' g.succ.length cs] 39)
  have HA := Lib.hid A
  have d0 := A.cell 0
  have d1 := A.cell 1
  have d2 := A.cell 2
  simp only [List.getElem?_toArray, List.getElem?_cons_succ, List.getElem?_cons_zero] at d0 d1 d2
  clear A h
  go_enter Tryz.func77, Tryz.ntmps77
  go_wp2_with fail
  refine (put1z HA.out (s := w.heap.size + 1) (by simp) _ (by have := HI.out.1; omega) (by have := HI.out.1; omega) (by omega)).mono ?_
  rintro e' w1 ⟨rfl, h1⟩
  have e0 := h1.cell 0
  have e1 := h1.cell 1
  have e2 := h1.cell 2
  simp only [List.getElem?_toArray, List.getElem?_cons_succ, List.getElem?_cons_zero] at e0 e1 e2
  have H1 := Lib.hid h1
  clear h1 d0 d1 d2
  generalize w.heap.size = B at *
  go_wp2_with fail
  refine (need3z H1.out rfl _ _ _ _ (by have := HF.out.1; omega) (by have := HF.out.2.1; omega) (by have := HF.out.2.2; omega)).mono ?_
  rintro e' w2 ⟨rfl, h2⟩
  have d1 := h2.cell 1
  have d2 := h2.cell 2
  simp only [List.getElem?_toArray, List.getElem?_cons_succ, List.getElem?_cons_zero] at d1 d2
  have H2 := Lib.hid h2
  clear h2 e0 e1 e2
  go_upto_region 4 with fail
  go_cut [36, 37] from 29 to 37 (fun m z wx => ∃ M : Nat, m = .int .i64 M ∧ z = .int .i64 0 ∧ M ≤ g.owner.length ∧ M ≤ g.prio.length ∧ M ≤ g.succ.length ∧ (g.owner.length ≤ M ∨ g.prio.length ≤ M ∨ g.succ.length ≤ M) ∧ wx = w2)
  case first =>
    go_wp2_with fail
    all_goals go_meet
    all_goals exact ⟨_, rfl, rfl, by omega, by omega, by omega, by omega, rfl⟩
  case rest =>
    obtain ⟨M, rfl, rfl, m1, m2, m3, m4, rfl⟩ := hcut
    go_wp2_with fail
    go_loopw [7, 37] (fun x i wr => ∃ k : Nat, k ≤ M ∧ i = .int .i64 k ∧ Wz w0 wb wr (L ++ [(g.owner.length : Int)] ++ gps (g.owner.take k) (g.prio.take k) (g.succ.take k)) ((B, .cells #[.slice au g.owner.length cu, .slice av g.prio.length cv, .slice as' g.succ.length cs] 39) :: K)) (fun _ i _ => M - (intOf i).toNat)
    case atStart => exact ⟨0, Nat.zero_le _, rfl, by simpa [gps] using H2.out⟩
    case round =>
      obtain ⟨k, hk, rfl, hw⟩ := hrel
      have e0 := hw.cell 0
      have e1 := hw.cell 1
      have e2 := hw.cell 2
      simp only [List.getElem?_toArray, List.getElem?_cons_succ, List.getElem?_cons_zero] at e0 e1 e2
      by_cases hlt : k < M
      · have hlto : k < g.owner.length := by omega
        have hltp : k < g.prio.length := by omega
        have hlts : k < g.succ.length := by omega
        have hB := hw.wr.below
        obtain ⟨_, _, ev, _, hv⟩ := HS.out
        simp only [Value.slice.injEq, true_and] at ev
        obtain ⟨rfl, rfl⟩ := ev
        obtain ⟨b2, o2, rfl, hb2, hr⟩ := hv (fun e' => by rw [e'] at hlts; simp at hlts)
        obtain ⟨lr, ar, cr, c20, hr⟩ := hr k hlts
        obtain ⟨_, _, eu, hu⟩ := HU.out
        simp only [Value.slice.injEq, true_and] at eu
        obtain ⟨rfl, rfl⟩ := eu
        obtain ⟨b0, o0, rfl, hb0, hi⟩ := hu (fun e' => by rw [e'] at hlto; simp at hlto)
        have c00 := hi k hlto
        have eA : g.owner.getD k 0 = g.owner[k] := by simp [hlto]
        rw [eA] at c00
        obtain ⟨_, _, ev', hv'⟩ := HV.out
        simp only [Value.slice.injEq, true_and] at ev'
        obtain ⟨rfl, rfl⟩ := ev'
        obtain ⟨b1, o1, rfl, hb1, hi'⟩ := hv' (fun e' => by rw [e'] at hltp; simp at hltp)
        have c10 := hi' k hltp
        have eA' : g.prio.getD k 0 = g.prio[k] := by simp [hltp]
        rw [eA'] at c10
        have c0 := (hB.cell (p := ⟨b0, o0 + k, none⟩) hb0).trans c00
        have c1 := (hB.cell (p := ⟨b1, o1 + k, none⟩) hb1).trans c10
        obtain ⟨ox0, ox1⟩ := HI.out.2.1 _ (List.getElem_mem hlto)
        obtain ⟨py0, py1⟩ := HI.out.2.2.1 _ (List.getElem_mem hltp)
        have HRI := Lib.hid (HI.out.2.2.2.1 _ (List.getElem_mem hlts))
        have HLN : Hid ((L ++ [(g.owner.length : Int)] ++ gps (g.owner.take k) (g.prio.take k) (g.succ.take k)).length ≤ 101 + k * 23) := Lib.hid (by
          have h1 := gps_len (g.owner.take k) (g.prio.take k) (g.succ.take k) (fun r hr => (HI.out.2.2.2.1 r (List.mem_of_mem_take hr)).1)
          simp only [List.length_append, List.length_cons, List.length_nil, List.length_take] at h1 ⊢
          omega)
        have hk100 : k ≤ 100 := by have := HI.out.1; omega
        have HX := Lib.hid (gps_snoc g.owner g.prio g.succ k hlto hltp hlts)
        have HR := Lib.hid hr
        have HW := Lib.hid hw
        clear hv hi hu hv' hi' hr hB hw eA eA'
        generalize g.succ[k] = r at *
        generalize g.owner[k] = x at *
        generalize g.prio[k] = y at *
        go_wp2_with fail
        go_region_held3 (fun w' => w'.cell? ⟨B, 0, none⟩ = some (.slice (some ⟨b0, o0, none⟩) g.owner.length cu) ∧ w'.cell? ⟨B, 1, none⟩ = some (.slice (some ⟨b1, o1, none⟩) g.prio.length cv) ∧ w'.cell? ⟨b0, o0 + k, none⟩ = some (.int .i64 x) ∧ w'.cell? ⟨b1, o1 + k, none⟩ = some (.int .i64 y)) (go_keep)
          (first | (go_at_call 67; refine (put2z (HW.out.drawn 1) (s := wr.heap.size) rfl _ _ ⟨ox0, ox1⟩ ⟨py0, py1⟩ (by have := HLN.out; omega)).mono ?_; rintro e' w4 ⟨rfl, h4⟩; have q0 := h4.cell 0; have q1 := h4.cell 1; simp only [List.getElem?_toArray, List.getElem?_cons_succ, List.getElem?_cons_zero] at q0 q1; have q3 := (h4.wr.below.cell (p := ⟨b0, o0 + k, none⟩) hb0).trans c00; have q4 := (h4.wr.below.cell (p := ⟨b1, o1 + k, none⟩) hb1).trans c10))
        have r2 := h4.cell 2
        simp only [List.getElem?_toArray, List.getElem?_cons_succ, List.getElem?_cons_zero] at r2
        have r3 := (h4.wr.below.cell (p := ⟨b2, o2 + k, none⟩) hb2).trans c20
        have H4 := Lib.hid h4
        clear h4 e0 e1 e2 c0 c1 q0 q1 q3 q4
        go_wp2_with fail
        refine (list_ok H4.out (.inl HR.out) HRI.out.2 (by have h1 := HLN.out; have h2 := HRI.out.1; rw [List.length_append]; simp only [List.length_cons, List.length_nil]; omega)).mono ?_
        rintro e' w5 ⟨rfl, h5⟩
        have H5 := Lib.hid h5
        clear h5 r2 r3
        go_wp2_with fail
        go_roundw
        case rel => exact ⟨k + 1, by omega, by go_num, by rw [HX.out]; have e' := H5.out; simp only [List.append_assoc] at e' ⊢; exact e'⟩
        case measure => simp [intOf]; omega
      · obtain rfl : k = M := by omega
        have HE := Lib.hid (gps_take g.owner g.prio g.succ k (by omega))
        have HW := Lib.hid hw
        clear hw e0 e1 e2
        go_wp2_with fail
        go_loopw [9, 63] (fun x i wr => ∃ j : Nat, j ≤ g.meas.length ∧ i = .int .i64 j ∧ Wz w0 wb wr (L ++ ([(g.owner.length : Int)] ++ gps g.owner g.prio g.succ) ++ lsts (g.meas.take j)) ((B, .cells #[.slice au g.owner.length cu, .slice av g.prio.length cv, .slice as' g.succ.length cs] 39) :: K)) (fun _ i _ => g.meas.length - (intOf i).toNat)
        case atStart => exact ⟨0, Nat.zero_le _, rfl, by have := HW.out; rw [HE.out] at this; simpa [lsts] using this⟩
        case round =>
          obtain ⟨j, hj, rfl, hw⟩ := hrel
          by_cases hlt' : j < g.meas.length
          · obtain ⟨_, _, ev, _, hv⟩ := HT.out
            simp only [Value.slice.injEq, true_and] at ev
            obtain ⟨rfl, rfl⟩ := ev
            obtain ⟨b2, o2, rfl, hb2, hr⟩ := hv (fun e' => by rw [e'] at hlt'; simp at hlt')
            obtain ⟨lr, ar, cr, c20, hr⟩ := hr j hlt'
            have c2 := (hw.wr.below.cell (p := ⟨b2, o2 + j, none⟩) hb2).trans c20
            have HRI := Lib.hid (HI.out.2.2.2.2 _ (List.getElem_mem hlt'))
            have HLN : Hid ((L ++ ([(g.owner.length : Int)] ++ gps g.owner g.prio g.succ) ++ lsts (g.meas.take j)).length ≤ 101 + g.owner.length * 23 + j * 21) := Lib.hid (by
              have h1 := gps_len g.owner g.prio g.succ (fun r hr => (HI.out.2.2.2.1 r hr).1)
              have h2 := lsts_len (g.meas.take j) (fun r hr => (HI.out.2.2.2.2 r (List.mem_of_mem_take hr)).1)
              simp only [List.length_append, List.length_cons, List.length_nil, List.length_take] at h1 h2 ⊢
              omega)
            have hj100 : j ≤ 100 := by have h1 := HI.out.1; have h2 := HF.out.2.2; omega
            have HX := Lib.hid (show lsts (g.meas.take (j + 1)) = lsts (g.meas.take j) ++ lst g.meas[j] by rw [List.take_succ_eq_append_getElem hlt', lsts_append]; simp [lsts])
            have HR := Lib.hid hr
            have HW' := Lib.hid hw
            clear hv hr hw
            generalize g.meas[j] = r at *
            go_wp2_with fail
            refine (list_ok HW'.out (.inl HR.out) HRI.out.2 (by have h1 := HLN.out; have h2 := HRI.out.1; have h3 := HI.out.1; omega)).mono ?_
            rintro e' w5 ⟨rfl, h5⟩
            have H5 := Lib.hid h5
            clear h5 c2 c20
            go_wp2_with fail
            go_roundw
            case rel => exact ⟨j + 1, by omega, by go_num, by rw [HX.out]; have e' := H5.out; simp only [List.append_assoc] at e' ⊢; exact e'⟩
            case measure => simp [intOf]; omega
          · obtain rfl : j = g.meas.length := by omega
            rw [List.take_length] at hw
            have HF := Lib.hid hw.tail
            clear hw
            go_wp2_with fail
            (try simp only [Exit.inBlock, Exit.then])
            refine bodyPost_end (results_none rfl _ _ _) rfl ⟨rfl, ?_⟩
            have := HF.out
            rw [List.append_assoc] at this
            exact this
end
end Go.Proofs.YtckdgniecdfedaaGreatDoor
end
section
/- The walk of Encode over the claim of a region: its numbers and its seal. -/
namespace Go.Proofs.YtckdgniecdfedaaGreatDoor
open Go.RowKit
set_option maxRecDepth 100000 in
theorem noEnv_zero (w : World) : Calls Tryz.prog 71 #[.agg #[.int .i64 0, .int .i64 0, .int .i64 0, .slice none 0 0, .slice none 0 0]] w (fun e w' => e = .returned (.bool true) ∧ w' = w.alloc (.cells #[.int .i64 0, .int .i64 0, .int .i64 0, .slice none 0 0, .slice none 0 0] 56)) := by
  have d0 := cell_new w #[.int .i64 0, .int .i64 0, .int .i64 0, .slice none 0 0, .slice none 0 0] 56 0
  have d1 := cell_new w #[.int .i64 0, .int .i64 0, .int .i64 0, .slice none 0 0, .slice none 0 0] 56 1
  have d2 := cell_new w #[.int .i64 0, .int .i64 0, .int .i64 0, .slice none 0 0, .slice none 0 0] 56 2
  have d3 := cell_new w #[.int .i64 0, .int .i64 0, .int .i64 0, .slice none 0 0, .slice none 0 0] 56 3
  have d4 := cell_new w #[.int .i64 0, .int .i64 0, .int .i64 0, .slice none 0 0, .slice none 0 0] 56 4
  simp only [List.getElem?_toArray, List.getElem?_cons_succ, List.getElem?_cons_zero] at d0 d1 d2 d3 d4
  go_enter Tryz.func71, Tryz.ntmps71
  go_wp2_with fail
  go_ret
  exact ⟨rfl, rfl⟩
set_option maxRecDepth 100000 in
theorem noCtrl_zero (w : World) : Calls Tryz.prog 73 #[.agg #[.int .i64 0, .int .i64 0, .int .i64 0, .slice none 0 0, .slice none 0 0]] w (fun e w' => e = .returned (.bool true) ∧ w' = w.alloc (.cells #[.int .i64 0, .int .i64 0, .int .i64 0, .slice none 0 0, .slice none 0 0] 54)) := by
  have d0 := cell_new w #[.int .i64 0, .int .i64 0, .int .i64 0, .slice none 0 0, .slice none 0 0] 54 0
  have d1 := cell_new w #[.int .i64 0, .int .i64 0, .int .i64 0, .slice none 0 0, .slice none 0 0] 54 1
  have d2 := cell_new w #[.int .i64 0, .int .i64 0, .int .i64 0, .slice none 0 0, .slice none 0 0] 54 2
  have d3 := cell_new w #[.int .i64 0, .int .i64 0, .int .i64 0, .slice none 0 0, .slice none 0 0] 54 3
  have d4 := cell_new w #[.int .i64 0, .int .i64 0, .int .i64 0, .slice none 0 0, .slice none 0 0] 54 4
  simp only [List.getElem?_toArray, List.getElem?_cons_succ, List.getElem?_cons_zero] at d0 d1 d2 d3 d4
  go_enter Tryz.func73, Tryz.ntmps73
  go_wp2_with fail
  go_ret
  exact ⟨rfl, rfl⟩
set_option maxRecDepth 100000 in
theorem noForm_zero (w : World) : Calls Tryz.prog 76 #[.agg #[.int .i64 0, .string ⟨#[]⟩, .int .i64 0, .int .i64 0, .slice none 0 0]] w (fun e w' => e = .returned (.bool true) ∧ w' = w.alloc (.cells #[.int .i64 0, .string ⟨#[]⟩, .int .i64 0, .int .i64 0, .slice none 0 0] 48)) := by
  have d0 := cell_new w #[.int .i64 0, .string ⟨#[]⟩, .int .i64 0, .int .i64 0, .slice none 0 0] 48 0
  have d1 := cell_new w #[.int .i64 0, .string ⟨#[]⟩, .int .i64 0, .int .i64 0, .slice none 0 0] 48 1
  have d2 := cell_new w #[.int .i64 0, .string ⟨#[]⟩, .int .i64 0, .int .i64 0, .slice none 0 0] 48 2
  have d3 := cell_new w #[.int .i64 0, .string ⟨#[]⟩, .int .i64 0, .int .i64 0, .slice none 0 0] 48 3
  have d4 := cell_new w #[.int .i64 0, .string ⟨#[]⟩, .int .i64 0, .int .i64 0, .slice none 0 0] 48 4
  simp only [List.getElem?_toArray, List.getElem?_cons_succ, List.getElem?_cons_zero] at d0 d1 d2 d3 d4
  go_enter Tryz.func76, Tryz.ntmps76
  go_wp2_with fail
  go_ret
  exact ⟨rfl, rfl⟩
theorem Gm.code_rng {g : Gm} (hf : g.fit) (h : g.tiny) : ∀ x ∈ g.code, 0 ≤ x ∧ x < 65520 := by
  obtain ⟨h0, h1, h2, h3, h4⟩ := h
  obtain ⟨f1, f2, f3⟩ := hf
  have hg : ∀ (xs ys : List Int) (rs : List (List Int)), (∀ x ∈ xs, 0 ≤ x ∧ x < 65520) → (∀ x ∈ ys, 0 ≤ x ∧ x < 65520) → (∀ r ∈ rs, r.length ≤ 20 ∧ ∀ x ∈ r, 0 ≤ x ∧ x < 65520) → ∀ x ∈ gps xs ys rs, 0 ≤ x ∧ x < 65520 := by
    intro xs
    induction xs with
    | nil => intro ys rs _ _ _ x hx; simp [gps] at hx
    | cons a xs ih =>
      intro ys rs hx hy hr x hm
      cases ys with
      | nil => simp [gps] at hm
      | cons b ys =>
        cases rs with
        | nil => simp [gps] at hm
        | cons r rs =>
          simp only [gps, lst, List.cons_append, List.nil_append, List.mem_cons, List.mem_append] at hm
          rcases hm with rfl | rfl | rfl | hm | hm
          · exact hx _ (by simp)
          · exact hy _ (by simp)
          · have := (hr r (by simp)).1; omega
          · exact (hr r (by simp)).2 x hm
          · exact ih ys rs (fun z hz => hx z (by simp [hz])) (fun z hz => hy z (by simp [hz])) (fun z hz => hr z (by simp [hz])) x hm
  have hl : ∀ (rs : List (List Int)), (∀ r ∈ rs, r.length ≤ 20 ∧ ∀ x ∈ r, 0 ≤ x ∧ x < 65520) → ∀ x ∈ lsts rs, 0 ≤ x ∧ x < 65520 := by
    intro rs
    induction rs with
    | nil => intro _ x hx; simp [lsts] at hx
    | cons r rs ih =>
      intro hr x hm
      simp only [lsts, lst, List.cons_append, List.mem_cons, List.mem_append] at hm
      rcases hm with rfl | hm | hm
      · have := (hr r (by simp)).1; omega
      · exact (hr r (by simp)).2 x hm
      · exact ih (fun z hz => hr z (by simp [hz])) x hm
  intro x hx
  simp only [Gm.code, List.cons_append, List.nil_append, List.mem_cons, List.mem_append] at hx
  rcases hx with rfl | hx | hx
  · omega
  · exact hg _ _ _ h1 h2 h3 x hx
  · exact hl _ h4 x hx
theorem Gm.code_len {g : Gm} (hf : g.fit) (h : g.tiny) : g.code.length ≤ 5000 := by
  obtain ⟨h0, h1, h2, h3, h4⟩ := h
  obtain ⟨f1, f2, f3⟩ := hf
  have k1 := gps_len g.owner g.prio g.succ (fun r hr => (h3 r hr).1)
  have k2 := lsts_len g.meas (fun r hr => (h4 r hr).1)
  simp only [Gm.code, List.length_append, List.length_cons, List.length_nil]
  omega

/-- what Encode hands back for a region -/
def Region (w : World) (g : Gm) (e : Ending) (w' : World) : Prop := Below w.heap.size w w' ∧ ∃ (az : Option Addr) (ln cz : Nat), e = .returned (.tuple #[.agg #[.slice az ln cz, .int .i64 (Sl.sl (3 :: g.code))], .int .i64 0]) ∧ Nums w' (.slice az ln cz) (3 :: g.code)

theorem Wz.start (w : World) (cs : Array Value) : ∃ w0 w1 : World, w1 = ((w.alloc (.cells cs 59)).alloc (.cells #[.slice none 0 0, .int .i64 0] 30)).alloc (.cells #[.slice none 0 0, .int .i64 0, .bool false, .bool false] 128) ∧ Below w.heap.size w w0 ∧
    (∀ (wr : World) (L : List Int) (K : List (Nat × Obj)), Wz w0 (w.heap.size + 1 + 1) wr L K → ∀ j, wr.cell? ⟨w.heap.size, j, none⟩ = cs[j]?) ∧ (∀ (wr : World) (L : List Int) (K : List (Nat × Obj)), Wz w0 (w.heap.size + 1 + 1) wr L K → wr.heap[w.heap.size + 1]? = some (.cells #[.slice none 0 0, .int .i64 0] 30)) ∧
    w0.heap.size = w.heap.size + 1 + 1 ∧ Wz w0 (w.heap.size + 1 + 1) w1 [] [] := by
  obtain ⟨w0, w1, h1, h2, h3, h4, h5, h6⟩ := claim_start w cs
  have hs : ((w.alloc (.cells cs 59)).alloc (.cells #[.slice none 0 0, .int .i64 0] 30)).heap.size = w.heap.size + 1 + 1 := by simp
  have hc := fun j => cell_new ((w.alloc (.cells cs 59)).alloc (.cells #[.slice none 0 0, .int .i64 0] 30)) #[.slice none 0 0, .int .i64 0, .bool false, .bool false] 128 j
  rw [hs, ← h1] at hc
  exact ⟨w0, w1, h1, h2, fun wr L K h => h3 wr L 0 True K h.wr, fun wr L K h => h4 wr L 0 True K h.wr, h5, h6, hc 2, hc 3⟩

set_option maxRecDepth 100000 in
set_option maxHeartbeats 4000000 in
theorem encode_region (w : World) (g : Gm) (a1 a2 a3 a4 : Option Addr) (c1 c2 c3 c4 : Nat) (hu : Nums w (.slice a1 g.owner.length c1) g.owner) (hv : Nums w (.slice a2 g.prio.length c2) g.prio) (hs : RowsV w (.slice a3 g.succ.length c3) g.succ) (ht : RowsV w (.slice a4 g.meas.length c4) g.meas) (hf : g.fit) (hti : g.tiny) :
    Calls Tryz.prog 23 #[.agg #[.int .i64 3, .slice none 0 0, .int .i64 0, .string ⟨#[]⟩, .int .i64 0, .int .i64 0, .slice none 0 0, .int .i64 0, .int .i64 0, .int .i64 0, .slice none 0 0, .slice none 0 0, .int .i64 0, .int .i64 0, .int .i64 0, .slice none 0 0, .slice none 0 0, .slice none 0 0, .slice a1 g.owner.length c1, .slice a2 g.prio.length c2, .slice a3 g.succ.length c3, .slice a4 g.meas.length c4, .slice none 0 0, .slice none 0 0]] w (Region w g) := by
  obtain ⟨w0, w1, e1, hB, hC, hR, hs0, hW⟩ := Wz.start w #[.int .i64 3, .slice none 0 0, .int .i64 0, .string ⟨#[]⟩, .int .i64 0, .int .i64 0, .slice none 0 0, .int .i64 0, .int .i64 0, .int .i64 0, .slice none 0 0, .slice none 0 0, .int .i64 0, .int .i64 0, .int .i64 0, .slice none 0 0, .slice none 0 0, .slice none 0 0, .slice a1 g.owner.length c1, .slice a2 g.prio.length c2, .slice a3 g.succ.length c3, .slice a4 g.meas.length c4, .slice none 0 0, .slice none 0 0]
  have HV := Lib.hid (⟨hu.keep hB, hv.keep hB, hs.keep hB, ht.keep hB⟩ : Nums w0 (.slice a1 g.owner.length c1) g.owner ∧ Nums w0 (.slice a2 g.prio.length c2) g.prio ∧ RowsV w0 (.slice a3 g.succ.length c3) g.succ ∧ RowsV w0 (.slice a4 g.meas.length c4) g.meas)
  have HF := Lib.hid hf
  have HT := Lib.hid hti
  have HBl := Lib.hid hB
  have HC := Lib.hid hC
  have HR := Lib.hid hR
  have HS0 := Lib.hid hs0
  have HW := Lib.hid hW
  have E1 := Lib.hid e1
  clear hu hv hs ht hf hti hB hC hR hs0 hW e1
  go_enter Tryz.func23, Tryz.ntmps23
  go_upto_region 2 with fail
  rw [← E1.out]
  clear E1
  generalize Value.agg #[.int .i64 3, .slice none 0 0, .int .i64 0, .string ⟨#[]⟩, .int .i64 0, .int .i64 0, .slice none 0 0, .int .i64 0, .int .i64 0, .int .i64 0, .slice none 0 0, .slice none 0 0, .int .i64 0, .int .i64 0, .int .i64 0, .slice none 0 0, .slice none 0 0, .slice none 0 0, .slice a1 g.owner.length c1, .slice a2 g.prio.length c2, .slice a3 g.succ.length c3, .slice a4 g.meas.length c4, .slice none 0 0, .slice none 0 0] = v0
  generalize hbc : w.heap.size = bc at *
  have HBC := Lib.hid hbc
  clear hbc
  have t0 := HC.out _ _ _ HW.out 0
  simp only [List.getElem?_toArray, List.getElem?_cons_zero] at t0
  go_upto_region 3 with (first | (go_at_call 67; refine (put1z HW.out rfl 3 (by omega) (by omega) (by simp)).mono ?_; rintro e w2 ⟨rfl, h2⟩))
  have H2 := Lib.hid h2
  clear h2 t0
  have t0 := HC.out _ _ _ H2.out 0
  simp only [List.getElem?_toArray, List.getElem?_cons_zero] at t0
  go_upto_region 17 with fail
  clear t0
  have qH2 := H2.out.bad
  obtain ⟨azH2, czH2, hh, -, -, -⟩ := H2.out.cells (by simp)
  have fH2 : w2.frozen? ⟨bc + 1 + 1, 2, none⟩ = false := by simp [World.frozen?, hh]
  clear hh
  have t1 := HC.out _ _ _ H2.out 1
  have t2 := HC.out _ _ _ H2.out 2
  have t3 := HC.out _ _ _ H2.out 3
  have t4 := HC.out _ _ _ H2.out 4
  have t5 := HC.out _ _ _ H2.out 5
  have t6 := HC.out _ _ _ H2.out 6
  have t7 := HC.out _ _ _ H2.out 7
  have t8 := HC.out _ _ _ H2.out 8
  have t9 := HC.out _ _ _ H2.out 9
  have t10 := HC.out _ _ _ H2.out 10
  have t11 := HC.out _ _ _ H2.out 11
  have t12 := HC.out _ _ _ H2.out 12
  have t13 := HC.out _ _ _ H2.out 13
  have t14 := HC.out _ _ _ H2.out 14
  have t15 := HC.out _ _ _ H2.out 15
  have t16 := HC.out _ _ _ H2.out 16
  simp only [List.getElem?_toArray, List.getElem?_cons_succ, List.getElem?_cons_zero] at t1 t2 t3 t4 t5 t6 t7 t8 t9 t10 t11 t12 t13 t14 t15 t16
  go_wp2_with fail
  refine (noForm_zero _).mono ?_
  rintro e ww ⟨rfl, rfl⟩
  have N0 := Lib.hid (H2.out.alloc (.cells #[.int .i64 0, .string ⟨#[]⟩, .int .i64 0, .int .i64 0, .slice none 0 0] 48)).tail
  generalize w2.alloc (.cells #[.int .i64 0, .string ⟨#[]⟩, .int .i64 0, .int .i64 0, .slice none 0 0] 48) = x0 at *
  clear t1 t2 t3 t4 t5 t6 t7 t8 t9 t10 t11 t12 t13 t14 t15 t16 qH2 fH2
  have t7 := HC.out _ _ _ N0.out 7
  have t8 := HC.out _ _ _ N0.out 8
  have t9 := HC.out _ _ _ N0.out 9
  have t10 := HC.out _ _ _ N0.out 10
  have t11 := HC.out _ _ _ N0.out 11
  have t12 := HC.out _ _ _ N0.out 12
  have t13 := HC.out _ _ _ N0.out 13
  have t14 := HC.out _ _ _ N0.out 14
  have t15 := HC.out _ _ _ N0.out 15
  have t16 := HC.out _ _ _ N0.out 16
  simp only [List.getElem?_toArray, List.getElem?_cons_succ, List.getElem?_cons_zero] at t7 t8 t9 t10 t11 t12 t13 t14 t15 t16
  have qN0 := N0.out.bad
  obtain ⟨azN0, czN0, hh, -, -, -⟩ := N0.out.cells (by simp)
  have fN0 : x0.frozen? ⟨bc + 1 + 1, 2, none⟩ = false := by simp [World.frozen?, hh]
  clear hh
  go_wp2_with fail
  refine (noCtrl_zero _).mono ?_
  rintro e ww ⟨rfl, rfl⟩
  have N1 := Lib.hid (N0.out.alloc (.cells #[.int .i64 0, .int .i64 0, .int .i64 0, .slice none 0 0, .slice none 0 0] 54)).tail
  generalize x0.alloc (.cells #[.int .i64 0, .int .i64 0, .int .i64 0, .slice none 0 0, .slice none 0 0] 54) = x1 at *
  clear t7 t8 t9 t10 t11 t12 t13 t14 t15 t16 qN0 fN0
  have t12 := HC.out _ _ _ N1.out 12
  have t13 := HC.out _ _ _ N1.out 13
  have t14 := HC.out _ _ _ N1.out 14
  have t15 := HC.out _ _ _ N1.out 15
  have t16 := HC.out _ _ _ N1.out 16
  simp only [List.getElem?_toArray, List.getElem?_cons_succ, List.getElem?_cons_zero] at t12 t13 t14 t15 t16
  have qN1 := N1.out.bad
  obtain ⟨azN1, czN1, hh, -, -, -⟩ := N1.out.cells (by simp)
  have fN1 : x1.frozen? ⟨bc + 1 + 1, 2, none⟩ = false := by simp [World.frozen?, hh]
  clear hh
  go_wp2_with fail
  refine (noEnv_zero _).mono ?_
  rintro e ww ⟨rfl, rfl⟩
  have N2 := Lib.hid (N1.out.alloc (.cells #[.int .i64 0, .int .i64 0, .int .i64 0, .slice none 0 0, .slice none 0 0] 56)).tail
  generalize x1.alloc (.cells #[.int .i64 0, .int .i64 0, .int .i64 0, .slice none 0 0, .slice none 0 0] 56) = x2 at *
  clear t12 t13 t14 t15 t16 qN1 fN1
  have qN2 := N2.out.bad
  obtain ⟨azN2, czN2, hh, -, -, -⟩ := N2.out.cells (by simp)
  have fN2 : x2.frozen? ⟨bc + 1 + 1, 2, none⟩ = false := by simp [World.frozen?, hh]
  clear hh
  have S1 := Lib.hid (N2.out.same_bad)
  go_upto_region 18 with fail
  clear qN2 fN2
  generalize x2.setCell ⟨bc + 1 + 1, 2, none⟩ (.bool false) = w3 at *
  have qS1 := S1.out.bad
  obtain ⟨azS1, czS1, hh, -, -, -⟩ := S1.out.cells (by simp)
  have fS1 : w3.frozen? ⟨bc + 1 + 1, 2, none⟩ = false := by simp [World.frozen?, hh]
  clear hh
  have t17 := HC.out _ _ _ S1.out 17
  have t22 := HC.out _ _ _ S1.out 22
  have t23 := HC.out _ _ _ S1.out 23
  simp only [List.getElem?_toArray, List.getElem?_cons_succ, List.getElem?_cons_zero] at t17 t22 t23
  have S2 := Lib.hid (S1.out.same_bad)
  go_upto_region 19 with fail
  clear qS1 fS1 t17 t22 t23
  generalize w3.setCell ⟨bc + 1 + 1, 2, none⟩ (.bool false) = w4 at *
  have t18 := HC.out _ _ _ S2.out 18
  have t19 := HC.out _ _ _ S2.out 19
  have t20 := HC.out _ _ _ S2.out 20
  have t21 := HC.out _ _ _ S2.out 21
  simp only [List.getElem?_toArray, List.getElem?_cons_succ, List.getElem?_cons_zero] at t18 t19 t20 t21
  go_wp2_with fail
  refine (game_ok S2.out g _ _ _ _ HV.out.1 (by have := HT.out.1; omega) HV.out.2.1 (by have h1 := HT.out.1; have h2 := HF.out.1; omega) HV.out.2.2.1 HV.out.2.2.2 HF.out HT.out (by simp)).mono ?_
  rintro e w5 ⟨rfl, h5⟩
  have H5 := Lib.hid h5
  clear h5 t18 t19 t20 t21
  have HLC : Hid (([] ++ [3] ++ g.code : List Int) = 3 :: g.code) := Lib.hid (by simp)
  rw [HLC.out] at H5
  have HLL : Hid ((3 :: g.code).length ≤ 5001) := Lib.hid (by have := Gm.code_len HF.out HT.out; simp only [List.length_cons]; omega)
  have HRG : Hid (∀ x ∈ 3 :: g.code, 0 ≤ x ∧ x < 65520) := Lib.hid (by
    intro x hx
    rcases List.mem_cons.1 hx with rfl | hx
    · omega
    · exact Gm.code_rng HF.out HT.out x hx)
  generalize hcl : 3 :: g.code = cl at *
  have HCL := Lib.hid hcl
  clear hcl
  have q2 := H5.out.bad
  have q3 := H5.out.big
  obtain ⟨az, cz, -, hown, z0, -⟩ := H5.out.cells (by have := HLL.out; omega)
  have hr := HR.out _ _ _ H5.out
  have r0 : w5.cell? ⟨bc + 1, 0, none⟩ = some (.slice none 0 0) := by simp [World.cell?, hr]
  have r1 : w5.cell? ⟨bc + 1, 1, none⟩ = some (.int .i64 0) := by simp [World.cell?, hr]
  have s0 : w5.frozen? ⟨bc + 1, 0, none⟩ = false := by simp [World.frozen?, hr]
  have s1 : w5.frozen? ⟨bc + 1, 1, none⟩ = false := by simp [World.frozen?, hr]
  have HO := Lib.hid hown
  have HRR := Lib.hid hr
  have HE : Hid (Below bc w w5) := Lib.hid (HBl.out.trans (H5.out.wr.below.mono (by rw [HS0.out]; omega)))
  clear hown hr
  have t17 := HC.out _ _ _ H5.out 17
  simp only [List.getElem?_toArray, List.getElem?_cons_succ, List.getElem?_cons_zero] at t17
  have hln : ¬ 20000 < cl.length := by have := HLL.out; omega
  have hd9 : decide (20000 < cl.length) = false := by simpa using hln
  have hd9' : decide ((20000 : Int) < (cl.length : Int)) = false := by simp; omega
  clear hln
  have HLM : Hid (cl.length ≤ 1000000) := Lib.hid (by have := HLL.out; omega)
  have HSZ : Hid (∀ j, j < cl.length → 0 ≤ cl.getD j 0 ∧ cl.getD j 0 < 65520) := Lib.hid (fun j hj => by
    have h1 := HRG.out _ (List.getElem_mem hj)
    have h2 : cl.getD j 0 = cl[j] := by simp [hj]
    rw [h2]
    exact h1)
  go_wp2_with fail
  go_region_held3 (fun w' => w'.cell? ⟨bc + 1 + 1, 0, none⟩ = some (.slice az cl.length cz)) (go_keep) (first | (go_at_call 10; refine (seal_own cl (w5.drewN 1) HO.out HLM.out HSZ.out).mono ?_; rintro e w9 ⟨rfl, rfl⟩))
  go_wp2_with fail
  obtain ⟨e0, e1, e2⟩ := stored (wz := w5.drewN 1) (.slice az cl.length cz) (.int .i64 (Sl.sl cl)) HRR.out (below_drawn HE.out 1) HBC.out
  exact coded_end rfl rfl e0 e1 ⟨e2, az, cl.length, cz, by rw [HCL.out]; rfl, by rw [HCL.out]; exact nums_stored HO.out⟩
end Go.Proofs.YtckdgniecdfedaaGreatDoor
end
