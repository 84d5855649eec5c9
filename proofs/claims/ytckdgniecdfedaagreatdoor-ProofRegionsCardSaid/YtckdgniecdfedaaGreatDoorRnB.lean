/- The walks of the small functions of the climb, and of the references on small games. -/
import Derived.Test.YtckdgniecdfedaaGreatDoorRnA
import Derived.KernelRfl
import Derived.Deep.OwnRows
import Derived.Deep.Cut
section
/- The walks of arena's test of games, where it holds. -/
namespace Go.Proofs.YtckdgniecdfedaaGreatDoor
open Go.RowKit

set_option maxRecDepth 100000 in
set_option maxHeartbeats 2000000 in
theorem within166 {v : Value} {R : List (List Int)} (w : World) (m : Int) (hR : RowsV w v R) (hr : ∀ r ∈ R, ∀ x ∈ r, 0 ≤ x ∧ x ≤ m) :
    Calls Tryz.prog 166 #[.int .i64 m, v] w (fun e w' => e = .returned (.bool true) ∧ w' = w) := by
  obtain ⟨a, c, rfl, hl, hc⟩ := hR
  have HC := Lib.hid hc
  have HR := Lib.hid hr
  clear hc hr
  go_enter Tryz.func166, Tryz.ntmps166
  go_wp2_with fail
  go_loopw [6, 8, 11] (fun _ _ i wr => ∃ k : Nat, k ≤ R.length ∧ i = .int .i64 k ∧ w = wr) (fun _ _ i _ => R.length - (intOf i).toNat)
  case atStart => exact ⟨0, Nat.zero_le _, rfl, rfl⟩
  case round =>
    obtain ⟨k, hk, rfl, rfl⟩ := hrel
    by_cases hlt : k < R.length
    · obtain ⟨b1, o1, rfl, hb1, hcell⟩ := HC.out (fun e => by rw [e] at hlt; simp at hlt)
      obtain ⟨lr, ar, cr, c0, a', c', e1, hn⟩ := hcell k hlt
      simp only [Value.slice.injEq, true_and] at e1
      obtain ⟨rfl, rfl⟩ := e1
      have HN := Lib.hid hn
      have HX := Lib.hid (HR.out R[k] (List.getElem_mem hlt))
      have hd : decide (k < R.length) = true := by simpa using hlt
      clear hcell hn
      generalize R[k] = r at *
      go_wp2_with fail
      go_loopw [8, 17] (fun _ i wr => ∃ j : Nat, j ≤ r.length ∧ i = .int .i64 j ∧ Hid (w = wr)) (fun _ i _ => r.length - (intOf i).toNat)
      case atStart => exact ⟨0, Nat.zero_le _, rfl, Lib.hid rfl⟩
      case round =>
        obtain ⟨j, hj, rfl, hw⟩ := hrel
        obtain rfl := hw.out
        by_cases hlt2 : j < r.length
        · obtain ⟨b2, o2, rfl, hb2, hc2⟩ := HN.out (fun e => by rw [e] at hlt2; simp at hlt2)
          have c1 := hc2 j hlt2
          have eA : r.getD j 0 = r[j] := by simp [hlt2]
          rw [eA] at c1
          obtain ⟨x0, x1⟩ := HX.out r[j] (List.getElem_mem hlt2)
          have hd2 : decide (j < r.length) = true := by simpa using hlt2
          clear hc2 eA
          generalize r[j] = x at *
          have hd3 : decide (x < 0) = false := by simpa using x0
          have hd4 : decide (m < x) = false := by simpa using x1
          go_wp2_with fail
          go_roundw
          case rel => exact ⟨j + 1, by omega, by go_num, by first | exact Lib.hid rfl | exact Lib.hid trivial⟩
          case measure => simp [intOf]; omega
        · have hd2 : decide (j < r.length) = false := by simpa using hlt2
          go_wp2_with fail
          go_roundw
          case rel => exact ⟨k + 1, by omega, by go_num, by first | rfl | trivial⟩
          case measure => simp [intOf]; omega
    · have hd : decide (k < R.length) = false := by simpa using hlt
      go_wp2_with fail
      go_ret
      exact ⟨rfl, rfl⟩
end Go.Proofs.YtckdgniecdfedaaGreatDoor
end
section
/- The walks of the small functions of the climb: part, top, before, along. -/
namespace Go.Proofs.YtckdgniecdfedaaGreatDoor
open Go.RowKit

/-- a list of rows of numbers that can be read, each with room for what it holds -/
def RowsC (w : World) (v : Value) (l : List (List Int)) : Prop :=
  ∃ a c, v = .slice a l.length c ∧ l.length ≤ 9223372036854775807 ∧ (l ≠ [] → ∃ b off, a = some ⟨b, off, none⟩ ∧ b < w.heap.size ∧ ∀ j (h : j < l.length),
    l[j].length ≤ 9223372036854775807 ∧ ∃ au cu, w.cell? ⟨b, off + j, none⟩ = some (.slice au l[j].length cu) ∧ l[j].length ≤ cu ∧ cu ≤ 9223372036854775807 ∧ Nums w (.slice au l[j].length cu) l[j])
theorem RowsC.rows {w : World} {v : Value} {l : List (List Int)} (h : RowsC w v l) : RowsV w v l := by
  obtain ⟨a, c, e, hl, h⟩ := h
  refine ⟨a, c, e, hl, fun h0 => ?_⟩
  obtain ⟨b, off, e', hb, hc⟩ := h h0
  refine ⟨b, off, e', hb, fun j hj => ?_⟩
  obtain ⟨h1, au, cu, h2, _, _, h4⟩ := hc j hj
  exact ⟨h1, au, cu, h2, h4⟩
theorem RowsC.keep {w w' : World} {v : Value} {l : List (List Int)} (h : RowsC w v l) (hB : Below w.heap.size w w') : RowsC w' v l := by
  obtain ⟨a, c, e, hl, h⟩ := h
  refine ⟨a, c, e, hl, fun h0 => ?_⟩
  obtain ⟨b, off, e', hb, hc⟩ := h h0
  refine ⟨b, off, e', Nat.lt_of_lt_of_le hb hB.size, fun j hj => ?_⟩
  obtain ⟨h1, au, cu, h2, h3, h5, h4⟩ := hc j hj
  exact ⟨h1, au, cu, (hB.cell (p := ⟨b, off + j, none⟩) hb).trans h2, h3, h5, h4.keep hB⟩
/-- a row of a readable list -/
theorem RowsC.at {w : World} {a : Option Addr} {c : Nat} {l : List (List Int)} (h : RowsC w (.slice a l.length c) l) {j : Nat} (hj : j < l.length) : ∃ b o au cu, a = some ⟨b, o, none⟩ ∧ w.cell? ⟨b, o + j, none⟩ = some (.slice au (l.getD j []).length cu) ∧ (l.getD j []).length ≤ cu ∧ cu ≤ 9223372036854775807 ∧ Nums w (.slice au (l.getD j []).length cu) (l.getD j []) := by
  obtain ⟨a', c', e, _, h⟩ := h
  simp only [Value.slice.injEq, true_and] at e
  obtain ⟨rfl, rfl⟩ := e
  obtain ⟨b, o, e, _, hc⟩ := h (fun e => by rw [e] at hj; simp at hj)
  obtain ⟨_, au, cu, h2, h3, h5, h4⟩ := hc j hj
  have eA : l.getD j [] = l[j] := by simp [hj]
  rw [eA]
  exact ⟨b, o, au, cu, e, h2, h3, h5, h4⟩
/-- a climb as it lies in a world -/
structure Clb (w : World) (cb : Nat) (o p : List Int) (s : List (List Int)) (mo un ca : List Int) (be : List (List Int)) : Prop where
  c0 : ∃ a c, w.cell? ⟨cb, 0, none⟩ = some (.slice a o.length c) ∧ Nums w (.slice a o.length c) o
  c1 : ∃ a c, w.cell? ⟨cb, 1, none⟩ = some (.slice a p.length c) ∧ Nums w (.slice a p.length c) p
  c2 : ∃ a c, w.cell? ⟨cb, 2, none⟩ = some (.slice a s.length c) ∧ RowsC w (.slice a s.length c) s
  c3 : ∃ a c, w.cell? ⟨cb, 3, none⟩ = some (.slice a mo.length c) ∧ Nums w (.slice a mo.length c) mo
  c4 : ∃ a c, w.cell? ⟨cb, 4, none⟩ = some (.slice a un.length c) ∧ Nums w (.slice a un.length c) un
  c5 : ∃ a c, w.cell? ⟨cb, 5, none⟩ = some (.slice a ca.length c) ∧ Nums w (.slice a ca.length c) ca
  c6 : ∃ a c, w.cell? ⟨cb, 6, none⟩ = some (.slice a be.length c) ∧ RowsV w (.slice a be.length c) be

theorem RowsC.drawn {w : World} {v : Value} {l : List (List Int)} (h : RowsC w v l) (n : Nat) : RowsC (w.drewN n) v l := by
  obtain ⟨a, c, e, hl, h⟩ := h
  refine ⟨a, c, e, hl, fun h0 => ?_⟩
  obtain ⟨b, off, e', hb, hc⟩ := h h0
  refine ⟨b, off, e', hb, fun j hj => ?_⟩
  obtain ⟨h1, au, cu, h2, h3, h5, h4⟩ := hc j hj
  exact ⟨h1, au, cu, h2, h3, h5, h4.drawn n⟩
theorem RowsV.drawn' {w : World} {v : Value} {l : List (List Int)} (h : RowsV w v l) (n : Nat) : RowsV (w.drewN n) v l := by
  obtain ⟨a, c, e, hl, h⟩ := h
  refine ⟨a, c, e, hl, fun h0 => ?_⟩
  obtain ⟨b, off, e', hb, hc⟩ := h h0
  refine ⟨b, off, e', hb, fun j hj => ?_⟩
  obtain ⟨h1, au, cu, h2, h4⟩ := hc j hj
  exact ⟨h1, au, cu, h2, h4.drawn n⟩
theorem Clb.drawn {w : World} {cb : Nat} {o p : List Int} {s : List (List Int)} {mo un ca : List Int} {be : List (List Int)} (h : Clb w cb o p s mo un ca be) (n : Nat) : Clb (w.drewN n) cb o p s mo un ca be := by
  obtain ⟨⟨a0, d0, e0, f0⟩, ⟨a1, d1, e1, f1⟩, ⟨a2, d2, e2, f2⟩, ⟨a3, d3, e3, f3⟩, ⟨a4, d4, e4, f4⟩, ⟨a5, d5, e5, f5⟩, ⟨a6, d6, e6, f6⟩⟩ := h
  exact ⟨⟨a0, d0, e0, f0.drawn n⟩, ⟨a1, d1, e1, f1.drawn n⟩, ⟨a2, d2, e2, f2.drawn n⟩, ⟨a3, d3, e3, f3.drawn n⟩, ⟨a4, d4, e4, f4.drawn n⟩, ⟨a5, d5, e5, f5.drawn n⟩, ⟨a6, d6, e6, f6.drawn' n⟩⟩
theorem part113 (w : World) (k : Int) (h0 : 0 ≤ k) (h1 : k ≤ 30000) : Calls Tryz.prog 113 #[.int .i64 k] w (fun e w' => e = .returned (.int .i64 ((k + 1) / 2)) ∧ w' = w) := by
  go_enter Tryz.func113, Tryz.ntmps113
  go_wp2_with fail
  go_ret
  exact ⟨rfl, rfl⟩
theorem before115 (w : World) (x y : Int) : Calls Tryz.prog 115 #[.int .i64 x, .int .i64 y] w (fun e w' => e = .returned (.bool (decide (x < y))) ∧ w' = w) := by
  go_enter Tryz.func115, Tryz.ntmps115
  go_wp2_with fail
  go_ret
  exact ⟨rfl, rfl⟩
/-- a number of a readable list -/
theorem Nums.at {w : World} {a : Option Addr} {c : Nat} {l : List Int} (h : Nums w (.slice a l.length c) l) {j : Nat} (hj : j < l.length) : ∃ b o, a = some ⟨b, o, none⟩ ∧ w.cell? ⟨b, o + j, none⟩ = some (.int .i64 (l.getD j 0)) := by
  obtain ⟨a', c', e, h⟩ := h
  simp only [Value.slice.injEq, true_and] at e
  obtain ⟨rfl, rfl⟩ := e
  obtain ⟨b, o, e, _, hc⟩ := h (fun e => by rw [e] at hj; simp at hj)
  exact ⟨b, o, e, hc j hj⟩
section
variable {w : World} {cb : Nat} {o p : List Int} {s : List (List Int)} {mo un ca : List Int} {be : List (List Int)}
theorem top117 (h : Clb w cb o p s mo un ca be) (hu : 0 < un.length) : Calls Tryz.prog 117 #[.pointer (some ⟨cb, 0, none⟩)] w (fun e w' => e = .returned (.int .i64 (un.getD 0 0)) ∧ w' = w) := by
  obtain ⟨a, c, h4, hn⟩ := h.c4
  obtain ⟨b, o', rfl, hc⟩ := hn.at hu
  simp only [Nat.add_zero] at hc
  clear h hn
  generalize un.getD 0 0 = x at *
  generalize un.length = n at *
  go_enter Tryz.func117, Tryz.ntmps117
  go_wp2_with fail
  go_ret
  exact ⟨rfl, rfl⟩
/-- the least measure along another one -/
def alongF (un : List Int) (m k : Int) : Int := if m = un.getD 0 0 then m else if k % 2 = 1 then m - m % (un.getD ((k + 1) / 2).toNat 0) + un.getD ((k + 1) / 2).toNat 0 else m - m % (un.getD ((k + 1) / 2).toNat 0)
theorem alongF_eq (un : List Int) (m k : Int) (j : Nat) (h : (k + 1) / 2 = j) : alongF un m k = if m = un.getD 0 0 then m else if k % 2 = 1 then m - m % (un.getD j 0) + un.getD j 0 else m - m % (un.getD j 0) := by
  unfold alongF
  rw [h]
  rfl
set_option maxRecDepth 100000 in
set_option maxHeartbeats 1000000 in
theorem along116 (h : Clb w cb o p s mo un ca be) (m k : Int) (m0 : 0 ≤ m) (m1 : m ≤ 2000000) (k0 : 0 ≤ k) (k1 : k ≤ 30000) (hk : ((k + 1) / 2).toNat < un.length) (hu : ∀ x ∈ un, 0 < x ∧ x ≤ 2000000) :
    Calls Tryz.prog 116 #[.pointer (some ⟨cb, 0, none⟩), .int .i64 m, .int .i64 k] w (Said w (.int .i64 (alongF un m k))) := by
  have HT := Lib.hid (top117 h (by omega))
  have q : ∀ n, Calls Tryz.prog 113 #[.int .i64 k] (w.drewN n) fun e w' => e = .returned (.int .i64 ((k + 1) / 2)) ∧ ∃ m', w' = (w.drewN n).drewN m' := fun n => (part113 (w.drewN n) k k0 k1).mono fun _ _ ⟨e, h⟩ => ⟨e, 0, by rw [h]; rfl⟩
  obtain ⟨a, c, h4, hn⟩ := h.c4
  obtain ⟨b, o', rfl, hc⟩ := hn.at hk
  have hx : un.getD ((k + 1) / 2).toNat 0 ∈ un := by rw [List.getD_eq_getElem?_getD, List.getElem?_eq_getElem hk]; exact List.getElem_mem _
  obtain ⟨x0, x1⟩ := hu _ hx
  have HA := Lib.hid (alongF_eq un m k ((k + 1) / 2).toNat (by omega))
  have hkk : (((k + 1) / 2).toNat : Int) = (k + 1) / 2 := by omega
  clear h hn hx hu
  generalize ((k + 1) / 2).toNat = j at *
  rw [← hkk] at q
  clear hkk
  generalize un.getD j 0 = u at *
  by_cases hm : m = un.getD 0 0
  · rw [if_pos hm] at HA
    have hd : (m == un.getD 0 0) = true := by simpa using hm
    clear hm
    generalize un.getD 0 0 = tp at *
    go_enter Tryz.func116, Tryz.ntmps116
    go_wp2_with fail
    refine HT.out.mono ?_
    rintro e w1 ⟨rfl, hw⟩
    subst w1
    go_wp2_with fail
    go_ret
    exact ⟨by (rw [HA.out]; try rfl), 0, rfl⟩
  · rw [if_neg hm] at HA
    have hd : (m == un.getD 0 0) = false := by simpa using hm
    clear hm
    generalize un.getD 0 0 = tp at *
    have hkn : j < un.length := hk
    generalize un.length = n at *
    have hki : (j : Int) < (n : Int) := by omega
    have hmd0 : 0 ≤ m % u := Int.emod_nonneg _ (by omega)
    have hmd1 : m % u ≤ m := by
      by_cases h : m < u
      · rw [Int.emod_eq_of_lt m0 h]; exact Int.le_refl _
      · have := Int.emod_lt_of_pos m x0; omega
    go_enter Tryz.func116, Tryz.ntmps116
    go_wp2_with fail
    refine HT.out.mono ?_
    rintro e w1 ⟨rfl, hw⟩
    subst w1
    go_wp2_with fail
    go_quiet ((go_at_call 113; with_reducible exact Calls.quiet_of (q _)))
    clear q
    by_cases h2 : k % 2 = 1
    · rw [if_pos h2] at HA
      have hd2 : (k % 2 == 1) = true := by simpa using h2
      clear h2
      go_wp2_with fail
      go_ret
      exact ⟨by (rw [HA.out]; try rfl), nq, rfl⟩
    · rw [if_neg h2] at HA
      have hd2 : (k % 2 == 1) = false := by simpa using h2
      clear h2
      go_wp2_with fail
      go_ret
      exact ⟨by (rw [HA.out]; try rfl), nq, rfl⟩
end
end Go.Proofs.YtckdgniecdfedaaGreatDoor
end
section
/- The walk of least: the first position with the least measure. -/
namespace Go.Proofs.YtckdgniecdfedaaGreatDoor
open Go.RowKit

theorem Tryz.method117 (x : Int) (w : World) : (method 647 117 (.int .i64 x) "foresight/rank.before").run Tryz.prog w = .ok (115, .int .i64 x) w := by kernel_rfl
theorem Tryz.nil117 (x : Int) (w : World) : (nilAhead 647 117 (.int .i64 x) "foresight/rank.before").run Tryz.prog w = .ok (some false) w := by kernel_rfl
/-- the first position of a list with the least measure, b so far -/
def leastFrom (ca : List Int) (b : Int) (r : List Int) : Int := r.foldl (fun b v => if ca.getD v.toNat 0 < ca.getD b.toNat 0 then v else b) b
theorem leastFrom_snoc (ca : List Int) (b v : Int) (r : List Int) : leastFrom ca b (r ++ [v]) = if ca.getD v.toNat 0 < ca.getD (leastFrom ca b r).toNat 0 then v else leastFrom ca b r := by
  simp [leastFrom]
theorem leastFrom_mem (ca : List Int) (b : Int) (r : List Int) : leastFrom ca b r = b ∨ leastFrom ca b r ∈ r := by
  induction r generalizing b with
  | nil => exact .inl rfl
  | cons v r ih =>
    have h : leastFrom ca b (v :: r) = leastFrom ca (if ca.getD v.toNat 0 < ca.getD b.toNat 0 then v else b) r := rfl
    rw [h]
    rcases ih (if ca.getD v.toNat 0 < ca.getD b.toNat 0 then v else b) with e | e
    · rw [e]
      split
      · exact .inr (by simp)
      · exact .inl rfl
    · exact .inr (List.mem_cons_of_mem _ e)
set_option maxRecDepth 100000 in
set_option maxHeartbeats 2000000 in
theorem least167 {a a' : Option Addr} {c c' : Nat} {ca : List Int} (w : World) (x : Int) (r : List Int) (hl : Nums w (.slice a (x :: r).length c) (x :: r)) (hc : (x :: r).length ≤ c) (hcm : c ≤ 9223372036854775807) (hca : Nums w (.slice a' ca.length c') ca) (hr : ∀ u ∈ x :: r, 0 ≤ u ∧ u < ca.length) :
    Calls Tryz.prog 167 #[.slice a (x :: r).length c, .slice a' ca.length c'] w (Said w (.int .i64 (leastFrom ca x r))) := by
  have HL := Lib.hid hl
  have HA := Lib.hid hca
  have HR := Lib.hid hr
  obtain ⟨b0, o0, rfl, h0⟩ := hl.at (j := 0) (by simp)
  simp only [Nat.add_zero, List.getD_cons_zero] at h0
  have HCC : Hid (r.length + 1 ≤ c) := Lib.hid (by simpa using hc)
  have HRC : Hid (∀ k, k < r.length → w.cell? ⟨b0, o0 + 1 + k, none⟩ = some (.int .i64 (r.getD k 0))) := Lib.hid fun k hk => by
    obtain ⟨b1, o1, e, h1⟩ := hl.at (j := k + 1) (by simpa using hk)
    simp only [Option.some.injEq, Addr.mk.injEq, and_true] at e
    obtain ⟨rfl, rfl⟩ := e
    rw [show o0 + 1 + k = o0 + (k + 1) by omega]
    simpa using h1
  have hx0 := hr x (by simp)
  obtain ⟨xn, rfl⟩ : ∃ xn : Nat, x = xn := ⟨x.toNat, by omega⟩
  have hxn : xn < ca.length := by omega
  simp only [List.length_cons] at *
  clear hl hca hr hc hx0
  by_cases hc1 : c = 1
  · have h1 := HCC.out
    obtain rfl : r = [] := List.eq_nil_of_length_eq_zero (by omega)
    subst hc1
    go_enter Tryz.func167, Tryz.ntmps167
    go_wp2_with fail
    refine wp_loop_rounds 1 ?_
    rw [rounds_succ]
    go_wp2_with fail
    go_ret
    exact ⟨rfl, 0, rfl⟩
  have hcc1 : (r.length : Int) + 1 ≤ (c : Int) := by have := HCC.out; omega
  go_enter Tryz.func167, Tryz.ntmps167
  go_upto_region 2 with fail
  go_upto_region 3 with fail
  go_loopw [5, 7, 14] (fun y _ i wr => ∃ k bn m : Nat, k ≤ r.length ∧ i = .int .i64 k ∧ y = .int .i64 bn ∧ bn < ca.length ∧ Hid (leastFrom ca xn (r.take k) = bn) ∧ wr = w.drewN m) (fun _ _ i _ => r.length - (intOf i).toNat)
  case atStart => exact ⟨0, xn, 0, Nat.zero_le _, rfl, rfl, hxn, Lib.hid rfl, rfl⟩
  case round =>
    obtain ⟨k, bn, m, hk, rfl, rfl, hbn, HLF, rfl⟩ := hrel
    by_cases hlt : k < r.length
    · have hd : decide (k < r.length) = true := by simpa using hlt
      have c0 := HRC.out k hlt
      have eA : r.getD k 0 = r[k] := by simp [hlt]
      rw [eA] at c0
      have hv := HR.out r[k] (List.mem_cons_of_mem _ (List.getElem_mem hlt))
      have HS := Lib.hid (List.take_succ_eq_append_getElem hlt)
      generalize r[k] = v at *
      obtain ⟨vn, rfl⟩ : ∃ vn : Nat, v = vn := ⟨v.toNat, by omega⟩
      have hvn : vn < ca.length := by omega
      obtain ⟨b1, o1, rfl, d0⟩ := HA.out.at hvn
      obtain ⟨_, _, e, d1⟩ := HA.out.at hbn
      simp only [Option.some.injEq, Addr.mk.injEq, and_true] at e
      obtain ⟨rfl, rfl⟩ := e
      have HF := Lib.hid (leastFrom_snoc ca xn vn (r.take k))
      rw [HLF.out] at HF
      simp only [Int.toNat_natCast] at HF
      have hvi : (vn : Int) < (ca.length : Int) := by omega
      have hbi : (bn : Int) < (ca.length : Int) := by omega
      clear eA hv
      by_cases hpq : ca.getD vn 0 < ca.getD bn 0
      · rw [if_pos hpq] at HF
        obtain ⟨p, hp⟩ : ∃ p, ca.getD vn 0 = p := ⟨_, rfl⟩
        obtain ⟨q, hq⟩ : ∃ q, ca.getD bn 0 = q := ⟨_, rfl⟩
        rw [hp] at d0 hpq
        rw [hq] at d1 hpq
        clear hp hq
        have hd1 : decide (p < q) = true := by simpa using hpq
        clear hpq
        have hm := Tryz.method117 p
        have hnl := Tryz.nil117 p
        have qb : ∀ n, Calls Tryz.prog 115 #[.int .i64 p, .int .i64 q] ((w.drewN m).drewN n) fun e w' => e = .returned (.bool (decide (p < q))) ∧ ∃ m', w' = ((w.drewN m).drewN n).drewN m' := fun n => (before115 ((w.drewN m).drewN n) p q).mono fun _ _ ⟨e, h⟩ => ⟨e, 0, by rw [h]; rfl⟩
        rw [hd1] at qb
        have c0 : (w.drewN m).cell? _ = _ := c0
        have d0 : (w.drewN m).cell? _ = _ := d0
        have d1 : (w.drewN m).cell? _ = _ := d1
        generalize hwr : w.drewN m = wr at *
        have HWR := Lib.hid hwr
        clear hwr
        go_wp2_with fail
        go_quiet ((go_at_call 115; with_reducible exact Calls.quiet_of (qb _)))
        go_wp2_with fail
        go_roundw
        case rel => exact ⟨k + 1, vn, m + nq, by omega, by go_num, by first | rfl | trivial, by assumption, by rw [HS.out]; exact HF, by rw [← HWR.out, World.drewN_drewN]⟩
        case measure => simp [intOf]; omega
      · rw [if_neg hpq] at HF
        obtain ⟨p, hp⟩ : ∃ p, ca.getD vn 0 = p := ⟨_, rfl⟩
        obtain ⟨q, hq⟩ : ∃ q, ca.getD bn 0 = q := ⟨_, rfl⟩
        rw [hp] at d0 hpq
        rw [hq] at d1 hpq
        clear hp hq
        have hd1 : decide (p < q) = false := by simpa using hpq
        clear hpq
        have hm := Tryz.method117 p
        have hnl := Tryz.nil117 p
        have qb : ∀ n, Calls Tryz.prog 115 #[.int .i64 p, .int .i64 q] ((w.drewN m).drewN n) fun e w' => e = .returned (.bool (decide (p < q))) ∧ ∃ m', w' = ((w.drewN m).drewN n).drewN m' := fun n => (before115 ((w.drewN m).drewN n) p q).mono fun _ _ ⟨e, h⟩ => ⟨e, 0, by rw [h]; rfl⟩
        rw [hd1] at qb
        have c0 : (w.drewN m).cell? _ = _ := c0
        have d0 : (w.drewN m).cell? _ = _ := d0
        have d1 : (w.drewN m).cell? _ = _ := d1
        generalize hwr : w.drewN m = wr at *
        have HWR := Lib.hid hwr
        clear hwr
        go_wp2_with fail
        go_quiet ((go_at_call 115; with_reducible exact Calls.quiet_of (qb _)))
        go_wp2_with fail
        go_roundw
        case rel => exact ⟨k + 1, bn, m + nq, by omega, by go_num, by first | rfl | trivial, by assumption, by rw [HS.out]; exact HF, by rw [← HWR.out, World.drewN_drewN]⟩
        case measure => simp [intOf]; omega
    · obtain rfl : k = r.length := by omega
      rw [List.take_length] at HLF
      go_wp2_with fail
      go_ret
      exact ⟨by (rw [HLF.out]; try rfl), m, rfl⟩
end Go.Proofs.YtckdgniecdfedaaGreatDoor
end
section
/- The walk of need: what a position needs because of its successors. -/
namespace Go.Proofs.YtckdgniecdfedaaGreatDoor
open Go.RowKit

/-- the greatest measure among positions, m so far -/
def mostFrom (ca : List Int) (m : Int) (r : List Int) : Int := r.foldl (fun m u => max m (ca.getD u.toNat 0)) m
theorem mostFrom_snoc (ca : List Int) (m u : Int) (r : List Int) : mostFrom ca m (r ++ [u]) = max (mostFrom ca m r) (ca.getD u.toNat 0) := by
  simp [mostFrom]
theorem mostFrom_bd {ca : List Int} {M m : Int} (h0 : 0 ≤ m) (h1 : m ≤ M) : ∀ {r : List Int}, (∀ u ∈ r, 0 ≤ ca.getD u.toNat 0 ∧ ca.getD u.toNat 0 ≤ M) → 0 ≤ mostFrom ca m r ∧ mostFrom ca m r ≤ M := by
  intro r
  induction r generalizing m with
  | nil => intro _; exact ⟨h0, h1⟩
  | cons u r ih =>
    intro h
    obtain ⟨h2, h3⟩ := h u (by simp)
    exact ih (m := max m (ca.getD u.toNat 0)) (by omega) (by omega) (fun v hv => h v (by simp [hv]))
/-- the measure that a position needs, ahead of the rounding -/
def needM (o : List Int) (s : List (List Int)) (ca : List Int) (v : Nat) : Int :=
  if o.getD v 0 = 1 then mostFrom ca (ca.getD (leastFrom ca ((s.getD v []).headD 0) (s.getD v []).tail).toNat 0) (s.getD v []) else ca.getD (leastFrom ca ((s.getD v []).headD 0) (s.getD v []).tail).toNat 0
def needF (o p : List Int) (s : List (List Int)) (un ca : List Int) (v : Nat) : Int := alongF un (needM o s ca v) (p.getD v 0)

section
variable {w : World} {cb : Nat} {o p : List Int} {s : List (List Int)} {mo un ca : List Int} {be : List (List Int)}
set_option maxRecDepth 100000 in
set_option maxHeartbeats 2000000 in
theorem need114 (h : Clb w cb o p s mo un ca be) (v : Nat) (ho : v < o.length) (hp : v < p.length) (hs : v < s.length) (x : Int) (r : List Int) (hr : s.getD v [] = x :: r) (hru : ∀ u ∈ x :: r, 0 ≤ u ∧ u < ca.length)
    (hca : ∀ m ∈ ca, 0 ≤ m ∧ m ≤ 2000000) (k0 : 0 ≤ p.getD v 0) (k1 : p.getD v 0 ≤ 30000) (hk : ((p.getD v 0 + 1) / 2).toNat < un.length) (hu : ∀ x ∈ un, 0 < x ∧ x ≤ 2000000) :
    Calls Tryz.prog 114 #[.pointer (some ⟨cb, 0, none⟩), .int .i64 v] w (Said w (.int .i64 (needF o p s un ca v))) := by
  have HC := Lib.hid h
  obtain ⟨ao, co, e0, no⟩ := h.c0
  obtain ⟨ap, cp, e1, np⟩ := h.c1
  obtain ⟨as', cs, e2, ns⟩ := h.c2
  obtain ⟨ac, cc, e5, nc⟩ := h.c5
  obtain ⟨bs, os, ar, cr, rfl, r0, r1, r2, r3⟩ := ns.at hs
  rw [hr] at r0 r1 r3
  obtain ⟨bo, oo, rfl, o0⟩ := no.at ho
  obtain ⟨bp, op, rfl, p0⟩ := np.at hp
  obtain ⟨l, hle⟩ : ∃ l : Nat, leastFrom ca x r = l := by
    have := hru (leastFrom ca x r) (by
      rcases leastFrom_mem ca x r with e | e
      · rw [e]; simp
      · exact List.mem_cons_of_mem _ e)
    exact ⟨(leastFrom ca x r).toNat, by omega⟩
  have hlc : l < ca.length := by
    have := hru (leastFrom ca x r) (by
      rcases leastFrom_mem ca x r with e | e
      · rw [e]; simp
      · exact List.mem_cons_of_mem _ e)
    omega
  obtain ⟨bc, oc, rfl, l0⟩ := nc.at hlc
  have q : ∀ n, Calls Tryz.prog 167 #[.slice ar (x :: r).length cr, .slice (some ⟨bc, oc, none⟩) ca.length cc] (w.drewN n) fun e w' => e = .returned (.int .i64 l) ∧ ∃ m', w' = (w.drewN n).drewN m' := fun n => by
    rw [← hle]
    exact least167 (w.drewN n) x r (r3.drawn n) r1 r2 (nc.drawn n) hru
  have HNF : Hid (needF o p s un ca v = alongF un (if o.getD v 0 = 1 then mostFrom ca (ca.getD l 0) (x :: r) else ca.getD l 0) (p.getD v 0)) := Lib.hid (by
    unfold needF needM
    rw [hr]
    simp only [List.headD_cons, List.tail_cons, hle, Int.toNat_natCast])
  have HLR := Lib.hid r3
  have hrl : r.length + 1 ≤ 9223372036854775807 := by simp only [List.length_cons] at r1; omega
  have HRU := Lib.hid hru
  have HCA := Lib.hid (fun j (hj : j < ca.length) => hca (ca.getD j 0) (by rw [List.getD_eq_getElem?_getD, List.getElem?_eq_getElem hj]; exact List.getElem_mem _))
  have HNC := Lib.hid nc
  have HL := Lib.hid (HCA.out l hlc)
  have HAL := Lib.hid (fun (m : Int) (n : Nat) (m0 : 0 ≤ m) (m1 : m ≤ 2000000) => along116 (h.drawn n) m (p.getD v 0) m0 m1 k0 k1 hk hu)
  obtain ⟨lv, hlv⟩ : ∃ z, ca.getD l 0 = z := ⟨_, rfl⟩
  obtain ⟨ov, hov⟩ : ∃ z, o.getD v 0 = z := ⟨_, rfl⟩
  obtain ⟨pv, hpv⟩ : ∃ z, p.getD v 0 = z := ⟨_, rfl⟩
  rw [hlv] at l0 HL
  rw [hov] at o0
  rw [hpv] at p0 HAL
  simp only [hlv, hov, hpv] at HNF
  simp only [List.length_cons] at q r0
  have hvs : (v : Int) < (s.length : Int) := by omega
  have hvo : (v : Int) < (o.length : Int) := by omega
  have hvp : (v : Int) < (p.length : Int) := by omega
  have hlci : (l : Int) < (ca.length : Int) := by omega
  clear no np ns nc hlv hov hpv hr hru hca k0 k1 hk hu h r1 r2 r3 hle
  by_cases hov : ov = 1
  · rw [if_pos hov] at HNF
    have hd : (ov == 1) = true := by simpa using hov
    clear hov
    go_enter Tryz.func114, Tryz.ntmps114
    go_upto_region 1 with fail
    go_quiet ((go_at_call 167; with_reducible exact Calls.quiet_of (q _)))
    clear q
    go_wp2_with fail
    go_loopw [5, 7, 48] (fun y _ i wr => ∃ j m' : Nat, j ≤ r.length + 1 ∧ i = .int .i64 j ∧ y = .int .i64 (mostFrom ca lv ((x :: r).take j)) ∧ wr = w.drewN m') (fun _ _ i _ => r.length + 1 - (intOf i).toNat)
    case atStart => exact ⟨0, nq, Nat.zero_le _, rfl, rfl, rfl⟩
    case round =>
      obtain ⟨j, m', hj, rfl, rfl, rfl⟩ := hrel
      by_cases hlt : j < r.length + 1
      · have hd1 : decide (j < r.length + 1) = true := by simpa using hlt
        obtain ⟨br, orr, rfl, c0⟩ := HLR.out.at (j := j) (by simpa using hlt)
        have hul : j < (x :: r).length := by simpa using hlt
        have hu := HRU.out ((x :: r).getD j 0) (by rw [List.getD_eq_getElem?_getD, List.getElem?_eq_getElem hul]; exact List.getElem_mem _)
        have HST : Hid ((x :: r).take (j + 1) = (x :: r).take j ++ [(x :: r).getD j 0]) := Lib.hid (by
          have e : (x :: r).getD j 0 = (x :: r)[j] := by rw [List.getD_eq_getElem?_getD, List.getElem?_eq_getElem hul]; rfl
          rw [e]
          exact List.take_succ_eq_append_getElem hul)
        obtain ⟨u, hu'⟩ : ∃ u : Nat, (x :: r).getD j 0 = u := ⟨((x :: r).getD j 0).toNat, by omega⟩
        rw [hu'] at c0 hu
        simp only [hu'] at HST
        have huc : u < ca.length := by omega
        have huci : (u : Int) < (ca.length : Int) := by omega
        obtain ⟨_, _, e, d0⟩ := HNC.out.at huc
        simp only [Option.some.injEq, Addr.mk.injEq, and_true] at e
        obtain ⟨rfl, rfl⟩ := e
        have HM := Lib.hid (mostFrom_snoc ca lv u ((x :: r).take j))
        simp only [Int.toNat_natCast] at HM
        obtain ⟨z, hz⟩ : ∃ z, ca.getD u 0 = z := ⟨_, rfl⟩
        obtain ⟨y, hy⟩ : ∃ y, mostFrom ca lv ((x :: r).take j) = y := ⟨_, rfl⟩
        rw [hz] at d0
        simp only [hz, hy] at HM
        rw [hy]
        have HST2 : Hid (mostFrom ca lv ((x :: r).take (j + 1)) = max y z) := Lib.hid (by rw [HST.out]; exact HM.out)
        clear hu hu' hz hy hul
        go_wp2_with fail
        go_roundw
        case rel => exact ⟨j + 1, m', by omega, by go_num, by rw [HST2.out]; congr 1; split <;> omega, rfl⟩
        case measure => simp [intOf]; omega
      · obtain rfl : j = r.length + 1 := by omega
        have hd1 : decide (r.length + 1 < r.length + 1) = false := by simp
        have HB := Lib.hid (mostFrom_bd (ca := ca) HL.out.1 HL.out.2 (r := x :: r) fun u hu => by
          have h1 := HRU.out u hu
          exact HCA.out u.toNat (by omega))
        have HTK : Hid ((x :: r).take (r.length + 1) = x :: r) := Lib.hid (List.take_of_length_le (by simp))
        rw [HTK.out]
        obtain ⟨y, hy⟩ : ∃ y, mostFrom ca lv (x :: r) = y := ⟨_, rfl⟩
        rw [hy] at HB ⊢
        simp only [hy] at HNF
        clear hy
        go_wp2_with fail
        refine (HAL.out y m' HB.out.1 HB.out.2).mono ?_
        rintro e w1 ⟨rfl, n', rfl⟩
        go_wp2_with fail
        go_ret
        exact ⟨by (rw [HNF.out]; try rfl), m' + n', by first | rfl | rw [World.drewN_drewN]⟩
  · rw [if_neg hov] at HNF
    have hd : (ov == 1) = false := by simpa using hov
    clear hov
    go_enter Tryz.func114, Tryz.ntmps114
    go_upto_region 1 with fail
    go_quiet ((go_at_call 167; with_reducible exact Calls.quiet_of (q _)))
    clear q
    go_wp2_with fail
    refine (HAL.out lv nq HL.out.1 HL.out.2).mono ?_
    rintro e w1 ⟨rfl, n', rfl⟩
    go_wp2_with fail
    go_ret
    exact ⟨by (rw [HNF.out]; try rfl), nq + n', by first | rfl | rw [World.drewN_drewN]⟩
end
end Go.Proofs.YtckdgniecdfedaaGreatDoor
end
section
/- The walk of write: a measure as a list of digits. -/
namespace Go.Proofs.YtckdgniecdfedaaGreatDoor
open Go.RowKit

/-- a block that holds a row of numbers -/
def RowB (w : World) (b : Nat) (zs : List Int) : Prop := w.heap[b]? = some (.cells (zs.map (Value.int .i64)).toArray 3 (0, 0))
theorem RowB.cell {w : World} {b : Nat} {zs : List Int} (h : RowB w b zs) {j : Nat} (hj : j < zs.length) : w.cell? ⟨b, j, none⟩ = some (.int .i64 (zs.getD j 0)) := by
  unfold RowB at h
  simp [World.cell?, h, hj]
theorem RowB.frozen {w : World} {b : Nat} {zs : List Int} (h : RowB w b zs) (j : Nat) : w.frozen? ⟨b, j, none⟩ = false := by
  unfold RowB at h
  simp [World.frozen?, h]
theorem RowB.set {w : World} {b : Nat} {zs : List Int} (h : RowB w b zs) (j : Nat) (x : Int) : RowB (w.setCell ⟨b, j, none⟩ (.int .i64 x)) b (zs.set j x) := by
  have := heap_setCell_same w b j _ 3 (.int .i64 x) h
  unfold RowB
  rw [this]
  simp [List.map_set]
theorem RowB.made (w : World) (n : Nat) : RowB (w.alloc (.cells (madeCells #[.int .i64 0] n) 3)) w.heap.size (List.replicate n 0) := by
  unfold RowB
  rw [heap_alloc_new]
  congr 2
  apply Array.toList_inj.1
  rw [toList_madeCells_one]
  simp
theorem RowB.drawn {w : World} {b : Nat} {zs : List Int} (h : RowB w b zs) (n : Nat) : RowB (w.drewN n) b zs := h
theorem RowB.nums {w : World} {b : Nat} {zs : List Int} (h : RowB w b zs) (c : Nat) : Nums w (.slice (some ⟨b, 0, none⟩) zs.length c) zs :=
  ⟨_, c, rfl, fun _ => ⟨b, 0, rfl, (Array.getElem?_eq_some_iff.1 h).1, fun j hj => by rw [Nat.zero_add]; exact h.cell hj⟩⟩

/-- the digits of a measure, and what is left of it -/
def digs : List Int → Int → List Int × Int
  | [], m => ([], m)
  | x :: xs, m => ((digs xs m).2 % (x + 1) :: (digs xs m).1, (digs xs m).2 / (x + 1))
theorem digs_len (m : Int) : ∀ xs : List Int, (digs xs m).1.length = xs.length
  | [] => rfl
  | x :: xs => by simp [digs, digs_len m xs]
theorem digs_bd {m : Int} (h0 : 0 ≤ m) : ∀ xs : List Int, (∀ x ∈ xs, 0 ≤ x) → 0 ≤ (digs xs m).2 ∧ (digs xs m).2 ≤ m
  | [], _ => ⟨h0, Int.le_refl _⟩
  | x :: xs, h => by
    obtain ⟨h1, h2⟩ := digs_bd h0 xs (fun y hy => h y (by simp [hy]))
    have hx := h x (by simp)
    simp only [digs]
    refine ⟨Int.ediv_nonneg h1 (by omega), Int.le_trans ?_ h2⟩
    exact Int.ediv_le_self _ h1
/-- the numbers of a measure -/
def writeF (mo un : List Int) (m : Int) : List Int := if m = un.getD 0 0 then [] else if mo = [] then [0] else (digs mo m).1
/-- what write hands back -/
def Written (w : World) (zs : List Int) (e : Ending) (w' : World) : Prop := ∃ a c, e = .returned (.slice a zs.length c) ∧ Nums w' (.slice a zs.length c) zs ∧ zs.length ≤ c ∧ c ≤ 9223372036854775807 ∧ Below w.heap.size w w'

theorem Tryz.info3r : (Tryz.prog.info? 3).map (fun i => (i.zero, i.size, i.bytes)) = some (some (.int .i64 0), 1, 8) := Tryz.info3
section
variable {w : World} {cb : Nat} {o p : List Int} {s : List (List Int)} {mo un ca : List Int} {be : List (List Int)}
set_option maxRecDepth 100000 in
set_option maxHeartbeats 2000000 in
theorem write57 (h : Clb w cb o p s mo un ca be) (hcb : cb < w.heap.size) (hun : 0 < un.length) (m : Int) (m0 : 0 ≤ m) (m1 : m ≤ 2000000) (hmo : ∀ x ∈ mo, 0 ≤ x ∧ x ≤ 3000) (hml : mo.length ≤ 30000) :
    Calls Tryz.prog 57 #[.pointer (some ⟨cb, 0, none⟩), .int .i64 m] w (Written w (writeF mo un m)) := by
  have HT := Lib.hid (top117 h hun)
  obtain ⟨am, cm, e3, nm⟩ := h.c3
  have HM := Lib.hid nm
  have HMO := Lib.hid hmo
  clear h hmo nm
  by_cases hm : m = un.getD 0 0
  · have HW : Hid (writeF mo un m = []) := Lib.hid (by unfold writeF; rw [if_pos hm])
    have hd : (m == un.getD 0 0) = true := by simpa using hm
    clear hm
    generalize un.getD 0 0 = tp at *
    go_enter Tryz.func57, Tryz.ntmps57
    go_wp2_with fail
    refine HT.out.mono ?_
    rintro e w1 ⟨rfl, hw⟩
    subst w1
    go_wp2_with fail
    go_ret
    rw [HW.out]
    exact ⟨none, 0, rfl, ⟨none, 0, rfl, fun h => absurd rfl h⟩, Nat.le_refl _, by omega, Below.refl _ _⟩
  have HW : Hid (writeF mo un m = if mo = [] then [0] else (digs mo m).1) := Lib.hid (by unfold writeF; rw [if_neg hm])
  have hd : (m == un.getD 0 0) = false := by simpa using hm
  clear hm
  generalize un.getD 0 0 = tp at *
  by_cases hmn : mo = []
  · subst hmn
    rw [if_pos rfl] at HW
    have hmk := run_make_row' (P := Tryz.prog) 25 3 (.int .i64 0) 8 Tryz.underlying25 Tryz.info3r rfl .i64 .i64 1 (by omega) (by omega)
    simp only [Int.natCast_one] at hmk
    go_enter Tryz.func57, Tryz.ntmps57
    go_wp2_with fail
    refine HT.out.mono ?_
    rintro e w1 ⟨rfl, hw⟩
    subst w1
    go_wp2_with fail
    refine wp_loop_rounds 1 ?_
    rw [rounds_succ]
    have HMD := Lib.hid (RowB.made w 1)
    have HB : Hid (Below w.heap.size w (w.alloc (.cells (madeCells #[.int .i64 0] 1) 3))) := Lib.hid ((Below.refl _ _).alloc (Nat.le_refl _) _)
    go_wp2_with fail
    go_ret
    rw [HW.out]
    exact ⟨_, 1, rfl, HMD.out.nums 1, Nat.le_refl _, by omega, HB.out⟩
  rw [if_neg hmn] at HW
  have HMN := Lib.hid hmn
  obtain ⟨d, hdd⟩ : ∃ d, mo.length = d := ⟨_, rfl⟩
  have hd1 : 1 ≤ d := by
    rw [← hdd]
    exact List.length_pos_iff.2 hmn
  have hmk := run_make_row' (P := Tryz.prog) 25 3 (.int .i64 0) 8 Tryz.underlying25 Tryz.info3r rfl .i64 .i64 d (by omega) (by omega)
  have hdm : d ≤ 30000 := by omega
  have HDD := Lib.hid hdd
  rw [hdd] at e3
  have HMC : Hid (∀ j, j < d → ∃ b o, am = some ⟨b, o, none⟩ ∧ b < w.heap.size ∧ w.cell? ⟨b, o + j, none⟩ = some (.int .i64 (mo.getD j 0))) := Lib.hid fun j hj => by
    obtain ⟨a', c', e, h1⟩ := HM.out
    simp only [Value.slice.injEq, true_and] at e
    obtain ⟨rfl, rfl⟩ := e
    obtain ⟨b, o, e, hb, hc⟩ := h1 (fun e => hmn e)
    exact ⟨b, o, e, hb, hc j (by omega)⟩
  clear hmn hdd hml
  go_enter Tryz.func57, Tryz.ntmps57
  go_wp2_with fail
  refine HT.out.mono ?_
  rintro e w1 ⟨rfl, hw⟩
  subst w1
  go_upto_region 3 with fail
  go_cut [5] from 11 (fun r wx => r = .slice (some ⟨w.heap.size, 0, none⟩) d d ∧ wx = w.alloc (.cells (madeCells #[.int .i64 0] d) 3))
  case first =>
    by_cases h1 : d = 1
    · subst h1
      simp only [Int.natCast_one] at hmk
      go_wp2_with fail
      go_meet
      exact ⟨rfl, rfl⟩
    · have h2 : decide (1 < d) = true := by simp; omega
      have h3 : decide ((1 : Int) < (d : Int)) = true := by simp; omega
      have h4 : (1 : Int) < (d : Int) := by omega
      clear h1
      go_wp2_with fail
      go_meet
      exact ⟨rfl, rfl⟩
  case rest =>
    obtain ⟨rfl, rfl⟩ := hcut
    have HMD := Lib.hid (RowB.made w d)
    have HB : Hid (Below w.heap.size w (w.alloc (.cells (madeCells #[.int .i64 0] d) 3))) := Lib.hid ((Below.refl _ _).alloc (Nat.le_refl _) _)
    have f3 := (HB.out.cell (p := ⟨cb, 3, none⟩) hcb).trans e3
    generalize w.alloc (.cells (madeCells #[.int .i64 0] d) 3) = wa at *
    clear hmk
    have HCB := Lib.hid hcb
    generalize hrb : w.heap.size = rb at HMD ⊢
    have HRB := Lib.hid hrb
    clear hrb hcb
    go_wp2_with fail
    go_loopw [1, 6] (fun y i wr => ∃ k : Nat, k ≤ d ∧ i = .int .i64 ((k : Int) - 1) ∧ y = .int .i64 (digs (mo.drop k) m).2 ∧ Hid (RowB wr rb (List.replicate k 0 ++ (digs (mo.drop k) m).1)) ∧ Hid (Below w.heap.size w wr)) (fun _ i _ => (intOf i + 1).toNat)
    case atStart =>
      have e : mo.drop d = [] := List.drop_of_length_le (by rw [HDD.out]; exact Nat.le_refl _)
      refine ⟨d, Nat.le_refl _, rfl, by rw [e]; rfl, Lib.hid (by rw [e]; simpa [digs] using HMD.out), HB⟩
    case round =>
      obtain ⟨k, hk, rfl, rfl, HRW, HBW⟩ := hrel
      cases k with
      | zero =>
        have e0 : (digs (mo.drop 0) m).1.length = d := by rw [digs_len]; simpa using HDD.out
        have HF : Hid (RowB wr rb (digs mo m).1) := Lib.hid (by simpa using HRW.out)
        have HFL : Hid ((digs mo m).1.length = d) := Lib.hid (by simpa using e0)
        clear e0
        go_wp2_with fail
        go_ret
        rw [HW.out]
        exact ⟨_, d, by rw [HFL.out]; rfl, HF.out.nums d, by rw [HFL.out]; exact Nat.le_refl _, by omega, HBW.out⟩
      | succ k =>
        obtain ⟨b, o', rfl, hb, c0⟩ := HMC.out k (by omega)
        have hkm : k < mo.length := by rw [HDD.out]; omega
        have HDR : Hid (mo.drop k = mo.getD k 0 :: mo.drop (k + 1)) := Lib.hid (by
          rw [List.drop_eq_getElem_cons hkm]
          simp [hkm])
        obtain ⟨x0, x1⟩ := HMO.out (mo.getD k 0) (by rw [List.getD_eq_getElem?_getD, List.getElem?_eq_getElem hkm]; exact List.getElem_mem _)
        obtain ⟨M0, M1⟩ := digs_bd m0 (mo.drop (k + 1)) (fun x hx => (HMO.out x (List.mem_of_mem_drop hx)).1)
        have HDG : Hid (digs (mo.drop k) m = ((digs (mo.drop (k + 1)) m).2 % (mo.getD k 0 + 1) :: (digs (mo.drop (k + 1)) m).1, (digs (mo.drop (k + 1)) m).2 / (mo.getD k 0 + 1))) := Lib.hid (by rw [HDR.out]; rfl)
        generalize (digs (mo.drop (k + 1)) m).2 = M at *
        generalize (digs (mo.drop (k + 1)) m).1 = ds at *
        generalize mo.getD k 0 = x at *
        have hM : M ≤ 2000000 := by omega
        have g3 := (HBW.out.cell (p := ⟨cb, 3, none⟩) HCB.out).trans ((HB.out.cell (p := ⟨cb, 3, none⟩) HCB.out).symm.trans f3)
        have c1 := (HBW.out.cell (p := ⟨b, o' + k, none⟩) hb).trans c0
        have hlen : k < (List.replicate (k + 1) (0 : Int) ++ ds).length := by simp; omega
        have r1 := HRW.out.cell hlen
        have r2 := HRW.out.frozen k
        have HNW := Lib.hid (HRW.out.set k (M % (x + 1)))
        have HNB : Hid (Below w.heap.size w (wr.setCell ⟨rb, k, none⟩ (.int .i64 (M % (x + 1))))) := Lib.hid (HBW.out.setCell (show w.heap.size ≤ rb by rw [HRB.out]; exact Nat.le_refl _) _)
        have HSET : Hid ((List.replicate (k + 1) (0 : Int) ++ ds).set k (M % (x + 1)) = List.replicate k 0 ++ (M % (x + 1) :: ds)) := Lib.hid (by
          rw [List.replicate_succ', List.append_assoc, List.set_append_right _ _ (by simp)]
          simp)
        rw [HSET.out] at HNW
        have hq0 : 0 ≤ M % (x + 1) := Int.emod_nonneg _ (by omega)
        have hq1 : M % (x + 1) ≤ M := by
          by_cases h : M < x + 1
          · rw [Int.emod_eq_of_lt M0 h]; exact Int.le_refl _
          · have := Int.emod_lt_of_pos M (show 0 < x + 1 by omega); omega
        have hx1 : 0 < x + 1 := by omega
        clear hlen hkm
        generalize (List.replicate (k + 1) (0 : Int) ++ ds).getD k 0 = old at r1
        go_upto_region 8 with fail
        generalize wr.setCell ⟨rb, k, none⟩ (.int .i64 (M % (x + 1))) = wn at *
        have n3 := (HNB.out.cell (p := ⟨cb, 3, none⟩) HCB.out).trans ((HB.out.cell (p := ⟨cb, 3, none⟩) HCB.out).symm.trans f3)
        have nc1 := (HNB.out.cell (p := ⟨b, o' + k, none⟩) hb).trans c0
        clear g3 c1 r1 r2 c0 f3 e3
        go_wp2_with fail
        go_roundw
        · refine ⟨k, by omega, rfl, by rw [HDG.out], Lib.hid (by rw [HDG.out]; exact HNW.out), HNB⟩
        · show ((k : Int) - 1 + 1).toNat < (((k + 1 : Nat) : Int) - 1 + 1).toNat
          omega
end
end Go.Proofs.YtckdgniecdfedaaGreatDoor
end
section
/- The walks of the references that say which games are small. -/
namespace Go.Proofs.YtckdgniecdfedaaGreatDoor
open Go.RowKit

theorem RowsC.len {w : World} {v : Value} {l : List (List Int)} (h : RowsC w v l) : l.length ≤ 9223372036854775807 := by
  obtain ⟨_, _, _, h, _⟩ := h
  exact h
/-- one block made, and what its cells are later -/
theorem game_box (w : World) (cs : Array Value) (t : TypeId) : ∃ w1, w1 = w.alloc (.cells cs t) ∧ w1.heap.size = w.heap.size + 1 ∧ Below w.heap.size w w1 ∧ (∀ wr, Below (w.heap.size + 1) w1 wr → ∀ j, wr.cell? ⟨w.heap.size, j, none⟩ = cs[j]?) :=
  ⟨_, rfl, by simp, (Below.refl _ _).alloc (Nat.le_refl _) _, fun wr hB j => (hB.cell (p := ⟨w.heap.size, j, none⟩) (show w.heap.size < w.heap.size + 1 by omega)).trans (cell_new w cs t j)⟩
set_option maxRecDepth 100000 in
set_option maxHeartbeats 2000000 in
theorem small49 (w : World) (o p : List Int) (s : List (List Int)) (a0 a1 a2 : Option Addr) (c0 c1 c2 : Nat) (ho : o.length ≤ 9223372036854775807) (hp : p.length ≤ 9223372036854775807) (hs : RowsC w (.slice a2 s.length c2) s) :
    Calls Tryz.prog 49 #[.agg #[.slice a0 o.length c0, .slice a1 p.length c1, .slice a2 s.length c2], .int .i64 12] w (ToldQ w (o.length ≤ 12 ∧ p.length ≤ 12 ∧ s.length ≤ 12 ∧ ∀ r ∈ s, r.length ≤ 20)) := by
  obtain ⟨w1, e1, hs1, hb1, hc1⟩ := game_box w #[.slice a0 o.length c0, .slice a1 p.length c1, .slice a2 s.length c2] 39
  have hsl : s.length ≤ 9223372036854775807 := hs.len
  have HV := Lib.hid (hs.keep hb1)
  have E1 := Lib.hid e1
  have HB := Lib.hid hb1
  have t0 := hc1 w1 (Below.refl _ _) 0
  have t1 := hc1 w1 (Below.refl _ _) 1
  have t2 := hc1 w1 (Below.refl _ _) 2
  simp only [List.getElem?_toArray, List.getElem?_cons_succ, List.getElem?_cons_zero] at t0 t1 t2
  rw [e1] at t0 t1 t2
  clear e1 hs1 hb1 hc1 hs
  by_cases h1 : o.length ≤ 12
  case neg =>
    have g1 : decide ((12 : Int) < (o.length : Int)) = true := by simp; omega
    clear h1
    go_enter Tryz.func49, Tryz.ntmps49
    go_wp2_with fail
    go_ret
    exact ⟨_, rfl, fun h => (by cases h), by rw [← E1.out]; exact HB.out⟩
  have g1 : decide ((12 : Int) < (o.length : Int)) = false := by simp; omega
  by_cases h2 : p.length ≤ 12
  case neg =>
    have g2 : decide ((12 : Int) < (p.length : Int)) = true := by simp; omega
    clear h2
    go_enter Tryz.func49, Tryz.ntmps49
    go_wp2_with fail
    go_ret
    exact ⟨_, rfl, fun h => (by cases h), by rw [← E1.out]; exact HB.out⟩
  have g2 : decide ((12 : Int) < (p.length : Int)) = false := by simp; omega
  by_cases h3 : s.length ≤ 12
  case neg =>
    have g3 : decide ((12 : Int) < (s.length : Int)) = true := by simp; omega
    clear h3
    go_enter Tryz.func49, Tryz.ntmps49
    go_wp2_with fail
    go_ret
    exact ⟨_, rfl, fun h => (by cases h), by rw [← E1.out]; exact HB.out⟩
  have g3 : decide ((12 : Int) < (s.length : Int)) = false := by simp; omega
  have HL := Lib.hid (And.intro h1 (And.intro h2 h3))
  clear h1 h2 h3
  go_enter Tryz.func49, Tryz.ntmps49
  go_upto_region 3 with fail
  rw [← E1.out] at t0 t1 t2 ⊢
  clear E1 t0 t1
  generalize Value.agg #[.slice a0 o.length c0, .slice a1 p.length c1, .slice a2 s.length c2] = v0
  generalize hbc : w.heap.size = bc at t2 ⊢
  have HBC := Lib.hid hbc
  clear hbc
  go_wp2_with fail
  go_loopw [5] (fun i wr => ∃ k : Nat, k ≤ s.length ∧ i = .int .i64 k ∧ wr = w1 ∧ Hid (∀ r ∈ s.take k, r.length ≤ 20)) (fun i _ => s.length - (intOf i).toNat)
  case atStart => exact ⟨0, Nat.zero_le _, rfl, rfl, Lib.hid (by simp)⟩
  case round =>
    obtain ⟨k, hk, rfl, rfl, HR⟩ := hrel
    by_cases hlt : k < s.length
    · obtain ⟨b, o', au, cu, rfl, d0, d1, d2, _⟩ := HV.out.at hlt
      have hd : decide (k < s.length) = true := by simpa using hlt
      have hlti : (k : Int) < (s.length : Int) := by omega
      have HST : Hid (s.take (k + 1) = s.take k ++ [s.getD k []]) := Lib.hid (by
        have e : s.getD k [] = s[k] := by rw [List.getD_eq_getElem?_getD, List.getElem?_eq_getElem hlt]; rfl
        rw [e]
        exact List.take_succ_eq_append_getElem hlt)
      generalize s.getD k [] = r at *
      by_cases hr : r.length ≤ 20
      · have gr : decide ((20 : Int) < (r.length : Int)) = false := by simp; omega
        have HRR := Lib.hid hr
        clear hr
        go_wp2_with fail
        go_roundw
        case rel => exact ⟨k + 1, by omega, by go_num, by first | rfl | trivial, Lib.hid (by
          rw [HST.out]
          intro x hx
          rcases List.mem_append.1 hx with hx | hx
          · exact HR.out x hx
          · rw [List.mem_singleton.1 hx]; exact HRR.out)⟩
        case measure => simp [intOf]; omega
      · have gr : decide ((20 : Int) < (r.length : Int)) = true := by simp; omega
        clear hr
        go_wp2_with fail
        go_ret
        exact ⟨_, rfl, fun h => (by cases h), HB.out⟩
    · obtain rfl : k = s.length := by omega
      have hd : decide (s.length < s.length) = false := by simp
      go_wp2_with fail
      go_ret
      exact ⟨_, rfl, fun _ => ⟨HL.out.1, HL.out.2.1, HL.out.2.2, by simpa using HR.out⟩, HB.out⟩
end Go.Proofs.YtckdgniecdfedaaGreatDoor
end
section
/- The walks of the references: the greatest priority, and which games are valid. -/
namespace Go.Proofs.YtckdgniecdfedaaGreatDoor
open Go.RowKit

theorem Below.drewN' {B : Nat} {a w : World} (h : Below B a w) (n : Nat) : Below B a (w.drewN n) := ⟨h.os, h.tape, h.output, h.size, h.block⟩
/-- the greatest of numbers and 0 -/
def greatF (l : List Int) : Int := l.foldl (fun m x => if m < x then x else m) 0
theorem greatF_snoc (l : List Int) (x : Int) : greatF (l ++ [x]) = if greatF l < x then x else greatF l := by
  unfold greatF
  rw [List.foldl_append]
  rfl
theorem greatF_max : ∀ l : List Int, 0 ≤ greatF l ∧ ∀ x ∈ l, x ≤ greatF l := by
  have h : ∀ (l : List Int) (m : Int), m ≤ l.foldl (fun m x => if m < x then x else m) m ∧ ∀ x ∈ l, x ≤ l.foldl (fun m x => if m < x then x else m) m := by
    intro l
    induction l with
    | nil => intro m; simp
    | cons y l ih =>
      intro m
      simp only [List.foldl_cons]
      have hm := ih (if m < y then y else m)
      refine ⟨?_, ?_⟩
      · have := hm.1
        split at this <;> rename_i hc <;> simp only [hc, if_true, if_false] <;> omega
      · intro x hx
        rcases List.mem_cons.1 hx with rfl | hx
        · have := hm.1
          split at this <;> rename_i hc <;> simp only [hc, if_true, if_false] <;> omega
        · exact hm.2 x hx
  exact fun l => h l 0
theorem greatF_le {M : Int} (h0 : 0 ≤ M) : ∀ l : List Int, (∀ x ∈ l, x ≤ M) → greatF l ≤ M := by
  have h : ∀ (l : List Int) (m : Int), m ≤ M → (∀ x ∈ l, x ≤ M) → l.foldl (fun m x => if m < x then x else m) m ≤ M := by
    intro l
    induction l with
    | nil => intro m hm _; exact hm
    | cons y l ih =>
      intro m hm hx
      simp only [List.foldl_cons]
      refine ih _ ?_ (fun x h => hx x (by simp [h]))
      split
      · exact hx y (by simp)
      · exact hm
  exact fun l hl => h l 0 h0 hl
theorem limit52 (w : World) : Calls Tryz.prog 52 #[] w (fun e w' => e = .returned (.int .i64 30000) ∧ w' = w) := by
  go_enter Tryz.func52, Tryz.ntmps52
  go_wp2_with fail
  go_ret
  exact ⟨rfl, rfl⟩
theorem limit165 (w : World) : Calls Tryz.prog 165 #[] w (fun e w' => e = .returned (.int .i64 2000000) ∧ w' = w) := by
  go_enter Tryz.func165, Tryz.ntmps165
  go_wp2_with fail
  go_ret
  exact ⟨rfl, rfl⟩
set_option maxRecDepth 100000 in
set_option maxHeartbeats 2000000 in
theorem greatest50 (w : World) (p : List Int) (a1 : Option Addr) (c1 : Nat) (u v : Value) (hp : Nums w (.slice a1 p.length c1) p) (hl : p.length ≤ 9223372036854775807) :
    Calls Tryz.prog 50 #[.agg #[u, .slice a1 p.length c1, v]] w (fun e w' => e = .returned (.int .i64 (greatF p)) ∧ Below w.heap.size w w') := by
  obtain ⟨w1, e1, hs1, hb1, hc1⟩ := game_box w #[u, .slice a1 p.length c1, v] 39
  have HV := Lib.hid (hp.keep hb1)
  have E1 := Lib.hid e1
  have HB := Lib.hid hb1
  have t1 := hc1 w1 (Below.refl _ _) 1
  simp only [List.getElem?_toArray, List.getElem?_cons_succ, List.getElem?_cons_zero] at t1
  clear hc1 hp hb1 hs1
  go_enter Tryz.func50, Tryz.ntmps50
  go_upto_region 1 with fail
  rw [← E1.out] at ⊢
  clear E1 e1
  generalize Value.agg #[u, .slice a1 p.length c1, v] = v0
  generalize hbc : w.heap.size = bc at t1 ⊢
  have HBC := Lib.hid hbc
  clear hbc
  go_wp2_with fail
  go_loopw [3, 4] (fun y i wr => ∃ k : Nat, k ≤ p.length ∧ i = .int .i64 k ∧ y = .int .i64 (greatF (p.take k)) ∧ wr = w1) (fun _ i _ => p.length - (intOf i).toNat)
  case atStart => exact ⟨0, Nat.zero_le _, rfl, rfl, rfl⟩
  case round =>
    obtain ⟨k, hk, rfl, rfl, rfl⟩ := hrel
    by_cases hlt : k < p.length
    · obtain ⟨b, o', rfl, d0⟩ := HV.out.at hlt
      have hd : decide (k < p.length) = true := by simpa using hlt
      have hlti : (k : Int) < (p.length : Int) := by omega
      have HST : Hid (greatF (p.take (k + 1)) = if greatF (p.take k) < p.getD k 0 then p.getD k 0 else greatF (p.take k)) := Lib.hid (by
        have e : p.getD k 0 = p[k] := by rw [List.getD_eq_getElem?_getD, List.getElem?_eq_getElem hlt]; rfl
        rw [e, List.take_succ_eq_append_getElem hlt, greatF_snoc])
      generalize p.getD k 0 = x at *
      generalize greatF (p.take k) = m at *
      go_wp2_with fail
      go_roundw
      case rel => exact ⟨k + 1, by omega, by go_num, by rw [HST.out], by first | rfl | trivial⟩
      case measure => simp [intOf]; omega
    · obtain rfl : k = p.length := by omega
      have hd : decide (p.length < p.length) = false := by simp
      go_wp2_with fail
      go_ret
      exact ⟨by simp, HB.out⟩
end Go.Proofs.YtckdgniecdfedaaGreatDoor
end
