/- The walk of SmallClaim: if it is true, then the claim's formulas have few nodes. -/
import Derived.Test.YtckdgniecdfedaaGreatDoorMgI
import Derived.Test.YtckdgniecdfedaaGreatDoorMgK
namespace Go.Proofs.YtckdgniecdfedaaGreatDoor
open Go.RowKit

theorem one_box (w : World) (cs : Array Value) (t : TypeId) : ∃ w1, w1 = w.alloc (.cells cs t) ∧ w1.heap.size = w.heap.size + 1 ∧ Below w.heap.size w w1 ∧ (∀ wr, Below (w.heap.size + 1) w1 wr → ∀ j, wr.cell? ⟨w.heap.size, j, none⟩ = cs[j]?) :=
  ⟨_, rfl, by simp, (Below.refl _ _).alloc (Nat.le_refl _) _, fun wr hB j => (hB.cell (p := ⟨w.heap.size, j, none⟩) (show w.heap.size < w.heap.size + 1 by omega)).trans (cell_new w cs t j)⟩
theorem FV.args {w : World} {a : Option Addr} {c : Nat} {f : Fs} (h : FV w (.slice a f.len c) f) : f.len ≤ 9223372036854775807 ∧ FArgs w a f := by
  obtain ⟨h1, a', c', e, -, h2⟩ := h
  simp only [Value.slice.injEq] at e
  obtain ⟨rfl, -, rfl⟩ := e
  exact ⟨h1, h2⟩
theorem RowsV.len {w : World} {v : Value} {l : List (List Int)} (h : RowsV w v l) : l.length ≤ 9223372036854775807 := by
  obtain ⟨_, _, _, h, _⟩ := h
  exact h
/-- a small claim's formulas -/
def Cl.little (c : Cl) : Prop := (c.args.nodes : Int) + 1 ≤ 450 ∧ c.res.len ≤ 12 ∧ c.res.few 450

set_option maxRecDepth 100000 in
set_option maxHeartbeats 4000000 in
theorem small24 (w : World) (x : Cv) (c : Cl) (h : ClV w x c) : Calls Tryz.prog 24 #[.agg (x.cells c)] w (ToldQ w c.little) := by
  obtain ⟨w1, e1, hs1, hb1, hc1⟩ := one_box w (x.cells c) 59
  have HV := Lib.hid h
  have E1 := Lib.hid e1
  have HS := Lib.hid hs1
  have HB := Lib.hid hb1
  have HC := Lib.hid hc1
  have HX : Hid (Below (w.heap.size + 1) w1 w1) := Lib.hid (Below.refl _ _)
  clear h e1 hs1 hb1 hc1
  unfold Cv.cells at HC E1 ⊢
  have t1 := HC.out w1 (Below.refl _ _) 1
  simp only [List.getElem?_toArray, List.getElem?_cons_succ, List.getElem?_cons_zero] at t1
  rw [E1.out] at t1
  go_enter Tryz.func24, Tryz.ntmps24
  go_wp2_with fail
  rw [← E1.out] at t1 ⊢
  clear E1
  generalize Value.agg #[.int .i64 c.kind, .slice x.a1 c.sigs.length x.c1, .int .i64 c.op, .string c.nm, .int .i64 c.val, .int .i64 c.bd, .slice x.a6 c.args.len x.c6, .int .i64 c.ctrl.ins, .int .i64 c.ctrl.outs, .int .i64 c.ctrl.start, .slice x.a10 c.ctrl.out.length x.c10, .slice x.a11 c.ctrl.next.length x.c11, .int .i64 c.env.ins, .int .i64 c.env.outs, .int .i64 c.env.start, .slice x.a15 c.env.inn.length x.c15, .slice x.a16 c.env.next.length x.c16, .slice x.a17 c.spots.length x.c17, .slice x.a18 c.game.owner.length x.c18, .slice x.a19 c.game.prio.length x.c19, .slice x.a20 c.game.succ.length x.c20, .slice x.a21 c.game.meas.length x.c21, .slice x.a22 c.letters.length x.c22, .slice x.a23 c.res.len x.c23] = v0
  generalize hbc : w.heap.size = bc at HS HC HX t1 ⊢
  have HBC := Lib.hid hbc
  clear hbc
  refine (small80 w1 (HV.out.keep HB.out).sigs).mono ?_
  rintro e ww ⟨y2, rfl, hw⟩
  subst ww
  clear t1
  have t2 := HC.out w1 HX.out 2
  have t3 := HC.out w1 HX.out 3
  have t4 := HC.out w1 HX.out 4
  have t5 := HC.out w1 HX.out 5
  have t6 := HC.out w1 HX.out 6
  simp only [List.getElem?_toArray, List.getElem?_cons_succ, List.getElem?_cons_zero] at t2 t3 t4 t5 t6
  by_cases hy : y2 = true
  case neg =>
    obtain rfl : y2 = false := by simpa using hy
    go_wp2_with fail
    go_ret
    exact ⟨_, rfl, fun h => (by cases h), HB.out⟩
  subst hy
  go_wp2_with fail
  refine (small19 c.args w1 c.op c.val c.bd c.nm x.a6 x.c6 450 (HV.out.keep HB.out).args.args.1 (HV.out.keep HB.out).args.args.2 (by omega) (by omega)).mono ?_
  rintro e w3 ⟨y3, rfl, hq3, hB'⟩
  have HB3 : Hid (Below w.heap.size w w3) := Lib.hid (HB.out.trans (hB'.mono HB.out.size))
  have HX3 : Hid (Below (bc + 1) w1 w3) := Lib.hid (HX.out.trans (hB'.mono (by have h1 := HX.out.size; have h2 := HS.out; omega)))
  have HQ3 := Lib.hid hq3
  clear hq3
  clear hB'
  clear t2 t3 t4 t5 t6
  have t7 := HC.out w3 HX3.out 7
  have t8 := HC.out w3 HX3.out 8
  have t9 := HC.out w3 HX3.out 9
  have t10 := HC.out w3 HX3.out 10
  have t11 := HC.out w3 HX3.out 11
  simp only [List.getElem?_toArray, List.getElem?_cons_succ, List.getElem?_cons_zero] at t7 t8 t9 t10 t11
  by_cases hy : y3 = true
  case neg =>
    obtain rfl : y3 = false := by simpa using hy
    go_wp2_with fail
    go_ret
    exact ⟨_, rfl, fun h => (by cases h), HB3.out⟩
  subst hy
  go_wp2_with fail
  refine (few81 w3 20 c.ctrl (HV.out.keep HB3.out).out (HV.out.keep HB3.out).next).mono ?_
  rintro e w4 ⟨y4, rfl, hB'⟩
  have HB4 : Hid (Below w.heap.size w w4) := Lib.hid (HB3.out.trans (hB'.mono HB3.out.size))
  have HX4 : Hid (Below (bc + 1) w1 w4) := Lib.hid (HX3.out.trans (hB'.mono (by have h1 := HX3.out.size; have h2 := HS.out; omega)))
  clear hB'
  clear t7 t8 t9 t10 t11
  have t12 := HC.out w4 HX4.out 12
  have t13 := HC.out w4 HX4.out 13
  have t14 := HC.out w4 HX4.out 14
  have t15 := HC.out w4 HX4.out 15
  have t16 := HC.out w4 HX4.out 16
  simp only [List.getElem?_toArray, List.getElem?_cons_succ, List.getElem?_cons_zero] at t12 t13 t14 t15 t16
  by_cases hy : y4 = true
  case neg =>
    obtain rfl : y4 = false := by simpa using hy
    go_wp2_with fail
    go_ret
    exact ⟨_, rfl, fun h => (by cases h), HB4.out⟩
  subst hy
  go_wp2_with fail
  refine (few82 w4 20 c.env x.a15 x.c15 (HV.out.keep HB4.out).enext).mono ?_
  rintro e w5 ⟨y5, rfl, hB'⟩
  have HB5 : Hid (Below w.heap.size w w5) := Lib.hid (HB4.out.trans (hB'.mono HB4.out.size))
  have HX5 : Hid (Below (bc + 1) w1 w5) := Lib.hid (HX4.out.trans (hB'.mono (by have h1 := HX4.out.size; have h2 := HS.out; omega)))
  clear hB'
  clear t12 t13 t14 t15 t16
  have t17 := HC.out w5 HX5.out 17
  have t18 := HC.out w5 HX5.out 18
  have t19 := HC.out w5 HX5.out 19
  have t20 := HC.out w5 HX5.out 20
  simp only [List.getElem?_toArray, List.getElem?_cons_succ, List.getElem?_cons_zero] at t17 t18 t19 t20
  by_cases hy : y5 = true
  case neg =>
    obtain rfl : y5 = false := by simpa using hy
    go_wp2_with fail
    go_ret
    exact ⟨_, rfl, fun h => (by cases h), HB5.out⟩
  subst hy
  by_cases hlsp : 60 < c.spots.length
  case pos =>
    have hd : decide (60 < c.spots.length) = true := by simpa using hlsp
    have hd' : decide ((60 : Int) < (c.spots.length : Int)) = true := by simp; omega
    clear hlsp
    go_wp2_with fail
    go_ret
    exact ⟨_, rfl, fun h => (by cases h), HB5.out⟩
  have hdsp : decide (60 < c.spots.length) = false := by simpa using hlsp
  have hesp : decide ((60 : Int) < (c.spots.length : Int)) = false := by simp; omega
  clear hlsp
  by_cases hlow : 20 < c.game.owner.length
  case pos =>
    have hd : decide (20 < c.game.owner.length) = true := by simpa using hlow
    have hd' : decide ((20 : Int) < (c.game.owner.length : Int)) = true := by simp; omega
    clear hlow
    go_wp2_with fail
    go_ret
    exact ⟨_, rfl, fun h => (by cases h), HB5.out⟩
  have hdow : decide (20 < c.game.owner.length) = false := by simpa using hlow
  have heow : decide ((20 : Int) < (c.game.owner.length : Int)) = false := by simp; omega
  clear hlow
  by_cases hlpr : 20 < c.game.prio.length
  case pos =>
    have hd : decide (20 < c.game.prio.length) = true := by simpa using hlpr
    have hd' : decide ((20 : Int) < (c.game.prio.length : Int)) = true := by simp; omega
    clear hlpr
    go_wp2_with fail
    go_ret
    exact ⟨_, rfl, fun h => (by cases h), HB5.out⟩
  have hdpr : decide (20 < c.game.prio.length) = false := by simpa using hlpr
  have hepr : decide ((20 : Int) < (c.game.prio.length : Int)) = false := by simp; omega
  clear hlpr
  go_wp2_with fail
  refine (few83 w5 20 (HV.out.keep HB5.out).succ).mono ?_
  rintro e ww ⟨y6, rfl, hw⟩
  subst ww
  clear t17 t18 t19 t20
  have t21 := HC.out w5 HX5.out 21
  simp only [List.getElem?_toArray, List.getElem?_cons_succ, List.getElem?_cons_zero] at t21
  by_cases hy : y6 = true
  case neg =>
    obtain rfl : y6 = false := by simpa using hy
    go_wp2_with fail
    go_ret
    exact ⟨_, rfl, fun h => (by cases h), HB5.out⟩
  subst hy
  go_wp2_with fail
  refine (few83 w5 20 (HV.out.keep HB5.out).meas).mono ?_
  rintro e ww ⟨y7, rfl, hw⟩
  subst ww
  clear t21
  have t22 := HC.out w5 HX5.out 22
  have t23 := HC.out w5 HX5.out 23
  simp only [List.getElem?_toArray, List.getElem?_cons_succ, List.getElem?_cons_zero] at t22 t23
  by_cases hy : y7 = true
  case neg =>
    obtain rfl : y7 = false := by simpa using hy
    go_wp2_with fail
    go_ret
    exact ⟨_, rfl, fun h => (by cases h), HB5.out⟩
  subst hy
  by_cases hlle : 20 < c.letters.length
  case pos =>
    have hd : decide (20 < c.letters.length) = true := by simpa using hlle
    have hd' : decide ((20 : Int) < (c.letters.length : Int)) = true := by simp; omega
    clear hlle
    go_wp2_with fail
    go_ret
    exact ⟨_, rfl, fun h => (by cases h), HB5.out⟩
  have hdle : decide (20 < c.letters.length) = false := by simpa using hlle
  have hele : decide ((20 : Int) < (c.letters.length : Int)) = false := by simp; omega
  clear hlle
  go_wp2_with fail
  refine (smallList84 c.res w5 450 (HV.out.keep HB5.out).res (by omega) (by omega)).mono ?_
  rintro e w8 ⟨y8, rfl, hq8, hB'⟩
  have HB8 : Hid (Below w.heap.size w w8) := Lib.hid (HB5.out.trans (hB'.mono HB5.out.size))
  have HX8 : Hid (Below (bc + 1) w1 w8) := Lib.hid (HX5.out.trans (hB'.mono (by have h1 := HX5.out.size; have h2 := HS.out; omega)))
  have HQ8 := Lib.hid hq8
  clear hq8
  clear hB'
  clear t22 t23
  have t17 := HC.out w8 HX8.out 17
  simp only [List.getElem?_toArray, List.getElem?_cons_succ, List.getElem?_cons_zero] at t17
  by_cases hy : y8 = true
  case neg =>
    obtain rfl : y8 = false := by simpa using hy
    go_wp2_with fail
    go_ret
    exact ⟨_, rfl, fun h => (by cases h), HB8.out⟩
  subst hy
  have HSP := Lib.hid ((HV.out.keep HB8.out).spots)
  go_wp2_with fail
  go_loopw [3] (fun i wr => ∃ k : Nat, k ≤ c.spots.length ∧ i = .int .i64 k ∧ wr = w8) (fun i _ => c.spots.length - (intOf i).toNat)
  case atStart => exact ⟨0, Nat.zero_le _, rfl, rfl⟩
  case round =>
    obtain ⟨k, hk, rfl, rfl⟩ := hrel
    by_cases hlt : k < c.spots.length
    case neg =>
      have hd1 : decide (k < c.spots.length) = false := by simpa using hlt
      clear hlt
      go_wp2_with fail
      go_ret
      exact ⟨_, rfl, fun _ => ⟨HQ3.out (by first | rfl | trivial), HQ8.out (by first | rfl | trivial)⟩, HB8.out⟩
    have hd1 : decide (k < c.spots.length) = true := by simpa using hlt
    obtain ⟨asl, csl, ev, ls, hsp⟩ := HSP.out
    simp only [Value.slice.injEq, true_and] at ev
    obtain ⟨ea, ec⟩ := ev
    obtain ⟨b1, o1, ea2, hb1, hcell⟩ := hsp (fun e => by rw [e] at hlt; simp at hlt)
    obtain ⟨-, -, ⟨u, c2, ⟨a3, c3, rfl, -⟩, hl⟩, -, -⟩ := hcell k hlt
    rw [ea2] at ea
    rw [ea] at t17
    have EA := Lib.hid ea
    clear hcell hsp ea ea2 ec
    generalize (c.spots[k]).set.length = m at c2 hl
    by_cases hm : 20 < m
    case pos =>
      have hd2 : decide (20 < m) = true := by simpa using hm
      have hd3 : decide ((20 : Int) < (m : Int)) = true := by simp; omega
      clear hm
      go_wp2_with fail
      go_ret
      exact ⟨_, rfl, fun h => (by cases h), HB8.out⟩
    have hd2 : decide (20 < m) = false := by simpa using hm
    have hd3 : decide ((20 : Int) < (m : Int)) = false := by simp; omega
    clear hm
    go_wp2_with fail
    go_roundw
    case rel => exact ⟨k + 1, by omega, by go_num, by first | rfl | trivial⟩
    case measure => simp [intOf]; omega
end Go.Proofs.YtckdgniecdfedaaGreatDoor
