/- The walks of the comparators of lists and machines. -/
import Derived.Test.YtckdgniecdfedaaGreatDoorMgC
import Derived.Test.YtckdgniecdfedaaGreatDoorMgE
section
/- The walks of the comparators of lists, and of lists of lists, of numbers. -/
namespace Go.Proofs.YtckdgniecdfedaaGreatDoor
open Go.RowKit

set_option maxHeartbeats 1000000 in
theorem ints18 {v u : Value} {A B : List Int} (w : World) (hA : Nums w v A) (hB : Nums w u B) (la : A.length ≤ 9223372036854775807) (lb : B.length ≤ 9223372036854775807) :
    Calls Tryz.prog 18 #[v, u] w (Said w (.bool (sameB A B))) := by
  obtain ⟨a, c, rfl, hA⟩ := hA
  obtain ⟨b, d, rfl, hB⟩ := hB
  by_cases hn : A.length = B.length
  · have hd : ((A.length : Int) == (B.length : Int)) = true := by simp [hn]
    have HN := Lib.hid hn
    have HA := Lib.hid hA
    have HB := Lib.hid hB
    clear hn hA hB
    go_enter Tryz.func18, Tryz.ntmps18
    go_wp2_with fail
    go_loopw [5] (fun i wr => ∃ k m : Nat, k ≤ A.length ∧ i = .int .i64 k ∧ wr = w.drewN m ∧ Hid (A.take k = B.take k)) (fun i _ => A.length - (intOf i).toNat)
    case atStart => exact ⟨0, 0, Nat.zero_le _, rfl, rfl, Lib.hid rfl⟩
    case round =>
      obtain ⟨k, m, hk, rfl, rfl, HT⟩ := hrel
      by_cases hlt : k < A.length
      · obtain ⟨b1, o1, rfl, hb1, hc1⟩ := HA.out (fun e => by rw [e] at hlt; simp at hlt)
        obtain ⟨b2, o2, rfl, hb2, hc2⟩ := HB.out (fun e => by have := HN.out; rw [e] at this; simp at this; rw [this] at hlt; simp at hlt)
        have hltB : k < B.length := by have := HN.out; omega
        have c1 := hc1 k hlt
        have c2 := hc2 k hltB
        have eA : A.getD k 0 = A[k] := by simp [hlt]
        have eB : B.getD k 0 = B[k] := by simp [hltB]
        rw [eA] at c1
        rw [eB] at c2
        have HS : Hid (A[k] = B[k] → A.take (k + 1) = B.take (k + 1)) := Lib.hid fun e => by rw [List.take_succ_eq_append_getElem hlt, List.take_succ_eq_append_getElem hltB, HT.out, e]
        have HF : Hid (A[k] ≠ B[k] → sameB A B = false) := Lib.hid fun e => same_not fun h => e (by subst h; rfl)
        have hd1 : decide (k < A.length) = true := by simpa using hlt
        have hd2 : decide (k < B.length) = true := by simpa using hltB
        clear eA eB hc1 hc2 HA HB
        generalize A[k] = x at *
        generalize B[k] = y at *
        by_cases hxy : x = y
        · have HT' := Lib.hid (HS.out hxy)
          have e1 : (x != y) = false := by simp [hxy]
          clear hxy HS HF
          go_wp2_with fail
          go_quiet (fail)
          go_wp2_with fail
          go_roundw
          case rel => exact ⟨k + 1, _, by omega, by go_num, rfl, HT'⟩
          case measure => simp [intOf]; omega
        · have HF' := Lib.hid (HF.out hxy)
          have e1 : (x != y) = true := by simp [hxy]
          clear hxy HS HF
          go_wp2_with fail
          go_quiet (fail)
          go_wp2_with fail
          go_ret
          exact ⟨by (rw [HF'.out]; try rfl), m + nq, by rw [World.drewN_drewN]⟩
      · obtain rfl : k = A.length := by omega
        have HS := Lib.hid (same_of (A := A) (B := B) (by have := HT.out; rw [List.take_of_length_le (Nat.le_refl _), List.take_of_length_le (by rw [HN.out]; exact Nat.le_refl _)] at this; exact this))
        go_wp2_with fail
        go_ret
        exact ⟨by (rw [HS.out]; try rfl), m, rfl⟩
  · have HS := Lib.hid (same_not (A := A) (B := B) fun e => hn (by rw [e]))
    have hd : ((A.length : Int) != (B.length : Int)) = true := by simp; omega
    clear hn
    go_enter Tryz.func18, Tryz.ntmps18
    go_wp2_with fail
    go_ret
    exact ⟨by (rw [HS.out]; try rfl), 0, rfl⟩
set_option maxHeartbeats 1000000 in
theorem ints87 {v u : Value} {A B : List Int} (w : World) (hA : Nums w v A) (hB : Nums w u B) (la : A.length ≤ 9223372036854775807) (lb : B.length ≤ 9223372036854775807) :
    Calls Tryz.prog 87 #[v, u] w (Said w (.bool (sameB A B))) := by
  obtain ⟨a, c, rfl, hA⟩ := hA
  obtain ⟨b, d, rfl, hB⟩ := hB
  by_cases hn : A.length = B.length
  · have hd : ((A.length : Int) == (B.length : Int)) = true := by simp [hn]
    have HN := Lib.hid hn
    have HA := Lib.hid hA
    have HB := Lib.hid hB
    clear hn hA hB
    go_enter Tryz.func87, Tryz.ntmps87
    go_wp2_with fail
    go_loopw [5] (fun i wr => ∃ k m : Nat, k ≤ A.length ∧ i = .int .i64 k ∧ wr = w.drewN m ∧ Hid (A.take k = B.take k)) (fun i _ => A.length - (intOf i).toNat)
    case atStart => exact ⟨0, 0, Nat.zero_le _, rfl, rfl, Lib.hid rfl⟩
    case round =>
      obtain ⟨k, m, hk, rfl, rfl, HT⟩ := hrel
      by_cases hlt : k < A.length
      · obtain ⟨b1, o1, rfl, hb1, hc1⟩ := HA.out (fun e => by rw [e] at hlt; simp at hlt)
        obtain ⟨b2, o2, rfl, hb2, hc2⟩ := HB.out (fun e => by have := HN.out; rw [e] at this; simp at this; rw [this] at hlt; simp at hlt)
        have hltB : k < B.length := by have := HN.out; omega
        have c1 := hc1 k hlt
        have c2 := hc2 k hltB
        have eA : A.getD k 0 = A[k] := by simp [hlt]
        have eB : B.getD k 0 = B[k] := by simp [hltB]
        rw [eA] at c1
        rw [eB] at c2
        have HS : Hid (A[k] = B[k] → A.take (k + 1) = B.take (k + 1)) := Lib.hid fun e => by rw [List.take_succ_eq_append_getElem hlt, List.take_succ_eq_append_getElem hltB, HT.out, e]
        have HF : Hid (A[k] ≠ B[k] → sameB A B = false) := Lib.hid fun e => same_not fun h => e (by subst h; rfl)
        have hd1 : decide (k < A.length) = true := by simpa using hlt
        have hd2 : decide (k < B.length) = true := by simpa using hltB
        clear eA eB hc1 hc2 HA HB
        generalize A[k] = x at *
        generalize B[k] = y at *
        by_cases hxy : x = y
        · have HT' := Lib.hid (HS.out hxy)
          have e1 : (x != y) = false := by simp [hxy]
          clear hxy HS HF
          go_wp2_with fail
          go_quiet (fail)
          go_wp2_with fail
          go_roundw
          case rel => exact ⟨k + 1, _, by omega, by go_num, rfl, HT'⟩
          case measure => simp [intOf]; omega
        · have HF' := Lib.hid (HF.out hxy)
          have e1 : (x != y) = true := by simp [hxy]
          clear hxy HS HF
          go_wp2_with fail
          go_quiet (fail)
          go_wp2_with fail
          go_ret
          exact ⟨by (rw [HF'.out]; try rfl), m + nq, by rw [World.drewN_drewN]⟩
      · obtain rfl : k = A.length := by omega
        have HS := Lib.hid (same_of (A := A) (B := B) (by have := HT.out; rw [List.take_of_length_le (Nat.le_refl _), List.take_of_length_le (by rw [HN.out]; exact Nat.le_refl _)] at this; exact this))
        go_wp2_with fail
        go_ret
        exact ⟨by (rw [HS.out]; try rfl), m, rfl⟩
  · have HS := Lib.hid (same_not (A := A) (B := B) fun e => hn (by rw [e]))
    have hd : ((A.length : Int) != (B.length : Int)) = true := by simp; omega
    clear hn
    go_enter Tryz.func87, Tryz.ntmps87
    go_wp2_with fail
    go_ret
    exact ⟨by (rw [HS.out]; try rfl), 0, rfl⟩

/-- whether the lists are the same -/
def rowsB (A B : List (List Int)) : Bool := decide (A = B)
theorem rows_of {A B : List (List Int)} (h : A = B) : rowsB A B = true := by simp [rowsB, h]
theorem rows_not {A B : List (List Int)} (h : A ≠ B) : rowsB A B = false := by simp [rowsB, h]

set_option maxRecDepth 100000 in
set_option maxHeartbeats 1000000 in
theorem rows86 {v u : Value} {A B : List (List Int)} (w : World) (hA : RowsV w v A) (hB : RowsV w u B) :
    Calls Tryz.prog 86 #[v, u] w (Said w (.bool (rowsB A B))) := by
  have HA := Lib.hid hA
  have HB := Lib.hid hB
  obtain ⟨a, c, rfl, la, -⟩ := hA
  obtain ⟨b, d, rfl, lb, -⟩ := hB
  by_cases hn : A.length = B.length
  · have hd : ((A.length : Int) == (B.length : Int)) = true := by simp [hn]
    have HN := Lib.hid hn
    clear hn
    go_enter Tryz.func86, Tryz.ntmps86
    go_wp2_with fail
    go_loopw [5] (fun i wr => ∃ k m : Nat, k ≤ A.length ∧ i = .int .i64 k ∧ wr = w.drewN m ∧ Hid (A.take k = B.take k)) (fun i _ => A.length - (intOf i).toNat)
    case atStart => exact ⟨0, 0, Nat.zero_le _, rfl, rfl, Lib.hid rfl⟩
    case round =>
      obtain ⟨k, m, hk, rfl, rfl, HT⟩ := hrel
      by_cases hlt : k < A.length
      · have hltB : k < B.length := by have := HN.out; omega
        obtain ⟨_, _, ev, _, hv⟩ := HA.out
        simp only [Value.slice.injEq, true_and] at ev
        obtain ⟨rfl, rfl⟩ := ev
        obtain ⟨b1, o1, rfl, hb1, hr⟩ := hv (fun e => by rw [e] at hlt; simp at hlt)
        obtain ⟨l1, a1, c1, k1, n1⟩ := hr k hlt
        obtain ⟨_, _, ev', _, hv'⟩ := HB.out
        simp only [Value.slice.injEq, true_and] at ev'
        obtain ⟨rfl, rfl⟩ := ev'
        obtain ⟨b2, o2, rfl, hb2, hr'⟩ := hv' (fun e => by rw [e] at hltB; simp at hltB)
        obtain ⟨l2, a2, c2, k2, n2⟩ := hr' k hltB
        have HS : Hid (A[k] = B[k] → A.take (k + 1) = B.take (k + 1)) := Lib.hid fun e => by rw [List.take_succ_eq_append_getElem hlt, List.take_succ_eq_append_getElem hltB, HT.out, e]
        have HF : Hid (A[k] ≠ B[k] → rowsB A B = false) := Lib.hid fun e => rows_not fun h => e (by subst h; rfl)
        have hd1 : decide (k < A.length) = true := by simpa using hlt
        have hd2 : decide (k < B.length) = true := by simpa using hltB
        have n1 := n1.drawn m
        have n2 := n2.drawn m
        have k1 : (w.drewN m).cell? ⟨b1, o1 + k, none⟩ = _ := k1
        have k2 : (w.drewN m).cell? ⟨b2, o2 + k, none⟩ = _ := k2
        generalize hwr : w.drewN m = wr at *
        have HWR := Lib.hid hwr
        have q : ∀ p, Calls Tryz.prog 87 #[.slice a1 A[k].length c1, .slice a2 B[k].length c2] (wr.drewN p) fun e w' => e = .returned (.bool (sameB A[k] B[k])) ∧ ∃ m', w' = (wr.drewN p).drewN m' := fun p => ints87 (wr.drewN p) (n1.drawn p) (n2.drawn p) l1 l2
        clear hv hv' hr hr' n1 n2 hwr
        generalize A[k] = x at *
        generalize B[k] = y at *
        by_cases hxy : x = y
        · have HT' := Lib.hid (HS.out hxy)
          have e1 := same_of hxy
          rw [e1] at q
          clear hxy HS HF e1
          go_wp2_with fail
          go_quiet ((go_at_call 87; with_reducible exact Calls.quiet_of (q _)))
          go_wp2_with fail
          go_roundw
          case rel => exact ⟨k + 1, m + nq, by omega, by go_num, by rw [← HWR.out, World.drewN_drewN], HT'⟩
          case measure => simp [intOf]; omega
        · have HF' := Lib.hid (HF.out hxy)
          have e1 := same_not hxy
          rw [e1] at q
          clear hxy HS HF e1
          go_wp2_with fail
          go_quiet ((go_at_call 87; with_reducible exact Calls.quiet_of (q _)))
          go_wp2_with fail
          go_ret
          exact ⟨by (rw [HF'.out]; try rfl), m + nq, by rw [← HWR.out, World.drewN_drewN]⟩
      · obtain rfl : k = A.length := by omega
        have HS := Lib.hid (rows_of (A := A) (B := B) (by have := HT.out; rw [List.take_of_length_le (Nat.le_refl _), List.take_of_length_le (by rw [HN.out]; exact Nat.le_refl _)] at this; exact this))
        go_wp2_with fail
        go_ret
        exact ⟨by (rw [HS.out]; try rfl), m, rfl⟩
  · have HS := Lib.hid (rows_not (A := A) (B := B) fun e => hn (by rw [e]))
    have hd : ((A.length : Int) != (B.length : Int)) = true := by simp; omega
    clear hn
    go_enter Tryz.func86, Tryz.ntmps86
    go_wp2_with fail
    go_ret
    exact ⟨by (rw [HS.out]; try rfl), 0, rfl⟩

set_option maxRecDepth 100000 in
set_option maxHeartbeats 1000000 in
theorem rows31 {v u : Value} {A B : List (List Int)} (w : World) (hA : RowsV w v A) (hB : RowsV w u B) :
    Calls Tryz.prog 31 #[v, u] w (Said w (.bool (rowsB A B))) := by
  have HA := Lib.hid hA
  have HB := Lib.hid hB
  obtain ⟨a, c, rfl, la, -⟩ := hA
  obtain ⟨b, d, rfl, lb, -⟩ := hB
  by_cases hn : A.length = B.length
  · have hd : ((A.length : Int) == (B.length : Int)) = true := by simp [hn]
    have HN := Lib.hid hn
    clear hn
    go_enter Tryz.func31, Tryz.ntmps31
    go_wp2_with fail
    go_loopw [5] (fun i wr => ∃ k m : Nat, k ≤ A.length ∧ i = .int .i64 k ∧ wr = w.drewN m ∧ Hid (A.take k = B.take k)) (fun i _ => A.length - (intOf i).toNat)
    case atStart => exact ⟨0, 0, Nat.zero_le _, rfl, rfl, Lib.hid rfl⟩
    case round =>
      obtain ⟨k, m, hk, rfl, rfl, HT⟩ := hrel
      by_cases hlt : k < A.length
      · have hltB : k < B.length := by have := HN.out; omega
        obtain ⟨_, _, ev, _, hv⟩ := HA.out
        simp only [Value.slice.injEq, true_and] at ev
        obtain ⟨rfl, rfl⟩ := ev
        obtain ⟨b1, o1, rfl, hb1, hr⟩ := hv (fun e => by rw [e] at hlt; simp at hlt)
        obtain ⟨l1, a1, c1, k1, n1⟩ := hr k hlt
        obtain ⟨_, _, ev', _, hv'⟩ := HB.out
        simp only [Value.slice.injEq, true_and] at ev'
        obtain ⟨rfl, rfl⟩ := ev'
        obtain ⟨b2, o2, rfl, hb2, hr'⟩ := hv' (fun e => by rw [e] at hltB; simp at hltB)
        obtain ⟨l2, a2, c2, k2, n2⟩ := hr' k hltB
        have HS : Hid (A[k] = B[k] → A.take (k + 1) = B.take (k + 1)) := Lib.hid fun e => by rw [List.take_succ_eq_append_getElem hlt, List.take_succ_eq_append_getElem hltB, HT.out, e]
        have HF : Hid (A[k] ≠ B[k] → rowsB A B = false) := Lib.hid fun e => rows_not fun h => e (by subst h; rfl)
        have hd1 : decide (k < A.length) = true := by simpa using hlt
        have hd2 : decide (k < B.length) = true := by simpa using hltB
        have n1 := n1.drawn m
        have n2 := n2.drawn m
        have k1 : (w.drewN m).cell? ⟨b1, o1 + k, none⟩ = _ := k1
        have k2 : (w.drewN m).cell? ⟨b2, o2 + k, none⟩ = _ := k2
        generalize hwr : w.drewN m = wr at *
        have HWR := Lib.hid hwr
        have q : ∀ p, Calls Tryz.prog 18 #[.slice a1 A[k].length c1, .slice a2 B[k].length c2] (wr.drewN p) fun e w' => e = .returned (.bool (sameB A[k] B[k])) ∧ ∃ m', w' = (wr.drewN p).drewN m' := fun p => ints18 (wr.drewN p) (n1.drawn p) (n2.drawn p) l1 l2
        clear hv hv' hr hr' n1 n2 hwr
        generalize A[k] = x at *
        generalize B[k] = y at *
        by_cases hxy : x = y
        · have HT' := Lib.hid (HS.out hxy)
          have e1 := same_of hxy
          rw [e1] at q
          clear hxy HS HF e1
          go_wp2_with fail
          go_quiet ((go_at_call 18; with_reducible exact Calls.quiet_of (q _)))
          go_wp2_with fail
          go_roundw
          case rel => exact ⟨k + 1, m + nq, by omega, by go_num, by rw [← HWR.out, World.drewN_drewN], HT'⟩
          case measure => simp [intOf]; omega
        · have HF' := Lib.hid (HF.out hxy)
          have e1 := same_not hxy
          rw [e1] at q
          clear hxy HS HF e1
          go_wp2_with fail
          go_quiet ((go_at_call 18; with_reducible exact Calls.quiet_of (q _)))
          go_wp2_with fail
          go_ret
          exact ⟨by (rw [HF'.out]; try rfl), m + nq, by rw [← HWR.out, World.drewN_drewN]⟩
      · obtain rfl : k = A.length := by omega
        have HS := Lib.hid (rows_of (A := A) (B := B) (by have := HT.out; rw [List.take_of_length_le (Nat.le_refl _), List.take_of_length_le (by rw [HN.out]; exact Nat.le_refl _)] at this; exact this))
        go_wp2_with fail
        go_ret
        exact ⟨by (rw [HS.out]; try rfl), m, rfl⟩
  · have HS := Lib.hid (rows_not (A := A) (B := B) fun e => hn (by rw [e]))
    have hd : ((A.length : Int) != (B.length : Int)) = true := by simp; omega
    clear hn
    go_enter Tryz.func31, Tryz.ntmps31
    go_wp2_with fail
    go_ret
    exact ⟨by (rw [HS.out]; try rfl), 0, rfl⟩
end Go.Proofs.YtckdgniecdfedaaGreatDoor
end
section
/- The walks of the functions that ask whether lists are short. -/
namespace Go.Proofs.YtckdgniecdfedaaGreatDoor
open Go.RowKit

/-- some truth value is handed back, the world is as it was -/
def Told (w : World) (e : Ending) (w' : World) : Prop := ∃ c : Bool, e = .returned (.bool c) ∧ w' = w

set_option maxRecDepth 100000 in
set_option maxHeartbeats 1000000 in
theorem few134 {v : Value} {A : List (List Int)} (w : World) (m : Int) (hA : RowsV w v A) : Calls Tryz.prog 134 #[v, .int .i64 m] w (Told w) := by
  have HA := Lib.hid hA
  obtain ⟨a, c, rfl, la, -⟩ := hA
  by_cases hm : m < (A.length : Int)
  · have hd : decide (m < (A.length : Int)) = true := by simpa using hm
    go_enter Tryz.func134, Tryz.ntmps134
    go_wp2_with fail
    go_ret
    exact ⟨_, rfl, rfl⟩
  · have hd : decide (m < (A.length : Int)) = false := by simpa using hm
    go_enter Tryz.func134, Tryz.ntmps134
    go_wp2_with fail
    go_loop [5] (fun i => ∃ k : Nat, k ≤ A.length ∧ i = .int .i64 k) (fun i => A.length - (intOf i).toNat)
    case atStart => exact ⟨0, Nat.zero_le _, rfl⟩
    case round =>
      obtain ⟨k, hk, rfl⟩ := hrel
      by_cases hlt : k < A.length
      · obtain ⟨_, _, ev, _, hv⟩ := HA.out
        simp only [Value.slice.injEq, true_and] at ev
        obtain ⟨rfl, rfl⟩ := ev
        obtain ⟨b1, o1, rfl, hb1, hr⟩ := hv (fun e => by rw [e] at hlt; simp at hlt)
        obtain ⟨l1, a1, c1, k1, n1⟩ := hr k hlt
        have hd1 : decide (k < A.length) = true := by simpa using hlt
        clear hv hr n1
        generalize A[k] = x at *
        by_cases hx : 64 < x.length
        · have hd2 : decide (64 < x.length) = true := by simpa using hx
          go_wp2_with fail
          go_ret
          exact ⟨_, rfl, rfl⟩
        · have hd2 : decide (64 < x.length) = false := by simpa using hx
          go_wp2_with fail
          go_round
          case rel => exact ⟨k + 1, by omega, by go_num⟩
          case measure => simp [intOf]; omega
      · obtain rfl : k = A.length := by omega
        go_wp2_with fail
        go_ret
        exact ⟨_, rfl, rfl⟩

set_option maxRecDepth 100000 in
set_option maxHeartbeats 1000000 in
theorem few83 {v : Value} {A : List (List Int)} (w : World) (m : Int) (hA : RowsV w v A) : Calls Tryz.prog 83 #[v, .int .i64 m] w (Told w) := by
  have HA := Lib.hid hA
  obtain ⟨a, c, rfl, la, -⟩ := hA
  by_cases hm : m < (A.length : Int)
  · have hd : decide (m < (A.length : Int)) = true := by simpa using hm
    go_enter Tryz.func83, Tryz.ntmps83
    go_wp2_with fail
    go_ret
    exact ⟨_, rfl, rfl⟩
  · have hd : decide (m < (A.length : Int)) = false := by simpa using hm
    go_enter Tryz.func83, Tryz.ntmps83
    go_wp2_with fail
    go_loop [5] (fun i => ∃ k : Nat, k ≤ A.length ∧ i = .int .i64 k) (fun i => A.length - (intOf i).toNat)
    case atStart => exact ⟨0, Nat.zero_le _, rfl⟩
    case round =>
      obtain ⟨k, hk, rfl⟩ := hrel
      by_cases hlt : k < A.length
      · obtain ⟨_, _, ev, _, hv⟩ := HA.out
        simp only [Value.slice.injEq, true_and] at ev
        obtain ⟨rfl, rfl⟩ := ev
        obtain ⟨b1, o1, rfl, hb1, hr⟩ := hv (fun e => by rw [e] at hlt; simp at hlt)
        obtain ⟨l1, a1, c1, k1, n1⟩ := hr k hlt
        have hd1 : decide (k < A.length) = true := by simpa using hlt
        clear hv hr n1
        generalize A[k] = x at *
        by_cases hx : 20 < x.length
        · have hd2 : decide (20 < x.length) = true := by simpa using hx
          go_wp2_with fail
          go_ret
          exact ⟨_, rfl, rfl⟩
        · have hd2 : decide (20 < x.length) = false := by simpa using hx
          go_wp2_with fail
          go_round
          case rel => exact ⟨k + 1, by omega, by go_num⟩
          case measure => simp [intOf]; omega
      · obtain rfl : k = A.length := by omega
        go_wp2_with fail
        go_ret
        exact ⟨_, rfl, rfl⟩
end Go.Proofs.YtckdgniecdfedaaGreatDoor
end
section
/- The walks of the functions that ask whether a controller, an environment and signals are small. -/
namespace Go.Proofs.YtckdgniecdfedaaGreatDoor
open Go.RowKit

/-- some truth value is handed back, what lay below lies as it lay -/
def ToldB (w : World) (e : Ending) (w' : World) : Prop := ∃ c : Bool, e = .returned (.bool c) ∧ Below w.heap.size w w'

set_option maxRecDepth 100000 in
set_option maxHeartbeats 1000000 in
theorem few81 {u v : Value} (w : World) (m : Int) (e : Ct) (hu : RowsV w u e.out) (hv : RowsV w v e.next) :
    Calls Tryz.prog 81 #[.agg #[.int .i64 e.ins, .int .i64 e.outs, .int .i64 e.start, u, v], .int .i64 m] w (ToldB w) := by
  have HU := Lib.hid hu
  have HV := Lib.hid hv
  obtain ⟨a, c, rfl, la, -⟩ := hu
  obtain ⟨b, d, rfl, lb, -⟩ := hv
  have d3 := cell_new w #[.int .i64 e.ins, .int .i64 e.outs, .int .i64 e.start, .slice a e.out.length c, .slice b e.next.length d] 54 3
  have d4 := cell_new w #[.int .i64 e.ins, .int .i64 e.outs, .int .i64 e.start, .slice a e.out.length c, .slice b e.next.length d] 54 4
  simp only [List.getElem?_toArray, List.getElem?_cons_succ, List.getElem?_cons_zero] at d3 d4
  have HB : Hid (Below w.heap.size w (w.alloc (.cells #[.int .i64 e.ins, .int .i64 e.outs, .int .i64 e.start, .slice a e.out.length c, .slice b e.next.length d] 54))) := Lib.hid ((Below.refl _ _).alloc (Nat.le_refl _) _)
  go_enter Tryz.func81, Tryz.ntmps81
  go_wp2_with fail
  refine (few134 _ m (HU.out.keep HB.out)).mono ?_
  rintro e' w1 ⟨x, rfl, rfl⟩
  cases x with
  | false =>
    go_wp2_with fail
    go_ret
    exact ⟨_, rfl, HB.out⟩
  | true =>
    go_wp2_with fail
    refine (few134 _ m (HV.out.keep HB.out)).mono ?_
    rintro e' w1 ⟨x, rfl, rfl⟩
    go_wp2_with fail
    go_ret
    exact ⟨_, rfl, HB.out⟩

set_option maxRecDepth 100000 in
set_option maxHeartbeats 1000000 in
theorem few82 {v : Value} (w : World) (m : Int) (e : Ev) (a : Option Addr) (c : Nat) (hv : RowsV w v e.next) :
    Calls Tryz.prog 82 #[.agg #[.int .i64 e.ins, .int .i64 e.outs, .int .i64 e.start, .slice a e.inn.length c, v], .int .i64 m] w (ToldB w) := by
  have HV := Lib.hid hv
  obtain ⟨b, d, rfl, lb, -⟩ := hv
  have d3 := cell_new w #[.int .i64 e.ins, .int .i64 e.outs, .int .i64 e.start, .slice a e.inn.length c, .slice b e.next.length d] 56 3
  have d4 := cell_new w #[.int .i64 e.ins, .int .i64 e.outs, .int .i64 e.start, .slice a e.inn.length c, .slice b e.next.length d] 56 4
  simp only [List.getElem?_toArray, List.getElem?_cons_succ, List.getElem?_cons_zero] at d3 d4
  have HB : Hid (Below w.heap.size w (w.alloc (.cells #[.int .i64 e.ins, .int .i64 e.outs, .int .i64 e.start, .slice a e.inn.length c, .slice b e.next.length d] 56))) := Lib.hid ((Below.refl _ _).alloc (Nat.le_refl _) _)
  by_cases hm : (e.inn.length : Int) ≤ m
  · have hd : decide ((e.inn.length : Int) ≤ m) = true := by simpa using hm
    go_enter Tryz.func82, Tryz.ntmps82
    go_wp2_with fail
    refine (few134 _ m (HV.out.keep HB.out)).mono ?_
    rintro e' w1 ⟨x, rfl, rfl⟩
    go_wp2_with fail
    go_ret
    exact ⟨_, rfl, HB.out⟩
  · have hd : decide ((e.inn.length : Int) ≤ m) = false := by simpa using hm
    go_enter Tryz.func82, Tryz.ntmps82
    go_wp2_with fail
    go_ret
    exact ⟨_, rfl, HB.out⟩

set_option maxRecDepth 100000 in
set_option maxHeartbeats 1000000 in
theorem small80 {v : Value} {l : List Sg} (w : World) (hv : SgV w v l) : Calls Tryz.prog 80 #[v] w (Told w) := by
  obtain ⟨a, c, rfl, hl, hv⟩ := hv
  have HV := Lib.hid hv
  clear hv
  by_cases hm : 10 < l.length
  · have hd : decide (10 < l.length) = true := by simpa using hm
    go_enter Tryz.func80, Tryz.ntmps80
    go_wp2_with fail
    go_ret
    exact ⟨_, rfl, rfl⟩
  · have hd : decide (10 < l.length) = false := by simpa using hm
    go_enter Tryz.func80, Tryz.ntmps80
    go_wp2_with fail
    go_loop [3] (fun i => ∃ k : Nat, k ≤ l.length ∧ i = .int .i64 k) (fun i => l.length - (intOf i).toNat)
    case atStart => exact ⟨0, Nat.zero_le _, rfl⟩
    case round =>
      obtain ⟨k, hk, rfl⟩ := hrel
      by_cases hlt : k < l.length
      · obtain ⟨b1, o1, rfl, hb1, hc⟩ := HV.out (fun e => by rw [e] at hlt; simp at hlt)
        obtain ⟨c0, -, -, c3⟩ := hc k hlt
        have hd1 : decide (k < l.length) = true := by simpa using hlt
        clear hc
        generalize l[k] = x at *
        by_cases hx : 40 < x.name.size
        · have hd2 : decide (40 < x.name.size) = true := by simpa using hx
          go_wp2_with fail
          go_ret
          exact ⟨_, rfl, rfl⟩
        · have hd2 : decide (40 < x.name.size) = false := by simpa using hx
          go_wp2_with fail
          go_round
          case rel => exact ⟨k + 1, by omega, by go_num⟩
          case measure => simp [intOf]; omega
      · obtain rfl : k = l.length := by omega
        go_wp2_with fail
        go_ret
        exact ⟨_, rfl, rfl⟩
end Go.Proofs.YtckdgniecdfedaaGreatDoor
end
section
/- The walks of the comparators of controllers and of environments. -/
namespace Go.Proofs.YtckdgniecdfedaaGreatDoor
open Go.RowKit

/-- whether Q is so is handed back, what lay below lies as it lay -/
def Cmp (w : World) (Q : Prop) (e : Ending) (w' : World) : Prop := ∃ c : Bool, e = .returned (.bool c) ∧ (c = true ↔ Q) ∧ Below w.heap.size w w'

set_option maxRecDepth 100000 in
set_option maxHeartbeats 2000000 in
theorem same28 {u v s t : Value} (w : World) (e g : Ct) (hu : RowsV w u e.out) (hs : RowsV w s g.out) (hv : RowsV w v e.next) (ht : RowsV w t g.next) :
    Calls Tryz.prog 28 #[.agg #[.int .i64 e.ins, .int .i64 e.outs, .int .i64 e.start, u, v], .agg #[.int .i64 g.ins, .int .i64 g.outs, .int .i64 g.start, s, t]] w (Cmp w (e = g)) := by
  have HU := Lib.hid hu
  have HV := Lib.hid hv
  have HS := Lib.hid hs
  have HT := Lib.hid ht
  obtain ⟨a1, c1, rfl, -⟩ := hu
  obtain ⟨a2, c2, rfl, -⟩ := hv
  obtain ⟨b1, d1, rfl, -⟩ := hs
  obtain ⟨b2, d2, rfl, -⟩ := ht
  have HB : Hid (Below w.heap.size w ((w.alloc (.cells #[.int .i64 e.ins, .int .i64 e.outs, .int .i64 e.start, .slice a1 e.out.length c1, .slice a2 e.next.length c2] 54)).alloc (.cells #[.int .i64 g.ins, .int .i64 g.outs, .int .i64 g.start, .slice b1 g.out.length d1, .slice b2 g.next.length d2] 54))) := Lib.hid (((Below.refl _ _).alloc (Nat.le_refl _) _).alloc (by simp) _)
  have old : ∀ j, ((w.alloc (.cells #[.int .i64 e.ins, .int .i64 e.outs, .int .i64 e.start, .slice a1 e.out.length c1, .slice a2 e.next.length c2] 54)).alloc (.cells #[.int .i64 g.ins, .int .i64 g.outs, .int .i64 g.start, .slice b1 g.out.length d1, .slice b2 g.next.length d2] 54)).cell? ⟨w.heap.size, j, none⟩ = (#[.int .i64 e.ins, .int .i64 e.outs, .int .i64 e.start, .slice a1 e.out.length c1, .slice a2 e.next.length c2] : Array Value)[j]? := fun j => (World.cell?_alloc_past _ _ _ (by simp)).trans (cell_new w _ 54 j)
  have new : ∀ j, ((w.alloc (.cells #[.int .i64 e.ins, .int .i64 e.outs, .int .i64 e.start, .slice a1 e.out.length c1, .slice a2 e.next.length c2] 54)).alloc (.cells #[.int .i64 g.ins, .int .i64 g.outs, .int .i64 g.start, .slice b1 g.out.length d1, .slice b2 g.next.length d2] 54)).cell? ⟨w.heap.size + 1, j, none⟩ = (#[.int .i64 g.ins, .int .i64 g.outs, .int .i64 g.start, .slice b1 g.out.length d1, .slice b2 g.next.length d2] : Array Value)[j]? := fun j => by
    have h := cell_new (w.alloc (.cells #[.int .i64 e.ins, .int .i64 e.outs, .int .i64 e.start, .slice a1 e.out.length c1, .slice a2 e.next.length c2] 54)) #[.int .i64 g.ins, .int .i64 g.outs, .int .i64 g.start, .slice b1 g.out.length d1, .slice b2 g.next.length d2] 54 j
    rw [World.size_alloc] at h
    exact h
  have p0 := old 0
  have q0 := new 0
  have p1 := old 1
  have q1 := new 1
  have p2 := old 2
  have q2 := new 2
  have p3 := old 3
  have q3 := new 3
  have p4 := old 4
  have q4 := new 4
  simp only [List.getElem?_toArray, List.getElem?_cons_succ, List.getElem?_cons_zero] at p0 q0 p1 q1 p2 q2 p3 q3 p4 q4
  clear old new
  by_cases h0 : e.ins = g.ins
  case neg =>
    have g0 : (e.ins == g.ins) = false := by simpa using h0
    have HN := Lib.hid h0
    clear h0
    go_enter Tryz.func28, Tryz.ntmps28
    go_wp2_with fail
    go_ret
    exact ⟨_, rfl, ⟨fun h => (by cases h), fun h => absurd (by rw [h]) HN.out⟩, HB.out⟩
  have g0 : (e.ins == g.ins) = true := by simpa using h0
  by_cases h1 : e.outs = g.outs
  case neg =>
    have g1 : (e.outs == g.outs) = false := by simpa using h1
    have HN := Lib.hid h1
    clear h0 h1
    go_enter Tryz.func28, Tryz.ntmps28
    go_wp2_with fail
    go_ret
    exact ⟨_, rfl, ⟨fun h => (by cases h), fun h => absurd (by rw [h]) HN.out⟩, HB.out⟩
  have g1 : (e.outs == g.outs) = true := by simpa using h1
  by_cases h2 : e.start = g.start
  case neg =>
    have g2 : (e.start == g.start) = false := by simpa using h2
    have HN := Lib.hid h2
    clear h0 h1 h2
    go_enter Tryz.func28, Tryz.ntmps28
    go_wp2_with fail
    go_ret
    exact ⟨_, rfl, ⟨fun h => (by cases h), fun h => absurd (by rw [h]) HN.out⟩, HB.out⟩
  have g2 : (e.start == g.start) = true := by simpa using h2
  have HE := Lib.hid (And.intro h0 (And.intro h1 h2))
  clear h0 h1 h2
  go_enter Tryz.func28, Tryz.ntmps28
  go_wp2_with fail
  refine (rows86 _ (HU.out.keep HB.out) (HS.out.keep HB.out)).mono ?_
  rintro e' w1 ⟨rfl, n1, rfl⟩
  by_cases hx : e.out = g.out
  case neg =>
    rw [rows_not hx]
    have HN := Lib.hid hx
    clear hx
    go_wp2_with fail
    go_ret
    exact ⟨_, rfl, ⟨fun h => (by cases h), fun h => absurd (by rw [h]) HN.out⟩, below_drawn HB.out n1⟩
  rw [rows_of hx]
  have HX := Lib.hid hx
  clear hx
  go_wp2_with fail
  refine (rows86 _ (HV.out.keep (below_drawn HB.out n1)) (HT.out.keep (below_drawn HB.out n1))).mono ?_
  rintro e' w2 ⟨rfl, n2, rfl⟩
  go_wp2_with fail
  go_ret
  refine ⟨_, rfl, ⟨fun h => ?_, fun h => rows_of (by rw [h])⟩, below_drawn HB.out (n1 + n2)⟩
  have hn : e.next = g.next := of_decide_eq_true h
  obtain ⟨k0, k1, k2⟩ := HE.out
  have k3 := HX.out
  cases e; cases g
  simp only at k0 k1 k2 k3 hn
  rw [k0, k1, k2, k3, hn]

set_option maxRecDepth 100000 in
set_option maxHeartbeats 2000000 in
theorem same29 {u v s t : Value} (w : World) (e g : Ev) (hu : Nums w u e.inn) (hs : Nums w s g.inn) (lu : e.inn.length ≤ 9223372036854775807) (ls : g.inn.length ≤ 9223372036854775807) (hv : RowsV w v e.next) (ht : RowsV w t g.next) :
    Calls Tryz.prog 29 #[.agg #[.int .i64 e.ins, .int .i64 e.outs, .int .i64 e.start, u, v], .agg #[.int .i64 g.ins, .int .i64 g.outs, .int .i64 g.start, s, t]] w (Cmp w (e = g)) := by
  have HU := Lib.hid hu
  have HV := Lib.hid hv
  have HS := Lib.hid hs
  have HT := Lib.hid ht
  obtain ⟨a1, c1, rfl, -⟩ := hu
  obtain ⟨a2, c2, rfl, -⟩ := hv
  obtain ⟨b1, d1, rfl, -⟩ := hs
  obtain ⟨b2, d2, rfl, -⟩ := ht
  have HB : Hid (Below w.heap.size w ((w.alloc (.cells #[.int .i64 e.ins, .int .i64 e.outs, .int .i64 e.start, .slice a1 e.inn.length c1, .slice a2 e.next.length c2] 56)).alloc (.cells #[.int .i64 g.ins, .int .i64 g.outs, .int .i64 g.start, .slice b1 g.inn.length d1, .slice b2 g.next.length d2] 56))) := Lib.hid (((Below.refl _ _).alloc (Nat.le_refl _) _).alloc (by simp) _)
  have old : ∀ j, ((w.alloc (.cells #[.int .i64 e.ins, .int .i64 e.outs, .int .i64 e.start, .slice a1 e.inn.length c1, .slice a2 e.next.length c2] 56)).alloc (.cells #[.int .i64 g.ins, .int .i64 g.outs, .int .i64 g.start, .slice b1 g.inn.length d1, .slice b2 g.next.length d2] 56)).cell? ⟨w.heap.size, j, none⟩ = (#[.int .i64 e.ins, .int .i64 e.outs, .int .i64 e.start, .slice a1 e.inn.length c1, .slice a2 e.next.length c2] : Array Value)[j]? := fun j => (World.cell?_alloc_past _ _ _ (by simp)).trans (cell_new w _ 56 j)
  have new : ∀ j, ((w.alloc (.cells #[.int .i64 e.ins, .int .i64 e.outs, .int .i64 e.start, .slice a1 e.inn.length c1, .slice a2 e.next.length c2] 56)).alloc (.cells #[.int .i64 g.ins, .int .i64 g.outs, .int .i64 g.start, .slice b1 g.inn.length d1, .slice b2 g.next.length d2] 56)).cell? ⟨w.heap.size + 1, j, none⟩ = (#[.int .i64 g.ins, .int .i64 g.outs, .int .i64 g.start, .slice b1 g.inn.length d1, .slice b2 g.next.length d2] : Array Value)[j]? := fun j => by
    have h := cell_new (w.alloc (.cells #[.int .i64 e.ins, .int .i64 e.outs, .int .i64 e.start, .slice a1 e.inn.length c1, .slice a2 e.next.length c2] 56)) #[.int .i64 g.ins, .int .i64 g.outs, .int .i64 g.start, .slice b1 g.inn.length d1, .slice b2 g.next.length d2] 56 j
    rw [World.size_alloc] at h
    exact h
  have p0 := old 0
  have q0 := new 0
  have p1 := old 1
  have q1 := new 1
  have p2 := old 2
  have q2 := new 2
  have p3 := old 3
  have q3 := new 3
  have p4 := old 4
  have q4 := new 4
  simp only [List.getElem?_toArray, List.getElem?_cons_succ, List.getElem?_cons_zero] at p0 q0 p1 q1 p2 q2 p3 q3 p4 q4
  clear old new
  by_cases h0 : e.ins = g.ins
  case neg =>
    have g0 : (e.ins == g.ins) = false := by simpa using h0
    have HN := Lib.hid h0
    clear h0
    go_enter Tryz.func29, Tryz.ntmps29
    go_wp2_with fail
    go_ret
    exact ⟨_, rfl, ⟨fun h => (by cases h), fun h => absurd (by rw [h]) HN.out⟩, HB.out⟩
  have g0 : (e.ins == g.ins) = true := by simpa using h0
  by_cases h1 : e.outs = g.outs
  case neg =>
    have g1 : (e.outs == g.outs) = false := by simpa using h1
    have HN := Lib.hid h1
    clear h0 h1
    go_enter Tryz.func29, Tryz.ntmps29
    go_wp2_with fail
    go_ret
    exact ⟨_, rfl, ⟨fun h => (by cases h), fun h => absurd (by rw [h]) HN.out⟩, HB.out⟩
  have g1 : (e.outs == g.outs) = true := by simpa using h1
  by_cases h2 : e.start = g.start
  case neg =>
    have g2 : (e.start == g.start) = false := by simpa using h2
    have HN := Lib.hid h2
    clear h0 h1 h2
    go_enter Tryz.func29, Tryz.ntmps29
    go_wp2_with fail
    go_ret
    exact ⟨_, rfl, ⟨fun h => (by cases h), fun h => absurd (by rw [h]) HN.out⟩, HB.out⟩
  have g2 : (e.start == g.start) = true := by simpa using h2
  have HE := Lib.hid (And.intro h0 (And.intro h1 h2))
  clear h0 h1 h2
  go_enter Tryz.func29, Tryz.ntmps29
  go_wp2_with fail
  refine (ints87 _ (HU.out.keep HB.out) (HS.out.keep HB.out) lu ls).mono ?_
  rintro e' w1 ⟨rfl, n1, rfl⟩
  by_cases hx : e.inn = g.inn
  case neg =>
    rw [same_not hx]
    have HN := Lib.hid hx
    clear hx
    go_wp2_with fail
    go_ret
    exact ⟨_, rfl, ⟨fun h => (by cases h), fun h => absurd (by rw [h]) HN.out⟩, below_drawn HB.out n1⟩
  rw [same_of hx]
  have HX := Lib.hid hx
  clear hx
  go_wp2_with fail
  refine (rows86 _ (HV.out.keep (below_drawn HB.out n1)) (HT.out.keep (below_drawn HB.out n1))).mono ?_
  rintro e' w2 ⟨rfl, n2, rfl⟩
  go_wp2_with fail
  go_ret
  refine ⟨_, rfl, ⟨fun h => ?_, fun h => rows_of (by rw [h])⟩, below_drawn HB.out (n1 + n2)⟩
  have hn : e.next = g.next := of_decide_eq_true h
  obtain ⟨k0, k1, k2⟩ := HE.out
  have k3 := HX.out
  cases e; cases g
  simp only at k0 k1 k2 k3 hn
  rw [k0, k1, k2, k3, hn]
end Go.Proofs.YtckdgniecdfedaaGreatDoor
end
