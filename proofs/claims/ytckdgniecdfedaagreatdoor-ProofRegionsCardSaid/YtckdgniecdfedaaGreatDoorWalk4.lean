/- The walks of Ints and Same of the references: they hand back whether two lists of numbers, two certificates are equal. -/
import Derived.Test.YtckdgniecdfedaaGreatDoorWalk2
namespace Go.Proofs.YtckdgniecdfedaaGreatDoor
open Go.RowKit

/-- a slice of numbers that can be read -/
def Nums (w : World) (v : Value) (A : List Int) : Prop := ∃ a c, v = .slice a A.length c ∧ (A ≠ [] → ∃ b off, a = some ⟨b, off, none⟩ ∧ b < w.heap.size ∧ ∀ j, j < A.length → w.cell? ⟨b, off + j, none⟩ = some (.int .i64 (A.getD j 0)))
theorem Nums.keep {w w' : World} {v : Value} {A : List Int} (h : Nums w v A) (hB : Below w.heap.size w w') : Nums w' v A := by
  obtain ⟨a, c, e, h⟩ := h
  refine ⟨a, c, e, fun hA => ?_⟩
  obtain ⟨b, off, e', hb, hc⟩ := h hA
  exact ⟨b, off, e', Nat.lt_of_lt_of_le hb hB.size, fun j hj => (hB.cell (p := ⟨b, off + j, none⟩) hb).trans (hc j hj)⟩
theorem Own.nums {w : World} {base : Nat} {v : Value} {A : List Int} (h : Own w base v A) : Nums w v A := by
  obtain ⟨g, cap, e, _, hl, hc⟩ := h.cells
  exact ⟨_, cap, e, fun _ => ⟨g, 0, rfl, hl, fun j hj => by rw [Nat.zero_add]; exact hc j hj⟩⟩
theorem Nums.drawn {w : World} {v : Value} {A : List Int} (h : Nums w v A) (n : Nat) : Nums (w.drewN n) v A := h

/-- whether the lists are the same -/
def sameB (A B : List Int) : Bool := decide (A = B)
theorem same_of {A B : List Int} (h : A = B) : sameB A B = true := by simp [sameB, h]
theorem same_not {A B : List Int} (h : A ≠ B) : sameB A B = false := by simp [sameB, h]

def Said (w : World) (v : Value) (e : Ending) (w' : World) : Prop := e = .returned v ∧ ∃ n, w' = w.drewN n

set_option maxHeartbeats 1000000 in
theorem ints_any {v u : Value} {A B : List Int} (w : World) (hA : Nums w v A) (hB : Nums w u B) (la : A.length ≤ 1000000) (lb : B.length ≤ 1000000) :
    Calls Tryz.prog 18 #[v, u] w (Said w (.bool (sameB A B))) := by
  obtain ⟨a, c, rfl, hA⟩ := hA
  obtain ⟨b, d, rfl, hB⟩ := hB
  by_cases hn : A.length = B.length
  · have hd : ((A.length : Int) == (B.length : Int)) = true := by simp [hn]
    have HN := Lib.hid hn
    have HA := Lib.hid hA
    have HB := Lib.hid hB
    clear hn hA hB
    go_enter Tryz.func18, Tryz.ntmps18
    go_wp2_with fail
    go_loopw [5] (fun i wr => ∃ k m : Nat, k ≤ A.length ∧ i = .int .i64 k ∧ wr = w.drewN m ∧ Hid (A.take k = B.take k)) (fun i _ => A.length - (intOf i).toNat)
    case atStart => exact ⟨0, 0, Nat.zero_le _, rfl, rfl, Lib.hid rfl⟩
    case round =>
      obtain ⟨k, m, hk, rfl, rfl, HT⟩ := hrel
      by_cases hlt : k < A.length
      · obtain ⟨b1, o1, rfl, hb1, hc1⟩ := HA.out (fun e => by rw [e] at hlt; simp at hlt)
        obtain ⟨b2, o2, rfl, hb2, hc2⟩ := HB.out (fun e => by have := HN.out; rw [e] at this; simp at this; rw [this] at hlt; simp at hlt)
        have hltB : k < B.length := by have := HN.out; omega
        have c1 := hc1 k hlt
        have c2 := hc2 k hltB
        have eA : A.getD k 0 = A[k] := by simp [hlt]
        have eB : B.getD k 0 = B[k] := by simp [hltB]
        rw [eA] at c1
        rw [eB] at c2
        have HS : Hid (A[k] = B[k] → A.take (k + 1) = B.take (k + 1)) := Lib.hid fun e => by rw [List.take_succ_eq_append_getElem hlt, List.take_succ_eq_append_getElem hltB, HT.out, e]
        have HF : Hid (A[k] ≠ B[k] → sameB A B = false) := Lib.hid fun e => same_not fun h => e (by subst h; rfl)
        have hd1 : decide (k < A.length) = true := by simpa using hlt
        have hd2 : decide (k < B.length) = true := by simpa using hltB
        clear eA eB hc1 hc2 HA HB
        generalize A[k] = x at *
        generalize B[k] = y at *
        by_cases hxy : x = y
        · have HT' := Lib.hid (HS.out hxy)
          have e1 : (x != y) = false := by simp [hxy]
          clear hxy HS HF
          go_wp2_with fail
          go_quiet (fail)
          go_wp2_with fail
          go_roundw
          case rel => exact ⟨k + 1, _, by omega, by go_num, rfl, HT'⟩
          case measure => simp [intOf]; omega
        · have HF' := Lib.hid (HF.out hxy)
          have e1 : (x != y) = true := by simp [hxy]
          clear hxy HS HF
          go_wp2_with fail
          go_quiet (fail)
          go_wp2_with fail
          go_ret
          exact ⟨by (rw [HF'.out]; try rfl), m + nq, by rw [World.drewN_drewN]⟩
      · obtain rfl : k = A.length := by omega
        have HS := Lib.hid (same_of (A := A) (B := B) (by have := HT.out; rw [List.take_of_length_le (Nat.le_refl _), List.take_of_length_le (by rw [HN.out]; exact Nat.le_refl _)] at this; exact this))
        go_wp2_with fail
        go_ret
        exact ⟨by (rw [HS.out]; try rfl), m, rfl⟩
  · have HS := Lib.hid (same_not (A := A) (B := B) fun e => hn (by rw [e]))
    have hd : ((A.length : Int) != (B.length : Int)) = true := by simp; omega
    clear hn
    go_enter Tryz.func18, Tryz.ntmps18
    go_wp2_with fail
    go_ret
    exact ⟨by (rw [HS.out]; try rfl), 0, rfl⟩
end Go.Proofs.YtckdgniecdfedaaGreatDoor
