/- The walk of proof.number: it hands back the number that a word is, or 0 and false. -/
import Derived.Test.YtckdgniecdfedaaGreatDoorProg
import Derived.Test.YtckdgniecdfedaaGreatDoorLaw2
import Derived.WalkKit
import Derived.Lib.Hide
namespace Go.Proofs.YtckdgniecdfedaaGreatDoor
open Go.RowKit

def numV (l : List UInt8) : Value := match Tx.num l with
  | some n => .tuple #[.int .i64 n, .bool true]
  | none => .tuple #[.int .i64 0, .bool false]
theorem numV_none {l : List UInt8} (h : Tx.num l = none) : numV l = .tuple #[.int .i64 0, .bool false] := by simp [numV, h]
theorem numV_some {l : List UInt8} {n : Nat} (h : Tx.num l = some n) : numV l = .tuple #[.int .i64 n, .bool true] := by simp [numV, h]
theorem num_empty {l : List UInt8} (h : l.length = 0) : Tx.num l = none := by
  rw [List.length_eq_zero_iff] at h; subst h; rfl
theorem num_long {l : List UInt8} (h : 5 < l.length) : Tx.num l = none := by
  unfold Tx.num
  rw [if_neg]
  simp; intro _; omega
theorem num_zero {l : List UInt8} (h1 : 1 < l.length) (h : l.head? = some 48) : Tx.num l = none := by
  unfold Tx.num
  rw [if_neg]
  have : (l.length == 1) = false := by simp; omega
  simp [Tx.canon, h, this]
theorem num_bad {l : List UInt8} {k : Nat} (hk : k < l.length) (h : Tx.dig l[k] = false) : Tx.num l = none := by
  unfold Tx.num
  rw [if_neg]
  intro hc
  simp only [Tx.canon, Bool.and_eq_true] at hc
  have := List.all_eq_true.1 hc.1.1.2 l[k] (List.getElem_mem hk)
  rw [h] at this; cases this
theorem num_good {l : List UInt8} (h0 : l.length ≠ 0) (h5 : l.length ≤ 5) (hd : l.all Tx.dig = true) (hz : l.length = 1 ∨ l.head? ≠ some 48) : Tx.num l = some (Tx.val l) := by
  unfold Tx.num
  rw [if_pos]
  have : l ≠ [] := fun e => h0 (by rw [e]; rfl)
  simp only [Tx.canon, hd, Bool.and_eq_true, Bool.or_eq_true, decide_eq_true_eq]
  refine ⟨⟨⟨by simp [this], trivial⟩, ?_⟩, h5⟩
  rcases hz with h | h
  · exact .inl (by simp [h])
  · exact .inr (by simp [h])
theorem val_take {l : List UInt8} {k : Nat} (hk : k < l.length) : Tx.val (l.take (k + 1)) = 10 * Tx.val (l.take k) + (l[k].toNat - 48) := by
  rw [List.take_succ_eq_append_getElem hk, Tx.val_snoc]
theorem all_take {l : List UInt8} {k : Nat} (hk : k < l.length) (h : (l.take k).all Tx.dig = true) (hd : Tx.dig l[k] = true) : (l.take (k + 1)).all Tx.dig = true := by
  rw [List.take_succ_eq_append_getElem hk, List.all_append, h]; simp [hd]
theorem val_bound {l : List UInt8} {k : Nat} (h : (l.take k).all Tx.dig = true) (hk : k ≤ 5) : Tx.val (l.take k) < 100000 := by
  have h1 := Tx.val_lt _ h
  have h2 : (l.take k).length ≤ 5 := Nat.le_trans (List.length_take_le _ _) hk
  have h3 : 10 ^ (l.take k).length ≤ 10 ^ 5 := Nat.pow_le_pow_right (by omega) h2
  omega

theorem z48 {c : UInt8} (h : some c = some (48 : UInt8)) : (c.toNat : Int) = 48 := by injection h with h; subst h; rfl
theorem bytes_get (s : ByteArray) (k : Nat) (_h : k < s.size) (h' : k < s.data.toList.length) : s.data.toList[k] = s[k] := rfl
set_option maxHeartbeats 1000000 in
theorem number_any (s : ByteArray) (w : World) (hs : s.size ≤ 1000000) :
    Calls Tryz.prog 43 #[.string s] w fun e w' => e = .returned (numV s.data.toList) ∧ w = w' := by
  have hl : s.data.toList.length = s.size := Array.length_toList
  by_cases h0 : s.size = 0
  · have HN := Lib.hid (numV_none (num_empty (hl.trans h0)))
    have h0' : s.size < 1 := by omega
    clear hl h0
    go_enter Tryz.func43, Tryz.ntmps43
    go_wp2_with fail
    go_ret2
    exact ⟨by rw [HN.out]; rfl, rfl⟩
  by_cases h5 : 5 < s.size
  · have HN := Lib.hid (numV_none (num_long (by rw [hl]; exact h5)))
    clear hl
    go_enter Tryz.func43, Tryz.ntmps43
    go_wp2_with fail
    go_ret2
    exact ⟨by rw [HN.out]; rfl, rfl⟩
  have hp : 0 < s.size := by omega
  have e0 : s.data.toList.head? = some s[0] := by
    rw [List.head?_eq_getElem?, List.getElem?_eq_getElem (by omega)]
    rfl
  have HL := Lib.hid hl
  have H0 := Lib.hid e0
  have H5 := Lib.hid h5
  clear hl e0 h0 h5
  by_cases hz : (s[0].toNat : Int) = 48 ∧ 1 < s.size
  · obtain ⟨hz, h1⟩ := hz
    have HN := Lib.hid (numV_none (num_zero (by rw [HL.out]; exact h1) (by rw [H0.out]; congr 1; rw [← UInt8.toNat_inj]; exact Int.ofNat.inj hz)))
    have h5 := H5.out
    have h1' : 1 ≤ s.size := by omega
    go_enter Tryz.func43, Tryz.ntmps43
    go_wp2_with fail
    go_ret2
    exact ⟨by rw [HN.out]; rfl, rfl⟩
  have h5 : s.size ≤ 5 := by have := H5.out; omega
  have h1 : 1 ≤ s.size := hp
  have HZ := Lib.hid hz
  clear hz
  go_enter Tryz.func43, Tryz.ntmps43
  go_wp2_with fail
  all_goals first
    | (exfalso; have := HZ.out; omega)
    | skip
  all_goals
    go_loop [4, 26] (fun n i => ∃ k : Nat, k ≤ s.size ∧ i = .int .i64 k ∧ n = .int .i64 (Tx.val (s.data.toList.take k) : Nat) ∧ Hid ((s.data.toList.take k).all Tx.dig = true)) (fun _ i => s.size - (intOf i).toNat)
    case atStart => exact ⟨0, Nat.zero_le _, rfl, rfl, Lib.hid rfl⟩
    case round =>
      obtain ⟨k, hk, rfl, rfl, HA⟩ := hrel
      have hvb := val_bound HA.out (by omega)
      by_cases hlt : k < s.size
      · have HV := Lib.hid (val_take (l := s.data.toList) (k := k) (by rw [HL.out]; exact hlt))
        by_cases hd : 48 ≤ (s[k].toNat : Int) ∧ (s[k].toNat : Int) ≤ 57
        · obtain ⟨d0, d1⟩ := hd
          have HD := Lib.hid (all_take (l := s.data.toList) (k := k) (by rw [HL.out]; exact hlt) HA.out (by rw [bytes_get s k hlt]; simp only [Tx.dig, Bool.and_eq_true, decide_eq_true_eq]; omega))
          generalize Tx.val (s.data.toList.take k) = v at *
          go_wp2_with fail
          go_round
          case rel => exact ⟨k + 1, by omega, by go_num, by rw [HV.out, bytes_get s k hlt]; congr 1; omega, HD⟩
          case measure => simp [intOf]; omega
        · have HN := Lib.hid (numV_none (num_bad (l := s.data.toList) (k := k) (by rw [HL.out]; exact hlt) (by rw [bytes_get s k hlt]; simp only [Tx.dig, Bool.and_eq_false_iff, decide_eq_false_iff_not]; omega)))
          by_cases d0 : (s[k].toNat : Int) < 48
          · clear hd
            go_wp2_with fail
            go_ret2
            exact ⟨by rw [HN.out]; rfl, rfl⟩
          · have d1 : 57 < (s[k].toNat : Int) := by omega
            clear hd
            go_wp2_with fail
            go_ret2
            exact ⟨by rw [HN.out]; rfl, rfl⟩
      · obtain rfl : k = s.size := by omega
        have hall : s.data.toList.take s.size = s.data.toList := List.take_of_length_le (by rw [HL.out]; exact Nat.le_refl _)
        have HN := Lib.hid (numV_some (num_good (l := s.data.toList) (by rw [HL.out]; omega) (by rw [HL.out]; omega) (by have := HA.out; rw [hall] at this; exact this) (by
          rw [HL.out]
          by_cases h1 : s.size = 1
          · exact .inl h1
          · exact .inr fun e => HZ.out ⟨z48 (H0.out.symm.trans e), by omega⟩)))
        have HT := Lib.hid hall
        clear hall
        go_wp2_with fail
        go_ret2
        exact ⟨by rw [HN.out, HT.out]; rfl, rfl⟩
end Go.Proofs.YtckdgniecdfedaaGreatDoor
