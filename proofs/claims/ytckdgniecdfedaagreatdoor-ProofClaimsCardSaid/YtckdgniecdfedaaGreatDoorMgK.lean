/- The walks of the comparators of signals and spots. -/
import Derived.Test.YtckdgniecdfedaaGreatDoorMgF
import Derived.Laws.StructEq
import Derived.Test.YtckdgniecdfedaaGreatDoorMgJ
section
/- Two signals are compared. -/
namespace Go.Proofs.YtckdgniecdfedaaGreatDoor
open Go.RowKit
theorem Tryz.struct73 : Tryz.prog.underlying 73 = some (.struct (Tryz.prog.fieldsOf 73)) := by kernel_rfl
theorem Tryz.held73 : Tryz.prog.stoodInHeld 73 = false := by kernel_rfl
theorem Tryz.guard73 : Tryz.prog.eqGuardType Tryz.prog.depth 73 = false := by kernel_rfl
theorem Tryz.fields73 : (Tryz.prog.fieldsOf 73).toList.map (fun f => (f.name, f.type, f.offset)) = [("Name", 9, 0), ("Input", 4, 1), ("Size", 3, 2)] := by kernel_rfl
theorem run_eq73 (w : World) (a b : ByteArray) (p q : Bool) (m n : Int) :
    (Op.equalIn 10000 73 (.agg #[.string a, .bool p, .int .i64 m]) (.agg #[.string b, .bool q, .int .i64 n])).run Tryz.prog w = .ok ((a.toList == b.toList) && ((p == q) && (m == n))) w := by
  rw [show (10000 : Nat) = 9999 + 1 from rfl, run_equalIn_struct w 9999 73 _ _ Tryz.struct73 Tryz.held73]
  obtain ⟨f0, f1, f2, hl, h0, h1, h2⟩ : ∃ f0 f1 f2 : Field, (Tryz.prog.fieldsOf 73).toList = [f0, f1, f2] ∧ (f0.name, f0.type, f0.offset) = ("Name", 9, 0) ∧ (f1.name, f1.type, f1.offset) = ("Input", 4, 1) ∧ (f2.name, f2.type, f2.offset) = ("Size", 3, 2) := by
    have h := Tryz.fields73
    generalize (Tryz.prog.fieldsOf 73).toList = l at h
    rcases l with _ | ⟨f0, _ | ⟨f1, _ | ⟨f2, _ | ⟨f3, l⟩⟩⟩⟩
    · cases h
    · simp at h
    · simp at h
    · simp only [List.map_cons, List.map_nil, List.cons.injEq, and_true] at h
      exact ⟨f0, f1, f2, rfl, h.1, h.2.1, h.2.2⟩
    · simp at h
  rw [hl]
  simp only [Prod.mk.injEq] at h0 h1 h2
  obtain ⟨n0, t0, o0⟩ := h0
  obtain ⟨n1, t1, o1⟩ := h1
  obtain ⟨n2, t2, o2⟩ := h2
  simp only [Op.eqFields, n0, n1, n2, t0, t1, t2, o0, o1, o2]
  cases h3 : (a.toList == b.toList) <;> cases h4 : (p == q) <;> cases h5 : (m == n) <;>
  simp [part, go_sem, Tryz.underlying9, Tryz.underlying4, Tryz.underlying3, h3, h4, h5]
end Go.Proofs.YtckdgniecdfedaaGreatDoor
end
section
/- The walk of the comparator of signals. -/
namespace Go.Proofs.YtckdgniecdfedaaGreatDoor
open Go.RowKit

theorem eq73 (x y : Sg) : ((x.name.toList == y.name.toList) && ((x.input == y.input) && (x.size == y.size))) = true ↔ x = y := by
  cases x; cases y
  simp only [Bool.and_eq_true, beq_iff_eq, Sg.mk.injEq]
  exact ⟨fun ⟨h1, h2, h3⟩ => ⟨name_eq h1, h2, h3⟩, fun ⟨h1, h2, h3⟩ => ⟨by rw [h1], h2, h3⟩⟩
set_option maxRecDepth 100000 in
set_option maxHeartbeats 1000000 in
theorem same25 {v u : Value} {A B : List Sg} (w : World) (hA : SgV w v A) (hB : SgV w u B) : Calls Tryz.prog 25 #[v, u] w (Cmp w (A = B)) := by
  obtain ⟨a, c, rfl, la, hA⟩ := hA
  obtain ⟨b, d, rfl, lb, hB⟩ := hB
  have HA := Lib.hid hA
  have HB := Lib.hid hB
  clear hA hB
  by_cases hn : A.length = B.length
  case neg =>
    have hd : ((A.length : Int) != (B.length : Int)) = true := by simp; omega
    have HN := Lib.hid hn
    clear hn
    go_enter Tryz.func25, Tryz.ntmps25
    go_wp2_with fail
    go_ret
    exact ⟨_, rfl, ⟨fun h => (by cases h), fun h => absurd (by rw [h]) HN.out⟩, Below.refl _ _⟩
  have hd : ((A.length : Int) != (B.length : Int)) = false := by simp [hn]
  have HN := Lib.hid hn
  clear hn
  go_enter Tryz.func25, Tryz.ntmps25
  go_wp2_with fail
  go_loopw [5] (fun i wr => ∃ k m : Nat, k ≤ A.length ∧ i = .int .i64 k ∧ wr = w.drewN m ∧ Hid (A.take k = B.take k)) (fun i _ => A.length - (intOf i).toNat)
  case atStart => exact ⟨0, 0, Nat.zero_le _, rfl, rfl, Lib.hid rfl⟩
  case round =>
    obtain ⟨k, m, hk, rfl, rfl, HT⟩ := hrel
    by_cases hlt : k < A.length
    · have hltB : k < B.length := by have := HN.out; omega
      obtain ⟨b1, o1, rfl, hb1, hc⟩ := HA.out (fun e => by rw [e] at hlt; simp at hlt)
      obtain ⟨b2, o2, rfl, hb2, hc'⟩ := HB.out (fun e => by rw [e] at hltB; simp at hltB)
      obtain ⟨c0, c1, c2, c3⟩ := hc k hlt
      obtain ⟨d0, d1, d2, d3⟩ := hc' k hltB
      have hd1 : decide (k < A.length) = true := by simpa using hlt
      have hd2 : decide (k < B.length) = true := by simpa using hltB
      have HS : Hid (A[k] = B[k] → A.take (k + 1) = B.take (k + 1)) := Lib.hid fun e => by rw [List.take_succ_eq_append_getElem hlt, List.take_succ_eq_append_getElem hltB, HT.out, e]
      have HF : Hid (A[k] ≠ B[k] → A ≠ B) := Lib.hid fun e h => e (by subst h; rfl)
      clear hc hc' c3 d3
      generalize A[k] = x at *
      generalize B[k] = y at *
      have f3 := Tryz.guard73
      by_cases hxy : x = y
      · have he : ∀ w, (Op.equalIn 10000 73 (.agg #[.string x.name, .bool x.input, .int .i64 x.size]) (.agg #[.string y.name, .bool y.input, .int .i64 y.size])).run Tryz.prog w = .ok true w := fun w => by rw [run_eq73, (eq73 x y).2 hxy]
        have HT' := Lib.hid (HS.out hxy)
        clear hxy HS HF
        go_wp2_with fail
        go_quiet (fail)
        go_wp2_with fail
        go_roundw
        case rel => exact ⟨k + 1, m + nq, by omega, by go_num, rfl, HT'⟩
        case measure => simp [intOf]; omega
      · have he : ∀ w, (Op.equalIn 10000 73 (.agg #[.string x.name, .bool x.input, .int .i64 x.size]) (.agg #[.string y.name, .bool y.input, .int .i64 y.size])).run Tryz.prog w = .ok false w := fun w => by
          rw [run_eq73]
          cases h : ((x.name.toList == y.name.toList) && ((x.input == y.input) && (x.size == y.size))) with
          | false => rfl
          | true => exact absurd ((eq73 x y).1 h) hxy
        have HF' := Lib.hid (HF.out hxy)
        clear hxy HS HF
        go_wp2_with fail
        go_quiet (fail)
        go_wp2_with fail
        go_ret
        exact ⟨_, rfl, ⟨fun h => (by cases h), fun h => absurd h HF'.out⟩, below_drawn (below_drawn (Below.refl _ _) m) nq⟩
    · obtain rfl : k = A.length := by omega
      have HS : Hid (A = B) := Lib.hid (by have := HT.out; rw [List.take_of_length_le (Nat.le_refl _), List.take_of_length_le (by rw [HN.out]; exact Nat.le_refl _)] at this; exact this)
      go_wp2_with fail
      go_ret
      exact ⟨_, rfl, ⟨fun _ => HS.out, fun _ => rfl⟩, below_drawn (Below.refl _ _) _⟩
end Go.Proofs.YtckdgniecdfedaaGreatDoor
end
section
/- The walk of the comparator of spots. -/
namespace Go.Proofs.YtckdgniecdfedaaGreatDoor
open Go.RowKit

set_option maxRecDepth 100000 in
set_option maxHeartbeats 4000000 in
theorem spots32 {v u : Value} {A B : List Sp} (w : World) (hA : SpV w v A) (hB : SpV w u B) : Calls Tryz.prog 32 #[v, u] w (Cmp w (A = B)) := by
  obtain ⟨a, c, rfl, la, hA⟩ := hA
  obtain ⟨b, d, rfl, lb, hB⟩ := hB
  have HA := Lib.hid hA
  have HB := Lib.hid hB
  clear hA hB
  by_cases hn : A.length = B.length
  case neg =>
    have hd : ((A.length : Int) != (B.length : Int)) = true := by simp; omega
    have HN := Lib.hid hn
    clear hn
    go_enter Tryz.func32, Tryz.ntmps32
    go_wp2_with fail
    go_ret
    exact ⟨_, rfl, ⟨fun h => (by cases h), fun h => absurd (by rw [h]) HN.out⟩, Below.refl _ _⟩
  have hd : ((A.length : Int) != (B.length : Int)) = false := by simp [hn]
  have HN := Lib.hid hn
  clear hn
  go_enter Tryz.func32, Tryz.ntmps32
  go_wp2_with fail
  go_loopw [5] (fun i wr => ∃ k m : Nat, k ≤ A.length ∧ i = .int .i64 k ∧ wr = w.drewN m ∧ Hid (A.take k = B.take k)) (fun i _ => A.length - (intOf i).toNat)
  case atStart => exact ⟨0, 0, Nat.zero_le _, rfl, rfl, Lib.hid rfl⟩
  case round =>
    obtain ⟨k, m, hk, rfl, rfl, HT⟩ := hrel
    by_cases hlt : k < A.length
    case neg =>
      obtain rfl : k = A.length := by omega
      have HS : Hid (A = B) := Lib.hid (by have := HT.out; rw [List.take_of_length_le (Nat.le_refl _), List.take_of_length_le (by rw [HN.out]; exact Nat.le_refl _)] at this; exact this)
      go_wp2_with fail
      go_ret
      exact ⟨_, rfl, ⟨fun _ => HS.out, fun _ => rfl⟩, below_drawn (Below.refl _ _) _⟩
    have hltB : k < B.length := by have := HN.out; omega
    obtain ⟨b1, o1, rfl, hb1, hc⟩ := HA.out (fun e => by rw [e] at hlt; simp at hlt)
    obtain ⟨b2, o2, rfl, hb2, hc'⟩ := HB.out (fun e => by rw [e] at hltB; simp at hltB)
    obtain ⟨c0, c1, ⟨s1, c2, e2, l2⟩, c3, c4⟩ := hc k hlt
    obtain ⟨d0, d1, ⟨s2, d2, e3, l3⟩, d3, d4⟩ := hc' k hltB
    have hd1 : decide (k < A.length) = true := by simpa using hlt
    have hd2 : decide (k < B.length) = true := by simpa using hltB
    have HS : Hid (A[k] = B[k] → A.take (k + 1) = B.take (k + 1)) := Lib.hid fun e => by rw [List.take_succ_eq_append_getElem hlt, List.take_succ_eq_append_getElem hltB, HT.out, e]
    have HF : Hid (A[k] ≠ B[k] → A ≠ B) := Lib.hid fun e h => e (by subst h; rfl)
    have e2 := e2.drawn m
    have e3 := e3.drawn m
    have c0 : (w.drewN m).cell? _ = _ := c0
    have c1 : (w.drewN m).cell? _ = _ := c1
    have c2 : (w.drewN m).cell? _ = _ := c2
    have c3 : (w.drewN m).cell? _ = _ := c3
    have c4 : (w.drewN m).cell? _ = _ := c4
    have d0 : (w.drewN m).cell? _ = _ := d0
    have d1 : (w.drewN m).cell? _ = _ := d1
    have d2 : (w.drewN m).cell? _ = _ := d2
    have d3 : (w.drewN m).cell? _ = _ := d3
    have d4 : (w.drewN m).cell? _ = _ := d4
    generalize hwr : w.drewN m = wr at *
    have HWR := Lib.hid hwr
    clear hwr
    have q : ∀ p, Calls Tryz.prog 18 #[s1, s2] (wr.drewN p) fun e w' => e = .returned (.bool (sameB A[k].set B[k].set)) ∧ ∃ m', w' = (wr.drewN p).drewN m' := fun p => ints18 (wr.drewN p) (e2.drawn p) (e3.drawn p) l2 l3
    have HE2 := Lib.hid e2
    have HE3 := Lib.hid e3
    obtain ⟨as1, cs1, rfl, -⟩ := e2
    obtain ⟨as2, cs2, rfl, -⟩ := e3
    clear hc hc'
    generalize A[k] = x at *
    generalize B[k] = y at *
    by_cases hmach : x.mach = y.mach
    case neg =>
      have hf : (x.mach != y.mach) = true := by simpa using hmach
      have HF' := Lib.hid (HF.out (fun e => hmach (by rw [e])))
      clear HF HS q hmach
      go_wp2_with fail
      go_quiet (fail)
      go_wp2_with fail
      go_ret
      exact ⟨_, rfl, ⟨fun h => (by cases h), fun h => absurd h HF'.out⟩, by rw [← HWR.out]; exact below_drawn (below_drawn (Below.refl _ _) m) nq⟩
    have gmach : (x.mach != y.mach) = false := by simp [hmach]
    have Hmach := Lib.hid hmach
    clear hmach
    by_cases hmem : x.mem = y.mem
    case neg =>
      have hf : (x.mem != y.mem) = true := by simpa using hmem
      have HF' := Lib.hid (HF.out (fun e => hmem (by rw [e])))
      clear HF HS q hmem
      go_wp2_with fail
      go_quiet (fail)
      go_wp2_with fail
      go_ret
      exact ⟨_, rfl, ⟨fun h => (by cases h), fun h => absurd h HF'.out⟩, by rw [← HWR.out]; exact below_drawn (below_drawn (Below.refl _ _) m) nq⟩
    have gmem : (x.mem != y.mem) = false := by simp [hmem]
    have Hmem := Lib.hid hmem
    clear hmem
    by_cases hturn : x.turn = y.turn
    case neg =>
      have hf : (x.turn != y.turn) = true := by simpa using hturn
      have HF' := Lib.hid (HF.out (fun e => hturn (by rw [e])))
      clear HF HS q hturn
      go_wp2_with fail
      go_quiet (fail)
      go_wp2_with fail
      go_ret
      exact ⟨_, rfl, ⟨fun h => (by cases h), fun h => absurd h HF'.out⟩, by rw [← HWR.out]; exact below_drawn (below_drawn (Below.refl _ _) m) nq⟩
    have gturn : (x.turn != y.turn) = false := by simp [hturn]
    have Hturn := Lib.hid hturn
    clear hturn
    by_cases hrank : x.rank = y.rank
    case neg =>
      have hf : (x.rank != y.rank) = true := by simpa using hrank
      have HF' := Lib.hid (HF.out (fun e => hrank (by rw [e])))
      clear HF HS q hrank
      go_wp2_with fail
      go_quiet (fail)
      go_wp2_with fail
      go_ret
      exact ⟨_, rfl, ⟨fun h => (by cases h), fun h => absurd h HF'.out⟩, by rw [← HWR.out]; exact below_drawn (below_drawn (Below.refl _ _) m) nq⟩
    have grank : (x.rank != y.rank) = false := by simp [hrank]
    have Hrank := Lib.hid hrank
    clear hrank
    by_cases hset : x.set = y.set
    case neg =>
      have HF' := Lib.hid (HF.out (fun e => hset (by rw [e])))
      have e1 := same_not hset
      rw [e1] at q
      clear HF HS hset e1
      go_wp2_with fail
      go_quiet ((go_at_call 18; with_reducible exact Calls.quiet_of (q _)))
      go_wp2_with fail
      go_ret
      exact ⟨_, rfl, ⟨fun h => (by cases h), fun h => absurd h HF'.out⟩, by rw [← HWR.out]; exact below_drawn (below_drawn (Below.refl _ _) m) nq⟩
    have HT' := Lib.hid (HS.out (by
      cases x; cases y
      have h1 := Hmach.out
      have h2 := Hmem.out
      have h3 := Hturn.out
      have h4 := Hrank.out
      simp only at h1 h2 h3 h4 hset
      rw [h1, h2, h3, h4, hset]))
    have e1 := same_of hset
    rw [e1] at q
    clear HF HS hset e1
    go_wp2_with fail
    go_quiet ((go_at_call 18; with_reducible exact Calls.quiet_of (q _)))
    go_wp2_with fail
    go_roundw
    case rel => exact ⟨k + 1, m + nq, by omega, by go_num, by rw [← HWR.out, World.drewN_drewN], HT'⟩
    case measure => simp [intOf]; omega
end Go.Proofs.YtckdgniecdfedaaGreatDoor
end
