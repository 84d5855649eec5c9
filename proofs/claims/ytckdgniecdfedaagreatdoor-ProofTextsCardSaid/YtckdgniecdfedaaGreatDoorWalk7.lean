/- The walk of strings.SplitSeq's iterator at a separator that is one blank: it hands over the words, one after the other. -/
import Derived.Test.YtckdgniecdfedaaGreatDoorRange
import Derived.Test.YtckdgniecdfedaaGreatDoorLaw2
import Derived.Test.YtckdgniecdfedaaGreatDoorShelf
import Derived.Shelf.Abstract
import Derived.Shelf.RegionOpen
import Derived.WalkKit
import Derived.OwnWalkIn
import Derived.TacticsInMore
import Derived.LoopNIn
import Derived.LoopIn
import Derived.Lib.IndexLaws
import Derived.WalkSpells
import Derived.Lib.Hide
namespace Go.Proofs.YtckdgniecdfedaaGreatDoor
open Go.RowKit Go.Shelf
attribute [local go_sem] Oper.semAt_some

/-! ### Words, one after the other -/
theorem split_none {l : List UInt8} (h : Lib.indexByte l 32 = -1) : Tx.split l = [l] :=
  Tx.split_word l fun hm => by
    obtain ⟨k, hk, e⟩ := List.getElem_of_mem hm
    exact Lib.indexByte_none h k (by rw [List.getElem?_eq_getElem hk, e])
theorem split_some {l : List UInt8} {i : Nat} (h : Lib.indexByte l 32 = i) : i < l.length ∧ Tx.split l = l.take i :: Tx.split (l.drop (i + 1)) := by
  obtain ⟨h1, h2⟩ := Lib.indexByte_some h
  have hi : i < l.length := by
    rcases Nat.lt_or_ge i l.length with h' | h'
    · exact h'
    · rw [List.getElem?_eq_none h'] at h1; cases h1
  refine ⟨hi, ?_⟩
  have e : l = l.take i ++ 32 :: l.drop (i + 1) := by
    rw [List.getElem?_eq_getElem hi] at h1
    injection h1 with h1
    conv => lhs; rw [← List.take_append_drop i l]
    rw [List.drop_eq_getElem_cons hi, h1]
  conv => lhs; rw [e]
  refine Tx.split_app _ _ fun hm => ?_
  obtain ⟨k, hk, e'⟩ := List.getElem_of_mem hm
  have hk' : k < i := by simp at hk; omega
  exact h2 k hk' (by rw [List.getElem?_eq_getElem (by omega)]; rw [List.getElem_take] at e'; rw [e'])

/-- what a round keeps: the iterator's three variables -/
def KpAt (B : Nat) (W W' : World) : Prop := ∀ k, B ≤ k → k < B + 3 → W'.heap[k]? = W.heap[k]?
theorem kpAt_t {B : Nat} {X Y Z : World} (h : KpAt B X Y) (k : KpAt B Y Z) : KpAt B X Z := fun i h1 h2 => (k i h1 h2).trans (h i h1 h2)

abbrev Word := { x : ByteArray // x.size ≤ 1000000 }
def words (s : ByteArray) (xs : List Word) : Prop := xs.map (·.1.data.toList) = Tx.split s.data.toList
def someWords (s : ByteArray) (xs : List Word) : Prop := xs.map (·.1.data.toList) <+: Tx.split s.data.toList
def enc1 (x : Word) : Array Value := #[.string x.1]

theorem one_cell {w : World} {b : Nat} {v : Value} {t : TypeId} (h : w.heap[b]? = some (.cells #[v] t (0, 0))) : w.cell? ⟨b, 0, none⟩ = some v ∧ w.frozen? ⟨b, 0, none⟩ = false := by
  constructor
  · simp [World.cell?, h]
  · simp [World.frozen?, h]
set_option maxHeartbeats 1600000 in
theorem split_stops (F : Fence) (n : Nat) (h158 : F.fn 158) (h160 : F.fn 160) (hro : F.round = none) (hn : 1 ≤ n) (B : Nat) (s : ByteArray) (w : World) (hs : s.size ≤ 1000000)
    (hI : ∀ (x : ByteArray) (w : World), CallsIn F (n - 1) Tryz.prog 160 #[.string x, .string ⟨#[32]⟩] w fun e w' => e = .returned (.int .i64 (Lib.indexByte x.data.toList 32)) ∧ w = w')
    (hb0 : w.heap[B]? = some (.cells #[.string s] 9 (0, 0))) (hb1 : w.heap[B + 1]? = some (.cells #[.string ⟨#[32]⟩] 9 (0, 0))) (hb2 : w.heap[B + 2]? = some (.cells #[.int .i64 0] 3 (0, 0))) :
    SeqStopsC B F n Tryz.prog 158 #[.pointer (some ⟨B + 1, 0, none⟩), .pointer (some ⟨B, 0, none⟩), .pointer (some ⟨B + 2, 0, none⟩)] enc1 (KpAt B) (words s) (someWords s) (Tx.split s.data.toList).length w := by
  intro l J Jx W hW hJ hJx hY h0
  have lt2 : B + 2 < w.heap.size := by
    rcases Nat.lt_or_ge (B + 2) w.heap.size with h | h
    · exact h
    · rw [Array.getElem?_eq_none h] at hb2; cases hb2
  have k0 := (hW.block B (by omega)).trans hb0
  have k1 := (hW.block (B + 1) (by omega)).trans hb1
  have k2 := (hW.block (B + 2) (by omega)).trans hb2
  have hsz := hW.size
  clear hb0 hb1 hb2
  obtain ⟨c0, f0⟩ := one_cell k0
  obtain ⟨c1, f1⟩ := one_cell k1
  obtain ⟨c2, f2⟩ := one_cell k2
  have K0 := Lib.hid k0
  have K1 := Lib.hid k1
  have K2 := Lib.hid k2
  have HY := Lib.hid hY
  have HI := Lib.hid hI
  clear k0 k1 k2 hY hI
  refine callsIn_of_wp Tryz.func158 rfl h158 ?_ hro
  simp only [Tryz.ntmps158, List.size_toArray, List.length_cons, List.length_nil, Nat.reduceAdd, Nat.reduceSub, Array.replicate_succ, Array.replicate_zero, List.push_toArray, List.append_toArray, List.nil_append, List.cons_append]
  gi_wp2
  clear c0 f0 c1 f1 c2 f2
  gi_loopw [7] (fun _ wr => ∃ (pre : List Word) (r : ByteArray), Hid (Tx.split s.data.toList = pre.map (·.1.data.toList) ++ Tx.split r.data.toList) ∧ r.size ≤ s.size ∧
      Hid (wr.heap[B]? = some (.cells #[.string r] 9 (0, 0))) ∧ Hid (wr.heap[B + 1]? = some (.cells #[.string ⟨#[32]⟩] 9 (0, 0))) ∧ Hid (wr.heap[B + 2]? = some (.cells #[.int .i64 0] 3 (0, 0))) ∧ Hid (J pre wr))
    (fun _ wr => match wr.cell? ⟨B, 0, none⟩ with | some (.string r) => r.size | _ => 0)
  case atStart => exact ⟨[], s, Lib.hid rfl, Nat.le_refl _, K0, K1, K2, Lib.hid h0⟩
  case round =>
    obtain ⟨pre, r, HS, hr, K0, K1, K2, HJ⟩ := hrel
    obtain ⟨c0, f0⟩ := one_cell K0.out
    obtain ⟨c1, f1⟩ := one_cell K1.out
    obtain ⟨c2, f2⟩ := one_cell K2.out
    by_cases hi : Lib.indexByte r.data.toList 32 = -1
    · have hsp := split_none hi
      have HI' := HI.out r
      rw [hi] at HI'
      have hlen : pre.length < (Tx.split s.data.toList).length := by rw [HS.out, hsp]; simp
      obtain ⟨fn, tmps, assign, body, hy, hR⟩ := HY.out pre ⟨r, by omega⟩ wr HJ.out hlen
      simp only [enc1] at hy
      have HR := Lib.hid hR
      clear hR hi
      gi_wp2_with (gi_at_call 160; refine (HI' _).mono ?_; rintro e w' ⟨rfl, rfl⟩)
      refine HR.out.mono ?_
      have e1 : (pre ++ [⟨r, by omega⟩] : List Word).map (·.1.data.toList) = Tx.split s.data.toList := by rw [HS.out, hsp]; simp
      rintro e W3 (⟨rfl, hJ3, hk3⟩ | ⟨rfl, hJx3⟩)
      · gi_wp2
        go_end0
        exact ⟨⟨_, rfl⟩, .inl ⟨_, e1, hJ3⟩⟩
      · gi_wp2
        go_end0
        exact ⟨⟨_, rfl⟩, .inr ⟨_, by unfold someWords; rw [e1]; exact List.prefix_refl _, hJx3⟩⟩
    · obtain ⟨i, hi⟩ : ∃ i : Nat, Lib.indexByte r.data.toList 32 = (i : Int) := ⟨(Lib.indexByte r.data.toList 32).toNat, by have := Lib.indexByte_ge r.data.toList 32; omega⟩
      obtain ⟨hil, hsp⟩ := split_some hi
      have hir : i < r.size := by have : r.data.toList.length = r.size := Array.length_toList; omega
      have HI' := HI.out r
      rw [hi] at HI'
      clear hi
      have hlen : pre.length < (Tx.split s.data.toList).length := by rw [HS.out, hsp]; simp
      have hxs : (r.extract 0 i).size ≤ 1000000 := by rw [ByteArray.size_extract]; omega
      obtain ⟨fn, tmps, assign, body, hy, hR⟩ := HY.out pre ⟨r.extract 0 i, hxs⟩ wr HJ.out hlen
      simp only [enc1] at hy
      have HR := Lib.hid hR
      clear hR
      have hi0 : (0 : Int) ≤ (i : Int) := by omega
      have hi1 : decide (i < r.size) = true := by simpa using hir
      have hi2 : i ≤ r.size := by omega
      gi_wp2_with (gi_at_call 160; refine (HI' _).mono ?_; rintro e w' ⟨rfl, rfl⟩)
      refine HR.out.mono ?_
      rintro e W3 (⟨rfl, hJ3, hk3⟩ | ⟨rfl, hJx3⟩)
      · have L0 := (hk3 B (Nat.le_refl _) (by omega)).trans K0.out
        have L1 := (hk3 (B + 1) (by omega) (by omega)).trans K1.out
        have L2 := (hk3 (B + 2) (by omega) (by omega)).trans K2.out
        obtain ⟨d0, g0⟩ := one_cell L0
        obtain ⟨d1, g1⟩ := one_cell L1
        have L0 := Lib.hid L0
        have L1 := Lib.hid L1
        have L2 := Lib.hid L2
        have HJ3 := Lib.hid hJ3
        have HJ4 := Lib.hid (hJ _ W3 (W3.setCell ⟨B, 0, none⟩ (.string (r.extract (i + 1) r.size))) (some B) HJ3.out ⟨rfl, rfl, rfl, by simp, fun k _ hk => heap_setCell_other W3 ⟨B, 0, none⟩ k _ (fun e => hk (by simp [e]))⟩ (fun r e => by cases e; exact .inl rfl))
        have M0 := Lib.hid (heap_setCell_same W3 B 0 _ 9 (.string (r.extract (i + 1) r.size)) L0.out)
        have M1 := Lib.hid ((heap_setCell_other W3 ⟨B, 0, none⟩ (B + 1) (.string (r.extract (i + 1) r.size)) (by simp)).trans L1.out)
        have M2 := Lib.hid ((heap_setCell_other W3 ⟨B, 0, none⟩ (B + 2) (.string (r.extract (i + 1) r.size)) (by simp)).trans L2.out)
        have HD : Hid ((r.extract (i + 1) r.size).data.toList = r.data.toList.drop (i + 1)) := Lib.hid (Lib.extract_to_end r (i + 1))
        have HT : Hid ((r.extract 0 i).data.toList = r.data.toList.take i) := Lib.hid (by rw [Lib.extract_data]; simp)
        have HZ : Hid ((r.extract (i + 1) r.size).size = r.size - (i + 1)) := Lib.hid (by rw [ByteArray.size_extract]; omega)
        have HSP := Lib.hid hsp
        have HC := Lib.hid c0
        clear hJ3 hk3 c0 f0 c1 f1 c2 f2 HR HJ hy hJ hJx hsp
        gi_wp2
        go_roundw
        case rel => exact ⟨pre ++ [⟨r.extract 0 i, hxs⟩], r.extract (i + 1) r.size, Lib.hid (by rw [HS.out, HSP.out, HD.out, List.map_append, List.map_singleton, HT.out, List.append_assoc]; rfl), by rw [HZ.out]; omega, M0, M1, M2, HJ4⟩
        case measure =>
          have e1 := (one_cell M0.out).1
          have e0 := HC.out
          simp only [e1, e0]
          have := HZ.out
          simp only [Array.setIfInBounds] at *
          omega
      · gi_wp2
        refine bodyPost_ret (results_none rfl _ _ _) rfl ?_
        exact ⟨⟨_, rfl⟩, .inr ⟨pre ++ [⟨r.extract 0 i, hxs⟩], by
          have HT : (r.extract 0 i).data.toList = r.data.toList.take i := by rw [Lib.extract_data]; simp
          refine ⟨Tx.split (r.data.toList.drop (i + 1)), ?_⟩
          rw [HS.out, hsp, List.map_append, List.map_singleton, HT, List.append_assoc]; rfl, hJx3⟩⟩
end Go.Proofs.YtckdgniecdfedaaGreatDoor
