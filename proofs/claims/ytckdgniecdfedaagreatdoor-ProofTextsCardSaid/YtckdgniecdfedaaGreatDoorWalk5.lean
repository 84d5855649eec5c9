/- The walk of proof.Text: it hands back the text of a certificate whose numbers can be written. -/
import Derived.Test.YtckdgniecdfedaaGreatDoorWalk4
import Derived.Test.YtckdgniecdfedaaGreatDoorLaw2
import Derived.Test.YtckdgniecdfedaaGreatDoorShelf
import Derived.Test.YtckdgniecdfedaaGreatDoorWalkB
import Derived.Lib.AppendIntMem
namespace Go.Proofs.YtckdgniecdfedaaGreatDoor
open Go.RowKit Go.Lib Go.Sort

theorem join_snoc : ∀ (l : List (List UInt8)) (w : List UInt8), l ≠ [] → Tx.join (l ++ [w]) = Tx.join l ++ 32 :: w
  | [], _, h => absurd rfl h
  | [a], w, _ => rfl
  | a :: b :: l, w, _ => by
    have := join_snoc (b :: l) w (by simp)
    simp only [List.cons_append] at this ⊢
    simp only [Tx.join, this, List.append_assoc, List.cons_append]
def pre (ns : List Nat) (k : Nat) : List UInt8 := Tx.join ((ns.take k).map decDigits)
theorem pre_zero (ns : List Nat) : pre ns 0 = [] := rfl
theorem pre_one (n : Nat) (ns : List Nat) : pre (n :: ns) 1 = decDigits n := by simp [pre, Tx.join]
theorem pre_succ (ns : List Nat) (k : Nat) (h0 : k ≠ 0) (h : k < ns.length) : pre ns (k + 1) = pre ns k ++ 32 :: decDigits ns[k] := by
  unfold pre
  rw [List.take_succ_eq_append_getElem h, List.map_append, List.map_singleton, join_snoc]
  intro e
  have h1 := congrArg List.length e
  rw [List.length_map, List.length_take, List.length_nil] at h1
  omega
theorem pre_len (ns : List Nat) : ∀ k, k ≤ ns.length → (∀ n ∈ ns, n ≤ 99999) → (pre ns k).length ≤ 6 * k
  | 0, _, _ => by simp [pre, Tx.join]
  | 1, h, hn => by
    match ns, h with
    | n :: ns, _ =>
      rw [pre_one]
      have := Tx.dec_len (hn n (by simp))
      omega
  | k + 2, h, hn => by
    rw [pre_succ ns (k + 1) (by omega) (by omega), List.length_append, List.length_cons]
    have h1 := pre_len ns (k + 1) (by omega) hn
    have h2 := Tx.dec_len (hn ns[k + 1] (List.getElem_mem _))
    omega
theorem byteCells_append (a b : List UInt8) : byteCells (a ++ b) = byteCells a ++ byteCells b := by simp [byteCells]

theorem builder_same {T e : TypeId} {B b : Nat} {bs : List Value} {w w' : World} (h : IsBuilder T e B b bs w) (hk : ∀ k, k < w.heap.size → w'.heap[k]? = w.heap[k]?) : IsBuilder T e B b bs w' := by
  have one : ∀ p, BuilderAt T e B b p bs w → BuilderAt T e B b p bs w' := fun p h => by
    obtain ⟨hB, v, hb, hown, hne⟩ := h
    have lt : ∀ {k : Nat} {o : Obj}, w.heap[k]? = some o → k < w.heap.size := fun {k o} h => by
      rcases Nat.lt_or_ge k w.heap.size with h' | h'
      · exact h'
      · rw [Array.getElem?_eq_none h'] at h; cases h
    refine ⟨hB, v, (hk b (lt hb)).trans hb, ⟨hown.1, ?_⟩, hne⟩
    rcases hown.2 with h | ⟨g, cap, cur, e1, hg, hh, h⟩
    · exact .inl h
    · exact .inr ⟨g, cap, cur, e1, hg, (hk g (lt hh)).trans hh, h⟩
  rcases h with h | h
  · exact .inl (one _ h)
  · exact .inr (one _ h)
theorem below_grow (w : World) (k : Nat) (os : Array Obj) : Below w.heap.size w (grow (w.drewN k) os) :=
  ⟨rfl, rfl, rfl, by show _ ≤ (w.heap ++ os).size; rw [Array.size_append]; omega, fun i hi => by show (w.heap ++ os)[i]? = _; rw [Array.getElem?_append_left hi]⟩

theorem Tryz.info30 : (Tryz.prog.info? 30).map (fun i => (i.zero, i.size, i.bytes)) = some (some (.agg #[.slice none 0 0, .int .i64 0]), 2, 32) := by kernel_rfl
abbrev Pow (B : Nat) (w : World) : Prop := TabBelow Tryz.prog B w "internal/strconv.uint64pow10" .u64 pow10Tab
abbrev ints (ns : List Nat) : List Int := ns.map (fun (n : Nat) => (n : Int))


theorem Pow.keep {B C : Nat} {w w1 : World} (h : Pow B w) (hb : Below C w w1) (hC : B ≤ C) : Pow B w1 := h.on (hb.mono hC)
theorem Pow.now {B : Nat} {w : World} (h : Pow B w) : TabIs Tryz.prog w "internal/strconv.uint64pow10" .u64 pow10Tab := h.here
theorem itoa_nat (n : Nat) : itoa (n : Int) = decDigits n := by
  unfold itoa
  rw [if_neg (by omega)]
  rfl
theorem itoa_any (n : Nat) (hn : n ≤ 99999) (B : Nat) (w : World) (hP : Pow B w) : Calls Tryz.prog 47 #[.int .i64 (n : Int)] w fun e w' => e = .returned (.string ⟨(decDigits n).toArray⟩) ∧ Below w.heap.size w w' :=
  (Tryz.strconv_Itoa (n : Int) (by omega) (by omega) w hP.now).mono fun e w' ⟨he, k, os, hw⟩ => by
    rw [itoa_nat] at he
    exact ⟨he, by rw [hw]; exact below_grow w k os⟩
theorem strCells_mk (l : List UInt8) : strCells ⟨l.toArray⟩ = byteCells l := rfl

set_option maxRecDepth 100000 in
set_option maxHeartbeats 1600000 in
theorem text_any {v : Value} (sd : Nat) (ns : List Nat) (w : World) (hV : Nums w v (ints ns)) (hl : ns.length ≤ 1000000) (h0 : sd ≤ 99999) (hn : ∀ n ∈ ns, n ≤ 99999) (hP : Pow w.heap.size w) :
    Calls Tryz.prog 12 #[.agg #[v, .int .i64 sd]] w fun e w' => e = .returned (.string ⟨(Tx.text sd ns).toArray⟩) ∧ Below w.heap.size w w' := by
  obtain ⟨a, c, rfl, hV⟩ := hV
  rw [List.length_map] at hV ⊢
  have HV := Lib.hid hV
  have HN := Lib.hid hn
  clear hV hn
  go_enter Tryz.func12, Tryz.ntmps12
  go_wp2_with fail
  have hb0 := fresh_isBuilder 96 5 (w.alloc (.cells #[.slice a ns.length c, .int .i64 sd] 30))
  have c0 : ((w.alloc (.cells #[.slice a ns.length c, .int .i64 sd] 30)).alloc (.cells #[.pointer none, .slice none 0 0] 96)).cell? ⟨w.heap.size, 0, none⟩ = some (.slice a ns.length c) := by
    rw [World.cell?_alloc_past _ _ _ (by simp), World.cell?_alloc_at _ _ _ _ rfl]; rfl
  have c1 : ((w.alloc (.cells #[.slice a ns.length c, .int .i64 sd] 30)).alloc (.cells #[.pointer none, .slice none 0 0] 96)).cell? ⟨w.heap.size, 1, none⟩ = some (.int .i64 sd) := by
    rw [World.cell?_alloc_past _ _ _ (by simp), World.cell?_alloc_at _ _ _ _ rfl]; rfl
  have hz : ((w.alloc (.cells #[.slice a ns.length c, .int .i64 sd] 30)).alloc (.cells #[.pointer none, .slice none 0 0] 96)).heap.size = w.heap.size + 2 := by simp
  have hB1 : Below w.heap.size w ((w.alloc (.cells #[.slice a ns.length c, .int .i64 sd] 30)).alloc (.cells #[.pointer none, .slice none 0 0] 96)) := ((Below.refl _ _).alloc (Nat.le_refl _) _).alloc (by simp) _
  rw [World.size_alloc] at hb0
  generalize (w.alloc (.cells #[.slice a ns.length c, .int .i64 sd] 30)).alloc (.cells #[.pointer none, .slice none 0 0] 96) = w1 at *
  have HB0 := Lib.hid hb0
  clear hb0
  go_loopw [4] (fun i wr => ∃ k : Nat, k ≤ ns.length + 1 ∧ i = .int .i64 ((k : Int) - 1) ∧ Hid (IsBuilder 96 5 (w.heap.size + 1) (w.heap.size + 1) (byteCells (pre (sd :: ns) k)) wr) ∧ Below (w.heap.size + 1) w1 wr)
    (fun i _ => ns.length + 1 - (RowKit.intOf i + 1).toNat)
  case atStart => exact ⟨0, by omega, rfl, HB0, Below.refl _ _⟩
  case round =>
    obtain ⟨k, hk, hi, HB, hB⟩ := hrel
    have d0 := (hB.cell (p := ⟨w.heap.size, 0, none⟩) (Nat.lt_succ_self _)).trans c0
    have d1 := (hB.cell (p := ⟨w.heap.size, 1, none⟩) (Nat.lt_succ_self _)).trans c1
    have hzr := hB.size
    have HP := Lib.hid ((Pow.keep hP hB1 (Nat.le_refl _)).keep hB (by omega))
    clear c0 c1
    cases k with
    | zero =>
      simp at hi
      subst hi
      have e1 := pre_one sd ns
      go_wp2_with fail
      refine (itoa_any sd h0 _ wr HP.out).mono ?_
      rintro e w2 ⟨rfl, hb2⟩
      have HB2 := builder_same HB.out hb2.block
      have hz2 := hb2.size
      have HB2 := Lib.hid HB2
      have HL : Hid ((decDigits sd).length ≤ 5) := Lib.hid (Tx.dec_len h0)
      generalize decDigits sd = dd at *
      go_wp2_with fail
      refine (writeString_any (w.heap.size + 1) (w.heap.size + 1) _ ⟨dd.toArray⟩ w2 HB2.out (by have := HL.out; simp [pre, Tx.join, byteCells, ByteArray.size]; omega) (by omega)).mono ?_
      rintro e w3 ⟨rfl, hA, hb3⟩
      have HB3 : Hid (IsBuilder 96 5 (w.heap.size + 1) (w.heap.size + 1) (byteCells (pre (sd :: ns) (0 + 1))) w3) := Lib.hid (.inr (by rw [e1]; exact hA))
      clear hA e1 HB2
      go_wp2_with fail
      go_roundw
      case rel => exact ⟨0 + 1, by omega, rfl, HB3, (hB.trans (hb2.mono (by omega))).trans hb3⟩
      case measure => simp [RowKit.intOf]
    | succ j =>
      rw [show ((j + 1 : Nat) : Int) - 1 = (j : Int) by omega] at hi
      subst hi
      by_cases hlt : j < ns.length
      · obtain ⟨g, off, ea, hg, hc⟩ := HV.out (fun e => by have := congrArg List.length e; simp at this; rw [this] at hlt; simp at hlt)
        subst ea
        have hcj := hc j (by simpa using hlt)
        have eg : (ints ns).getD j 0 = (ns[j] : Int) := by
          rw [List.getD_eq_getElem?_getD, List.getElem?_map, List.getElem?_eq_getElem hlt]; rfl
        rw [eg] at hcj
        have hcr := ((hB.cell (p := ⟨g, off + j, none⟩) (show g < w.heap.size + 1 by omega)).trans (hB1.cell (p := ⟨g, off + j, none⟩) hg)).trans hcj
        have hnj : ns[j] ≤ 99999 := HN.out _ (List.getElem_mem hlt)
        have HE : Hid (pre (sd :: ns) (j + 1 + 1) = pre (sd :: ns) (j + 1) ++ 32 :: decDigits ns[j]) := Lib.hid (pre_succ (sd :: ns) (j + 1) (by omega) (by simpa using hlt))
        have HL : Hid ((pre (sd :: ns) (j + 1)).length ≤ 6 * (j + 1)) := Lib.hid (pre_len (sd :: ns) (j + 1) (by simp; omega) (fun n hn => (List.mem_cons.1 hn).elim (fun e => e ▸ h0) (HN.out n)))
        have HD : Hid ((decDigits ns[j]).length ≤ 5) := Lib.hid (Tx.dec_len hnj)
        have HI : Hid (∀ w', Pow w.heap.size w' → Calls Tryz.prog 47 #[.int .i64 (ns[j] : Int)] w' fun e w'' => e = .returned (.string ⟨(decDigits ns[j]).toArray⟩) ∧ Below w'.heap.size w' w'') := Lib.hid fun w' h => itoa_any ns[j] hnj w.heap.size w' h
        clear hc hcj eg
        generalize ns[j] = n at *
        generalize decDigits n = dd at *
        have hd1 : decide (j < ns.length) = true := by simpa using hlt
        go_wp2_with fail
        refine (writeByte_any (w.heap.size + 1) (w.heap.size + 1) _ 32 wr HB.out (by have := HL.out; simp [byteCells]; omega) (by omega)).mono ?_
        rintro e w2 ⟨rfl, hA, hb2⟩
        have HB2 : Hid (IsBuilder 96 5 (w.heap.size + 1) (w.heap.size + 1) (byteCells (pre (sd :: ns) (j + 1)) ++ [.int .u8 32]) w2) := Lib.hid (.inr hA)
        have hz2 := hb2.size
        have HP2 := Lib.hid (HP.out.keep hb2 (by omega))
        clear hA
        go_wp2_with fail
        refine (HI.out w2 HP2.out).mono ?_
        rintro e w3 ⟨rfl, hb3⟩
        have HB3 := Lib.hid (builder_same HB2.out hb3.block)
        have hz3 := hb3.size
        clear HB2
        go_wp2_with fail
        refine (writeString_any (w.heap.size + 1) (w.heap.size + 1) _ ⟨dd.toArray⟩ w3 HB3.out (by have := HL.out; have := HD.out; simp [byteCells, ByteArray.size]; omega) (by omega)).mono ?_
        rintro e w4 ⟨rfl, hA, hb4⟩
        have HB4 : Hid (IsBuilder 96 5 (w.heap.size + 1) (w.heap.size + 1) (byteCells (pre (sd :: ns) (j + 1 + 1))) w4) := Lib.hid (.inr (by
          rw [HE.out, byteCells_append]
          have : byteCells (32 :: dd) = [.int .u8 32] ++ strCells ⟨dd.toArray⟩ := rfl
          rw [this, ← List.append_assoc]
          exact hA))
        clear hA HB3
        go_wp2_with fail
        go_roundw
        case rel => exact ⟨j + 1 + 1, by omega, by go_num, HB4, ((hB.trans hb2).trans (hb3.mono (by omega))).trans hb4⟩
        case measure => simp [RowKit.intOf]; omega
      · obtain rfl : j = ns.length := by omega
        have HT : Hid (pre (sd :: ns) (ns.length + 1) = Tx.text sd ns) := Lib.hid (by unfold pre Tx.text; rw [List.take_of_length_le (by simp)])
        go_wp2_with fail
        refine (Tryz.Builder_String_any (w.heap.size + 1) (w.heap.size + 1) _ wr HB.out (by omega)).mono ?_
        rintro e w2 ⟨rfl, hb2⟩
        go_wp2_with fail
        go_ret
        exact ⟨by (rw [HT.out]; try rfl), hB1.trans ((hB.trans hb2).mono (by omega))⟩
end Go.Proofs.YtckdgniecdfedaaGreatDoor
