/- The walks of Measure, of Region, and of the law. -/
import Derived.Test.YtckdgniecdfedaaGreatDoorRnG
import Derived.Test.YtckdgniecdfedaaGreatDoorRnH
import Derived.Test.YtckdgniecdfedaaGreatDoorRnF
import Derived.Test.YtckdgniecdfedaaGreatDoorRnE
import Derived.Test.YtckdgniecdfedaaGreatDoorRnA
import Derived.Laws.ResultCell
import Derived.Test.YtckdgniecdfedaaGreatDoorMgF
import Derived.Deep.RegionHeldLaw
import Derived.BigQuiet
section
/- The walk of Measure: the same game has the same measures. -/
namespace Go.Proofs.YtckdgniecdfedaaGreatDoor
open Go.RowKit

def mF (p : List Int) : Nat := ((greatF p + 1) / 2).toNat
theorem mF_eq (p : List Int) : (greatF p + 1) / 2 = mF p := by
  unfold mF
  have := (greatF_max p).1
  omega
/-- the measures of a game -/
def Measured (o p : List Int) (s : List (List Int)) (rows : List (List Int)) : Prop :=
  ∃ ca, Ran o p s (unitF (cntF (mF p) p)) (beN o.length s o.length) o.length ca ∧ ca.length = o.length ∧ rows = ca.map (writeF (cntF (mF p) p) (unitF (cntF (mF p) p)))
theorem Measured.one {o p : List Int} {s : List (List Int)} {r r' : List (List Int)} (h : Measured o p s r) (h' : Measured o p s r') : r = r' := by
  obtain ⟨ca, h1, _, rfl⟩ := h
  obtain ⟨ca', h2, _, rfl⟩ := h'
  rw [h1.one h2]
theorem digs_all {m : Int} (h0 : 0 ≤ m) : ∀ xs : List Int, (∀ x ∈ xs, 0 ≤ x ∧ x ≤ 3000) → ∀ d ∈ (digs xs m).1, 0 ≤ d ∧ d < 65520
  | [], _, d, hd => by simp [digs] at hd
  | x :: xs, h, d, hd => by
    simp only [digs] at hd
    have hx := h x (by simp)
    rcases List.mem_cons.1 hd with rfl | hd
    · have h1 := Int.emod_nonneg (digs xs m).2 (show x + 1 ≠ 0 by omega)
      have h2 := Int.emod_lt_of_pos (digs xs m).2 (show 0 < x + 1 by omega)
      omega
    · exact digs_all h0 xs (fun y hy => h y (by simp [hy])) d hd
theorem write_tiny {mo un : List Int} {m : Int} (h0 : 0 ≤ m) (hl : mo.length ≤ 20) (h : ∀ x ∈ mo, 0 ≤ x ∧ x ≤ 3000) : (writeF mo un m).length ≤ 20 ∧ ∀ d ∈ writeF mo un m, 0 ≤ d ∧ d < 65520 := by
  unfold writeF
  split
  · simp
  · split
    · simp
    · exact ⟨by rw [digs_len]; exact hl, digs_all h0 mo h⟩
theorem Clb.keep {w w' : World} {cb : Nat} {o p : List Int} {s : List (List Int)} {mo un ca : List Int} {be : List (List Int)} (h : Clb w cb o p s mo un ca be) (hlt : cb < w.heap.size) (hB : Below w.heap.size w w') : Clb w' cb o p s mo un ca be := by
  have hc : ∀ j, w'.cell? ⟨cb, j, none⟩ = w.cell? ⟨cb, j, none⟩ := fun j => hB.cell (p := ⟨cb, j, none⟩) hlt
  obtain ⟨⟨a0, d0, e0, f0⟩, ⟨a1, d1, e1, f1⟩, ⟨a2, d2, e2, f2⟩, ⟨a3, d3, e3, f3⟩, ⟨a4, d4, e4, f4⟩, ⟨a5, d5, e5, f5⟩, ⟨a6, d6, e6, f6⟩⟩ := h
  exact ⟨⟨a0, d0, (hc 0).trans e0, f0.keep hB⟩, ⟨a1, d1, (hc 1).trans e1, f1.keep hB⟩, ⟨a2, d2, (hc 2).trans e2, f2.keep hB⟩, ⟨a3, d3, (hc 3).trans e3, f3.keep hB⟩, ⟨a4, d4, (hc 4).trans e4, f4.keep hB⟩, ⟨a5, d5, (hc 5).trans e5, f5.keep hB⟩, ⟨a6, d6, (hc 6).trans e6, f6.keep hB⟩⟩

/-- a block of rows, filled as far as k -/
structure Wrt (wr : World) (rb n k : Nat) (rows : List (List Int)) (cs : List Value) : Prop where
  blk : wr.heap[rb]? = some (.cells cs.toArray 25 (0, 0))
  len : cs.length = n
  rows : ∀ i, i < k → ∃ a c, cs.getD i undef = .slice a (rows.getD i []).length c ∧ (rows.getD i []).length ≤ c ∧ c ≤ 9223372036854775807 ∧ Nums (dim (only rb) wr) (.slice a (rows.getD i []).length c) (rows.getD i [])
  rest : ∀ i, k ≤ i → i < n → cs.getD i undef = .slice none 0 0
theorem Wrt.made (w : World) (n : Nat) (rows : List (List Int)) : Wrt (w.alloc (.cells (madeCells #[.slice none 0 0] n) 25)) w.heap.size n 0 rows (List.replicate n (.slice none 0 0)) := by
  refine ⟨?_, List.length_replicate, fun i hi => absurd hi (Nat.not_lt_zero _), fun i _ hi => ?_⟩
  · rw [heap_alloc_new, made_nil]
  · simp [List.getD_eq_getElem?_getD, hi]
theorem Wrt.step {wr w2 : World} {rb n k : Nat} {rows : List (List Int)} {cs : List Value} (h : Wrt wr rb n k rows cs) (hk : k < n) {a : Option Addr} {c : Nat} (hB : Below wr.heap.size wr w2) (hn : Nums w2 (.slice a (rows.getD k []).length c) (rows.getD k [])) (h1 : (rows.getD k []).length ≤ c) (h2 : c ≤ 9223372036854775807) (ha : ∀ ad, a = some ad → wr.heap.size ≤ ad.block) :
    Wrt (w2.setCell ⟨rb, k, none⟩ (.slice a (rows.getD k []).length c)) rb n (k + 1) rows (cs.set k (.slice a (rows.getD k []).length c)) := by
  have hlt : rb < wr.heap.size := (Array.getElem?_eq_some_iff.1 h.blk).1
  have hb2 : w2.heap[rb]? = some (.cells cs.toArray 25 (0, 0)) := (hB.block rb hlt).trans h.blk
  have hF : Fr (only rb) w2.heap.size w2 (w2.setCell ⟨rb, k, none⟩ (.slice a (rows.getD k []).length c)) := (Fr.refl _ _ _).setCell (.inl (by simp [only])) _
  have hF0 : Fr (only rb) wr.heap.size wr (w2.setCell ⟨rb, k, none⟩ (.slice a (rows.getD k []).length c)) := (Fr.of_below hB).trans (hF.mono hB.size)
  have hkc : k < cs.length := by rw [h.len]; exact hk
  have hoth : ∀ i, i ≠ k → (cs.set k (.slice a (rows.getD k []).length c)).getD i undef = cs.getD i undef := fun i hi => by
    simp only [List.getD_eq_getElem?_getD]
    rw [List.getElem?_set_ne (Ne.symm hi)]
  refine ⟨?_, by rw [List.length_set, h.len], fun i hi => ?_, fun i hi hin => ?_⟩
  · rw [heap_setCell_same w2 rb k _ 25 _ hb2]
    simp
  · by_cases hik : i = k
    · subst hik
      refine ⟨a, c, by simp [List.getD_eq_getElem?_getD, hkc], h1, h2, Nums.later ?_ hF⟩
      refine hn.far (by rw [dim_size]; exact Nat.le_refl _) fun ad e => ?_
      have h3 := ha ad e
      rw [dim_get]
      have : only rb ad.block = false := by simp [only]; omega
      rw [this]
      cases w2.heap[ad.block]? <;> rfl
    · obtain ⟨a', c', e, g1, g2, g3⟩ := h.rows i (by omega)
      refine ⟨a', c', ?_, g1, g2, g3.later hF0⟩
      rw [hoth i hik, e]
  · rw [hoth i (by omega), h.rest i (by omega) hin]
theorem Wrt.cell {wr : World} {rb n k : Nat} {rows : List (List Int)} {cs : List Value} (h : Wrt wr rb n k rows cs) (hk : k < n) : wr.cell? ⟨rb, k, none⟩ = some (.slice none 0 0) ∧ wr.frozen? ⟨rb, k, none⟩ = false := by
  have hkc : k < cs.length := by rw [h.len]; exact hk
  have e := h.rest k (Nat.le_refl _) hk
  rw [List.getD_eq_getElem?_getD, List.getElem?_eq_getElem hkc] at e
  simp only [Option.getD_some] at e
  refine ⟨by simp [World.cell?, h.blk, hkc, e], by simp [World.frozen?, h.blk]⟩
theorem Wrt.done {wr : World} {rb n : Nat} {rows : List (List Int)} {cs : List Value} (h : Wrt wr rb n n rows cs) (hl : rows.length = n) (hn : n ≤ 3000) (hr : ∀ r ∈ rows, r.length ≤ 20) : RowsC wr (.slice (some ⟨rb, 0, none⟩) rows.length n) rows := by
  refine ⟨_, _, rfl, by omega, fun _ => ⟨rb, 0, rfl, (Array.getElem?_eq_some_iff.1 h.blk).1, fun j hj => ?_⟩⟩
  obtain ⟨a, c, e, g1, g2, g3⟩ := h.rows j (by omega)
  have eA : rows.getD j [] = rows[j] := by simp [hj]
  rw [eA] at e g1 g3
  refine ⟨by have := hr _ (List.getElem_mem hj); omega, a, c, ?_, g1, g2, g3.up⟩
  have hjc : j < cs.length := by rw [h.len]; omega
  rw [List.getD_eq_getElem?_getD, List.getElem?_eq_getElem hjc] at e
  simp only [Option.getD_some] at e
  simp [World.cell?, h.blk, hjc, e]

/-- the cells of a view, later -/
def HidCells (w2 w3 : World) (n m : Nat) (a0 a1 a2 : Option Addr) (c0 c1 c2 rb : Nat) : Prop := ∀ wr, Below (w2.heap.size + 1) w3 wr → ∀ j, wr.cell? ⟨w2.heap.size, j, none⟩ = #[Value.slice a0 n c0, .slice a1 n c1, .slice a2 n c2, .slice (some ⟨rb, 0, none⟩) m m][j]?
/-- what Measure hands back -/
def MeasOut (o p : List Int) (s : List (List Int)) (w : World) (e : Ending) (w' : World) : Prop :=
  ∃ (rows : List (List Int)) (a : Option Addr) (c : Nat), e = .returned (.tuple #[.slice a rows.length c, .int .i64 0]) ∧ RowsC w' (.slice a rows.length c) rows ∧ rows.length = o.length ∧ (∀ r ∈ rows, r.length ≤ 20 ∧ ∀ x ∈ r, 0 ≤ x ∧ x < 65520) ∧ Measured o p s rows ∧ Below w.heap.size w w'

set_option maxRecDepth 100000 in
set_option maxHeartbeats 8000000 in
theorem measure17 (w : World) (o p : List Int) (s : List (List Int)) (a0 a1 a2 : Option Addr) (c0 c1 c2 : Nat) (hno : Nums w (.slice a0 o.length c0) o) (hnp : Nums w (.slice a1 p.length c1) p) (hs : RowsC w (.slice a2 s.length c2) s) (hg : Good o p s) (hl : o.length ≤ 12) (h20 : ∀ r ∈ s, r.length ≤ 20) (hpb : ∀ x ∈ p, x ≤ 12) :
    Calls Tryz.prog 17 #[.agg #[.slice a0 o.length c0, .slice a1 p.length c1, .slice a2 s.length c2], .int .i64 0] w (MeasOut o p s w) := by
  obtain ⟨n, hn⟩ : ∃ n, o.length = n := ⟨_, rfl⟩
  have hpl : p.length = n := by have := hg.2.1; omega
  have hsl : s.length = n := by have := hg.2.2.1; omega
  rw [hn, hpl, hsl]
  obtain ⟨w1, e1, hs1, hb1, hc1⟩ := game_box w #[.slice a0 n c0, .slice a1 n c1, .slice a2 n c2] 39
  have hlk := look53 w1 o p s a0 a1 a2 c0 c1 c2 (hno.keep hb1) (hnp.keep hb1) (hs.keep hb1) hg (fun x hx => by have := hpb x hx; omega)
  simp only [hn, hpl, hsl] at hlk
  have HLK := Lib.hid hlk
  have HIN := Lib.hid (And.intro hno (And.intro hnp hs))
  have HLN := Lib.hid (And.intro hn (And.intro hpl hsl))
  have hn12 : n ≤ 12 := by omega
  have HG := Lib.hid hg
  have HPB := Lib.hid (And.intro h20 hpb)
  have HB := Lib.hid hb1
  have HS := Lib.hid hs1
  have E1 := Lib.hid e1
  have t0 := hc1 w1 (Below.refl _ _) 0
  have t1 := hc1 w1 (Below.refl _ _) 1
  have t2 := hc1 w1 (Below.refl _ _) 2
  simp only [List.getElem?_toArray, List.getElem?_cons_succ, List.getElem?_cons_zero] at t0 t1 t2
  have hmm : mF p ≤ 6 := by
    have h1 := greatF_le (M := 12) (by omega) p hpb
    have h2 := mF_eq p
    omega
  have HCND := Lib.hid (lite_cond hg hl h20 (mF_eq p))
  have HWRK := Lib.hid (lite_work hg hl (mF p))
  have HMO : Hid (∀ x ∈ cntF (mF p) p, 0 ≤ x ∧ x ≤ 3000) := Lib.hid fun x hx => by have := cntF_bd (mF p) p x hx; omega
  clear hno hnp hs hg h20 hpb e1 hs1 hb1 hc1 hlk hl hn hpl hsl
  go_enter Tryz.func17, Tryz.ntmps17
  go_upto_region 1 with fail
  rw [← E1.out]
  clear E1
  generalize Value.agg #[.slice a0 n c0, .slice a1 n c1, .slice a2 n c2] = v0
  generalize hbc : w.heap.size = bc at HS HB t0 t1 t2 ⊢
  have HBC := Lib.hid hbc
  clear hbc
  go_wp2_with fail
  refine HLK.out.mono ?_
  rintro e w2 ⟨rb, m, hm, rfl, hrow, hrb, hB2⟩
  obtain rfl : mF p = m := by have := mF_eq p; omega
  have HMF := Lib.hid (mF_eq p)
  have HBW2 : Hid (Below bc w w2) := Lib.hid (HB.out.trans (hB2.mono (by have := HS.out; omega)))
  have HROW := Lib.hid hrow
  generalize mF p = m at *
  clear hm t0 t1 t2 HLK hB2 hrow
  obtain ⟨w3, e3, hs3, hb3, hc3⟩ := game_box w2 #[.slice a0 n c0, .slice a1 n c1, .slice a2 n c2, .slice (some ⟨rb, 0, none⟩) m m] 109
  have E3 := Lib.hid e3
  have HS3 := Lib.hid hs3
  have HB3 := Lib.hid hb3
  have HC3 := Lib.hid hc3
  clear e3 hs3 hb3 hc3
  go_upto_region 2 with fail
  rw [← E3.out]
  clear E3
  have hcn : HidCells w2 w3 n m a0 a1 a2 c0 c1 c2 rb := fun wr h j => HC3.out wr h j
  have HCN := Lib.hid hcn
  clear hcn HC3
  have t0 := HCN.out w3 (Below.refl _ _) 0
  have t1 := HCN.out w3 (Below.refl _ _) 1
  have t2 := HCN.out w3 (Below.refl _ _) 2
  have t3 := HCN.out w3 (Below.refl _ _) 3
  simp only [List.getElem?_toArray, List.getElem?_cons_succ, List.getElem?_cons_zero] at t0 t1 t2 t3
  have HNM : Hid (∀ wr, Below w2.heap.size w2 wr → Nums wr (.slice (some ⟨rb, 0, none⟩) (cntF m p).length m) (cntF m p)) := Lib.hid fun wr h => (HROW.out.nums m).keep h
  have hwk := work54 w3 n n n (cntF m p) a0 a1 a2 (some ⟨rb, 0, none⟩) c0 c1 c2 m (by omega) (HNM.out w3 HB3.out) (by rw [cntF_len]; omega) (by have h := HWRK.out; rw [HLN.out.1] at h; exact h) HMO.out
  have hz : prodF n (cntF m p) ≤ 2000000 := by
    have h := (HWRK.out (cntF m p).length (Nat.le_refl _)).2
    rw [List.take_length, HLN.out.1] at h
    exact h
  rw [cntF_len] at hwk
  generalize prodF n (cntF m p) = z at *
  have hd : decide ((2000000 : Int) < z) = false := by simp; omega
  clear hz
  go_wp2_with fail
  refine hwk.mono ?_
  rintro e w4 ⟨rfl, hB4⟩
  have HB4 : Hid (Below (w2.heap.size + 1) w3 w4) := Lib.hid (hB4.mono (Nat.le_of_eq HS3.out.symm))
  have HBX4 : Hid (Below w2.heap.size w2 w4) := Lib.hid (HB3.out.trans (HB4.out.mono (by omega)))
  clear hB4 hwk t0 t1 t2 t3
  have t0 := HCN.out w4 HB4.out 0
  have t1 := HCN.out w4 HB4.out 1
  have t2 := HCN.out w4 HB4.out 2
  have t3 := HCN.out w4 HB4.out 3
  simp only [List.getElem?_toArray, List.getElem?_cons_succ, List.getElem?_cons_zero] at t0 t1 t2 t3
  have HBW4 : Hid (Below bc w w4) := Lib.hid (HBW2.out.trans (HBX4.out.mono (by have h1 := HBW2.out.size; have h2 := HBC.out; omega)))
  have HW4 : Hid (Below w.heap.size w w4) := Lib.hid (by rw [HBC.out]; exact HBW4.out)
  have hnc := newClimb55 w4 o p s (cntF m p) a0 a1 a2 (some ⟨rb, 0, none⟩) c0 c1 c2 m n m (HIN.out.1.keep HW4.out) (HIN.out.2.1.keep HW4.out) (HIN.out.2.2.keep HW4.out) (HNM.out w4 HBX4.out) HLN.out.1 HLN.out.2.1 HLN.out.2.2 (cntF_len _ _) (by omega) (by omega) HMO.out
    (fun x hx => by have := HCND.out.2 x hx; omega) (fun r hr => ⟨HPB.out.1 r hr, by have h := (HG.out.2.2.2.2.2 r hr).2; rw [HLN.out.1] at h; exact h⟩)
  go_wp2_with fail
  refine hnc.mono ?_
  rintro e w5 ⟨cb, cab, rfl, hcs, hrt, hcab, hcb, hB5⟩
  have hcond := HCND.out.1
  rw [HLN.out.1] at hcond
  have HCO := Lib.hid hcond
  have HCB : Hid (w4.heap.size ≤ cab ∧ w4.heap.size ≤ cb) := Lib.hid ⟨hcab, hcb⟩
  have HCS5 := Lib.hid hcs
  have HB5 := Lib.hid hB5
  have hrun := run56 (cb := cb) w5 hcond (by omega) (by omega) (by
    have h1 := HCND.out.2 _ (getD_mem hcond.ul)
    have h2 : (n : Int) * (unitF (cntF m p)).getD 0 0 ≤ n * 4096 := Int.mul_le_mul_of_nonneg_left h1.2 (by omega)
    omega) hcs hrt
  clear hnc t0 t1 t2 t3 hcs hrt hcab hcb hB5 hcond
  go_wp2_with fail
  refine hrun.mono ?_
  rintro e w6 ⟨rfl, ca, hran, hcl, hcbd, hrt, hfr⟩
  have HRAN := Lib.hid hran
  have HCL := Lib.hid hcl
  have HCBD := Lib.hid hcbd
  have HRT := Lib.hid hrt
  have HFR := Lib.hid hfr
  have HCS6 := Lib.hid (HCS5.out.later hfr)
  have t5 := HCS6.out.up.c5
  have HCLB := Lib.hid (HCS6.out.up.clb hrt hcl)
  have HLT := Lib.hid HCS6.out.up.lt
  have HB6 : Hid (Below bc w w6) := Lib.hid (by
    have h0 := HBW4.out.trans (HB5.out.mono (by have h1 := HBW4.out.size; have h2 := HBC.out; omega))
    refine ⟨hfr.os.trans h0.os, hfr.tape.trans h0.tape, hfr.output.trans h0.output, Nat.le_trans h0.size hfr.size, fun k hk => ?_⟩
    have h1 := HBW4.out.size
    have h2 := HBC.out
    have h3 := HCB.out
    rw [hfr.block k (by have := HB5.out.size; omega) (by simp [only]; omega)]
    exact h0.block k hk)
  have hmk25 := run_make_row' (P := Tryz.prog) 37 25 (.slice none 0 0) 24 Tryz.underlying37 Tryz.info25r rfl .i64 .i64 n (by omega) (by omega)
  have HRLEN : Hid ((ca.map (writeF (cntF m p) (unitF (cntF m p)))).length = n) := Lib.hid (by rw [List.length_map, hcl])
  have HRAT : Hid (∀ k, k < n → (ca.map (writeF (cntF m p) (unitF (cntF m p)))).getD k [] = writeF (cntF m p) (unitF (cntF m p)) (ca.getD k 0)) := Lib.hid fun k hk => by
    have hk' : k < ca.length := by rw [hcl]; exact hk
    simp [List.getD_eq_getElem?_getD, hk']
  have HMS : Hid (Measured o p s (ca.map (writeF (cntF m p) (unitF (cntF m p))))) := Lib.hid (by
    have e : mF p = m := by have := mF_eq p; have := HMF.out; omega
    unfold Measured
    rw [e, HLN.out.1]
    exact ⟨ca, hran, hcl, rfl⟩)
  have HTINY : Hid (∀ r ∈ ca.map (writeF (cntF m p) (unitF (cntF m p))), r.length ≤ 20 ∧ ∀ x ∈ r, 0 ≤ x ∧ x < 65520) := Lib.hid fun r hr => by
    obtain ⟨c, hc, rfl⟩ := List.mem_map.1 hr
    exact write_tiny (hcbd c hc).1 (by rw [cntF_len]; omega) HMO.out
  generalize hrows : ca.map (writeF (cntF m p) (unitF (cntF m p))) = rows at *
  have HW0 := Lib.hid (Wrt.made w6 n rows)
  have HBA : Hid (Below w6.heap.size w6 (w6.alloc (.cells (madeCells #[.slice none 0 0] n) 25))) := Lib.hid ((Below.refl _ _).alloc (Nat.le_refl _) _)
  clear hran hcl hcbd hrt hfr hrun
  go_upto_region 9 with fail
  clear hmk25 t5
  generalize w6.alloc (.cells (madeCells #[.slice none 0 0] n) 25) = w7 at *
  have t5 := (HBA.out.cell (p := ⟨cb, 5, none⟩) HLT.out).trans HCS6.out.up.c5
  generalize hrb6 : w6.heap.size = rbb at HW0 ⊢
  have HRBB := Lib.hid hrb6
  clear hrb6
  go_wp2_with fail
  clear t5
  go_loopw [10, 11, 38] (fun _ _ i wr => ∃ (k : Nat) (cs : List Value), i = .int .i64 k ∧ k ≤ n ∧ Hid (Wrt wr rbb n k rows cs) ∧ Hid (Below w6.heap.size w6 wr)) (fun _ _ i _ => n - (intOf i).toNat)
  case atStart => exact ⟨0, _, rfl, Nat.zero_le _, HW0, HBA⟩
  case round =>
    obtain ⟨k, cs, rfl, hk, HWR, HBR⟩ := hrel
    clear HW0 HBA
    by_cases hlt : k < n
    · have hd1 : decide (k < n) = true := by simpa using hlt
      have hki : (k : Int) < (n : Int) := by omega
      have hkc : k < ca.length := by rw [HCL.out]; exact hlt
      have tk := (HBR.out.cell (p := ⟨cab, k, none⟩) HRT.out.lt).trans (HRT.out.cell hkc)
      have hcb0 := HCBD.out _ (getD_mem hkc)
      have hwn := write57n (HCLB.out.keep HLT.out HBR.out) (Nat.lt_of_lt_of_le HLT.out HBR.out.size) HCO.out.ul (ca.getD k 0) hcb0.1 (by have := HCO.out.top; omega) HMO.out (by rw [cntF_len]; omega)
      rw [← HRAT.out k hlt] at hwn
      generalize ca.getD k 0 = cv at *
      obtain ⟨tb, tf⟩ := HWR.out.cell hlt
      clear hkc hcb0
      go_wp2_with fail
      refine hwn.mono ?_
      rintro e w8 ⟨a8, c8, rfl, hn8, hc8, hm8, hB8, ha8⟩
      have HST := Lib.hid (HWR.out.step hlt hB8 hn8 hc8 hm8 ha8)
      have hrlt : rbb < wr.heap.size := (Array.getElem?_eq_some_iff.1 HWR.out.blk).1
      have tb8 := (hB8.cell (p := ⟨rbb, k, none⟩) hrlt).trans tb
      have tf8 := (World.frozen?_of_block (w := wr) (w' := w8) (a := ⟨rbb, k, none⟩) (hB8.block _ hrlt)).trans tf
      have HB8 : Hid (∀ v, Below w6.heap.size w6 (w8.setCell ⟨rbb, k, none⟩ v)) := Lib.hid fun v => (HBR.out.trans (hB8.mono HBR.out.size)).setCell (show w6.heap.size ≤ rbb by rw [HRBB.out]; exact Nat.le_refl _) v
      clear hn8 hc8 hm8 hB8 ha8 hwn tb tf tk hrlt
      generalize (rows.getD k []).length = rl at *
      go_wp2_with fail
      go_roundw
      case rel => exact ⟨k + 1, _, by go_num, by omega, HST, Lib.hid (HB8.out _)⟩
      case measure => simp [intOf]; omega
    · obtain rfl : k = n := by omega
      have hd1 : decide (k < k) = false := by simp
      go_wp2_with fail
      refine bodyPost_ret (results_tmp2 rfl _ _ _) rfl ?_
      refine ⟨rows, some ⟨rbb, 0, none⟩, k, by rw [HRLEN.out]; rfl, HWR.out.done HRLEN.out (by omega) (fun r hr => (HTINY.out r hr).1), by rw [HRLEN.out, HLN.out.1], HTINY.out, HMS.out, ?_⟩
      rw [HBC.out]
      exact HB6.out.trans (HBR.out.mono (by have h1 := HB6.out.size; have h2 := HBC.out; omega))
end Go.Proofs.YtckdgniecdfedaaGreatDoor
end
section
/- The walk of proof.Region: the certificate of a light game. -/
namespace Go.Proofs.YtckdgniecdfedaaGreatDoor
open Go.RowKit

theorem Nums.otherCell {w : World} {X : Nat} {a : Option Addr} {n c : Nat} {l : List Int} (h : Nums w (.slice a n c) (3 :: l)) (hX : w.heap[X]? = some (.cells #[.slice none 0 0, .int .i64 0] 30 (0, 0))) : ∀ ad, a = some ad → ad.block ≠ X := by
  obtain ⟨a', c', e, h⟩ := h
  simp only [Value.slice.injEq] at e
  obtain ⟨rfl, -, rfl⟩ := e
  obtain ⟨b, o, e', hb, hc⟩ := h (by simp)
  intro ad e
  rw [e'] at e
  simp only [Option.some.injEq] at e
  subst e
  show b ≠ X
  intro hbx
  subst hbx
  have h0 := hc 0 (by simp)
  simp only [Nat.add_zero, List.getD_cons_zero] at h0
  unfold World.cell? at h0
  simp only [hX] at h0
  match o, h0 with
  | 0, h0 => simp at h0
  | 1, h0 => simp at h0
  | o + 2, h0 => simp at h0
theorem res16 {tmps : Array Value} {w : World} {g : Nat} {a b u : Value} (hp : tmps.getD 2 undef = .pointer (some ⟨g, 0, none⟩)) (hu : tmps.getD 3 undef = u) (h : w.heap[g]? = some (.cells #[a, b] 30 (0, 0))) :
    (results Tryz.f16 tmps).run Tryz.prog w = .ok (.tuple #[.agg #[a, b], u]) w := by
  have h0 : w.cell? ⟨g, 0, none⟩ = some a := by simp [World.cell?, h]
  have h1 : w.cell? ⟨g, 1, none⟩ = some b := by simp [World.cell?, h]
  rw [results_cell_tmp rfl, hp, hu]
  simp [asAddr, go_sem, h0, h1]
theorem region_end {tmps : Array Value} {w : World} {g : Nat} {a b u : Value} {R : Ending → World → Prop} (hp : tmps.getD 2 undef = .pointer (some ⟨g, 0, none⟩)) (hu : tmps.getD 3 undef = u) (h : w.heap[g]? = some (.cells #[a, b] 30 (0, 0)))
    (hR : R (.returned (.tuple #[.agg #[a, b], u])) w) : bodyPost Tryz.prog Tryz.f16 R .ret { tmps := tmps, defers := [] } w := bodyPost_ret (res16 hp hu h) rfl hR
/-- the certificate's two cells, stored -/
theorem stored2 {w wz : World} {X B : Nat} {a : Option Addr} {n c : Nat} {l : List Int} (z : Int) (hX : wz.heap[X]? = some (.cells #[.slice none 0 0, .int .i64 0] 30 (0, 0))) (hB : Below B w wz) (hBX : B ≤ X) (h : Nums wz (.slice a n c) (3 :: l)) :
    ((wz.setCell ⟨X, 0, none⟩ (.slice a n c)).setCell ⟨X, 1, none⟩ (.int .i64 z)).heap[X]? = some (.cells #[.slice a n c, .int .i64 z] 30 (0, 0)) ∧
    Nums ((wz.setCell ⟨X, 0, none⟩ (.slice a n c)).setCell ⟨X, 1, none⟩ (.int .i64 z)) (.slice a n c) (3 :: l) ∧
    Below B w ((wz.setCell ⟨X, 0, none⟩ (.slice a n c)).setCell ⟨X, 1, none⟩ (.int .i64 z)) := by
  have h1 := heap_setCell_same wz X 0 _ 30 (.slice a n c) hX
  have h2 := heap_setCell_same _ X 1 _ 30 (.int .i64 z) h1
  have ho := h.otherCell hX
  refine ⟨h2, h.far (by simp) fun ad e => ?_, (hB.setCell hBX _).setCell hBX _⟩
  rw [heap_setCell_other _ _ _ _ (ho ad e), heap_setCell_other _ _ _ _ (ho ad e)]

/-- what Region hands back -/
def RegOut (o p : List Int) (s : List (List Int)) (w : World) (e : Ending) (w' : World) : Prop :=
  ∃ rows, Measured o p s rows ∧ rows.length = o.length ∧ (∀ r ∈ rows, r.length ≤ 20 ∧ ∀ x ∈ r, 0 ≤ x ∧ x < 65520) ∧ Region w ⟨o, p, s, rows⟩ e w'

set_option maxRecDepth 100000 in
set_option maxHeartbeats 8000000 in
theorem region16 (w : World) (o p : List Int) (s : List (List Int)) (a0 a1 a2 : Option Addr) (c0 c1 c2 : Nat) (hno : Nums w (.slice a0 o.length c0) o) (hnp : Nums w (.slice a1 p.length c1) p) (hs : RowsC w (.slice a2 s.length c2) s) (hg : Good o p s) (hl : o.length ≤ 12) (h20 : ∀ r ∈ s, r.length ≤ 20) (hpb : ∀ x ∈ p, x ≤ 12) :
    Calls Tryz.prog 16 #[.agg #[.slice a0 o.length c0, .slice a1 p.length c1, .slice a2 s.length c2]] w (RegOut o p s w) := by
  obtain ⟨w1, e1, hs1, hb1, hc1⟩ := game_box w #[.slice a0 o.length c0, .slice a1 p.length c1, .slice a2 s.length c2] 39
  obtain ⟨w2, e2, hs2, hb2, hc2⟩ := game_box w1 #[.slice none 0 0, .int .i64 0] 30
  have hb12 : Below w.heap.size w w2 := hb1.trans (hb2.mono (by omega))
  have HM := Lib.hid (measure17 w2 o p s a0 a1 a2 c0 c1 c2 (hno.keep hb12) (hnp.keep hb12) (hs.keep hb12) hg hl h20 hpb)
  have HIN := Lib.hid (And.intro hno (And.intro hnp hs))
  have HG := Lib.hid (And.intro hg (And.intro hl (And.intro h20 hpb)))
  have HB := Lib.hid hb12
  have HS := Lib.hid (show w2.heap.size = w.heap.size + 1 + 1 by omega)
  have E1 := Lib.hid e1
  have E2 := Lib.hid e2
  have HC : Hid (∀ wr, Below (w.heap.size + 1 + 1) w2 wr → ∀ j, wr.cell? ⟨w.heap.size, j, none⟩ = #[Value.slice a0 o.length c0, .slice a1 p.length c1, .slice a2 s.length c2][j]?) := Lib.hid fun wr hB j =>
    hc1 wr ((hb2.mono (by omega)).trans (hB.mono (by omega))) j
  have HR : Hid (∀ wr, Below (w.heap.size + 1 + 1) w2 wr → wr.heap[w.heap.size + 1]? = some (.cells #[.slice none 0 0, .int .i64 0] 30 (0, 0))) := Lib.hid fun wr hB => by
    rw [hB.block _ (by omega), e2]
    have := heap_alloc_new w1 (.cells #[.slice none 0 0, .int .i64 0] 30)
    rw [hs1] at this
    exact this
  clear hno hnp hs hg hl h20 hpb e1 hs1 hb1 hc1 e2 hs2 hb2 hc2 hb12
  go_enter Tryz.func16, Tryz.ntmps16
  go_upto_region 1 with fail
  rw [← E1.out, ← E2.out]
  clear E1 E2
  generalize Value.agg #[.slice a0 o.length c0, .slice a1 p.length c1, .slice a2 s.length c2] = v0
  generalize hbc : w.heap.size = bc at HC HR HS HB ⊢
  have HBC := Lib.hid hbc
  clear hbc
  have t0 := HC.out w2 (Below.refl _ _) 0
  have t1 := HC.out w2 (Below.refl _ _) 1
  have t2 := HC.out w2 (Below.refl _ _) 2
  simp only [List.getElem?_toArray, List.getElem?_cons_succ, List.getElem?_cons_zero] at t0 t1 t2
  go_wp2_with fail
  refine HM.out.mono ?_
  rintro e w3 ⟨rows, ar, cr, rfl, hrw, hrl, htn, hms, hB3⟩
  have HX3 : Hid (Below (bc + 1 + 1) w2 w3) := Lib.hid (hB3.mono (Nat.le_of_eq HS.out.symm))
  have HW3 : Hid (Below w.heap.size w w3) := Lib.hid (by rw [HBC.out]; exact HB.out.trans (HX3.out.mono (by omega)))
  have HMS := Lib.hid (And.intro hms (And.intro hrl htn))
  have hen := encode_region w3 ⟨o, p, s, rows⟩ a0 a1 a2 ar c0 c1 c2 cr (HIN.out.1.keep HW3.out) (HIN.out.2.1.keep HW3.out) (HIN.out.2.2.keep HW3.out).rows hrw.rows
    ⟨HG.out.1.2.1, HG.out.1.2.2.1, hrl⟩
    ⟨by have := HG.out.2.1; show o.length ≤ 100; omega, fun x hx => by have := HG.out.1.2.2.2.1 x hx; omega, fun x hx => by have h1 := (HG.out.1.2.2.2.2.1 x hx).1; have h2 := HG.out.2.2.2 x hx; omega, fun r hr => ⟨HG.out.2.2.1 r hr, fun x hx => by have h1 := (HG.out.1.2.2.2.2.2 r hr).2 x hx; have h2 := HG.out.2.1; omega⟩, htn⟩
  clear hB3 t0 t1 t2 HM hrw hrl htn hms
  have t0 := HC.out w3 HX3.out 0
  have t1 := HC.out w3 HX3.out 1
  have t2 := HC.out w3 HX3.out 2
  simp only [List.getElem?_toArray, List.getElem?_cons_succ, List.getElem?_cons_zero] at t0 t1 t2
  go_wp2_with fail
  refine hen.mono ?_
  rintro e w4 ⟨hB4, az, ln, cz, rfl, hnz⟩
  have HX4 : Hid (Below (bc + 1 + 1) w2 w4) := Lib.hid (HX3.out.trans (hB4.mono (by have h1 := HX3.out.size; have h2 := HS.out; omega)))
  have r0 := HR.out w4 HX4.out
  have i0 : w4.cell? ⟨bc + 1, 0, none⟩ = some (.slice none 0 0) := by simp [World.cell?, r0]
  have i1 : w4.cell? ⟨bc + 1, 1, none⟩ = some (.int .i64 0) := by simp [World.cell?, r0]
  have h0 : w4.frozen? ⟨bc + 1, 0, none⟩ = false := by simp [World.frozen?, r0]
  have h1 : w4.frozen? ⟨bc + 1, 1, none⟩ = false := by simp [World.frozen?, r0]
  have HST := Lib.hid (stored2 (Sl.sl (3 :: Gm.code ⟨o, p, s, rows⟩)) r0 (HB.out.trans (HX4.out.mono (show bc ≤ bc + 1 + 1 by omega))) (show bc ≤ bc + 1 by omega) hnz)
  clear hB4 hen t0 t1 t2 hnz r0
  generalize hz : Sl.sl (3 :: Gm.code ⟨o, p, s, rows⟩) = z at *
  have HZ := Lib.hid hz
  clear hz
  go_wp2_with fail
  exact region_end rfl rfl HST.out.1 ⟨rows, HMS.out.1, HMS.out.2.1, HMS.out.2.2, ⟨by rw [HBC.out]; exact HST.out.2.2, az, ln, cz, by rw [HZ.out]; rfl, HST.out.2.1⟩⟩
end Go.Proofs.YtckdgniecdfedaaGreatDoor
end
section
/- The law ProofRegions, walked. -/
namespace Go.Proofs.YtckdgniecdfedaaGreatDoor
open Go.RowKit

theorem run_append_none (w : World) (av : Option Addr) (n cap c : Nat) (h : n ≤ cap) (ty : TypeId) : (Builtin.append_ #[25, 25] ty #[.slice av n cap, .slice none 0 c]).run Tryz.prog w = .ok (.slice av n cap) w := by
  cases av with
  | none => simp [Builtin.append_, go_sem, Tryz.sizeOf3, Builtin.firstCells, Builtin.lenOf, h]
  | some a => simp [Builtin.append_, go_sem, Tryz.sizeOf3, Builtin.firstCells, Builtin.lenOf, h, storeCells]
section
variable {w : World} {B : Nat} {v : Value} {A : List Int}
/-- append of any readable list onto a list of one's own -/
theorem wpList_append_any {ops : Array Oper} {rest : List Oper} {o : Oper} {a : Act} {Q : Exit → Act → World → Prop} (hgd : o.guard = none) (s x : Operand)
    (ho : o.op = .call { callee := .builtin .append, args := #[s, x], argTypes := #[25, 25] }) (hown : OwnN w B v A) (hs : a.eval s = v) (hBs : B ≤ w.heap.size) (ax : Option Addr) (c : Nat) (N : List Int) (hx : a.eval x = .slice ax N.length c) (hn : Nums w (.slice ax N.length c) N) (hl : A.length + N.length ≤ 1000000)
    (h : ∀ v' w', Hid (OwnN w' B v' (A ++ N)) → Hid (∀ B0 w0, Below B0 w0 w → B0 ≤ B → Below B0 w0 w') → wpList Tryz.prog ops Q rest (a.put o.dst v') w') : wpList Tryz.prog ops Q (o :: rest) a w := by
  cases ax with
  | none =>
    have hN : N = [] := by
      obtain ⟨a', c', e, hn⟩ := hn
      simp only [Value.slice.injEq, true_and] at e
      obtain ⟨rfl, -⟩ := e
      by_cases h0 : N = []
      · exact h0
      · obtain ⟨_, _, e, _⟩ := hn h0
        cases e
    subst hN
    obtain ⟨av, cv, rfl, hc1, _⟩ := hown.cap
    refine wpList_plain hgd fun K hK => ?_
    unfold Oper.wp execOp
    simp only [ho, resolve, invoke, builtin, Sem.run_bind, Sem.run_pure, Result.andThen_ok, List.map_toArray, List.map_cons, List.map_nil, hs, hx, List.length_nil, run_append_none w av A.length cv c hc1]
    exact hK _ _ (h _ _ (Lib.hid (by rw [List.append_nil]; exact hown)) (Lib.hid fun B0 w0 hB _ => hB))
  | some ad =>
    obtain ⟨i0, hi, hz0, hz1, hz2⟩ := info_parts Tryz.info3
    refine wpList_append_own _ hgd s x 25 ho B 3 i0 (.int .i64 0) 1 8 Tryz.underlying25 hi hz0 hz1 hz2 rfl (by decide) v A.length (A.map (Value.int .i64)) hs hown ad N.length c (N.map (Value.int .i64)) hx (by simp) ?_ ?_ (by unfold maxLen; omega) (by omega) hBs ?_
    · intro j u hj
      simp only [List.getElem?_map, Option.map_eq_some_iff] at hj
      obtain ⟨n, hn', rfl⟩ := hj
      have hlt : j < N.length := by
        rcases Nat.lt_or_ge j N.length with h' | h'
        · exact h'
        · rw [List.getElem?_eq_none h'] at hn'; cases hn'
      obtain ⟨b, o', e, hc⟩ := hn.at hlt
      simp only [Option.some.injEq] at e
      subst e
      rw [List.getD_eq_getElem?_getD, hn', Option.getD_some] at hc
      rcases Nat.eq_zero_or_pos j with rfl | h0
      · simpa [Addr.add] using hc
      · simpa [Addr.add, Nat.pos_iff_ne_zero.1 h0] using hc
    · intro u hu
      obtain ⟨n, _, rfl⟩ := List.mem_map.1 hu
      rfl
    · intro v' w' h1 h2 _
      exact h v' w' (Lib.hid (by unfold OwnN; simpa using h1)) (Lib.hid fun B0 w0 hB hle => hB.grown h2 (Nat.le_trans hle hBs) fun k hk => Nat.le_trans hle (World.ownsRow.lt hown k hk).1)
/-- append of numbers that were just made, as a step of a region that draws its order -/
theorem step_append_J {ops : Array Oper} {o : Oper} {a : Act} {K : Act → World → Prop} {Q : Exit → Act → World → Prop} {E : Prop} (hgd : o.guard = none) (s x : Operand)
    (ho : o.op = .call { callee := .builtin .append, args := #[s, x], argTypes := #[25, 25] }) (hown : OwnN w B v A) (hs : a.eval s = v) (hBs : B ≤ w.heap.size) (g c : Nat) (N : List Int) (hN : 0 < N.length) (hx : a.eval x = .slice (some ⟨g, 0, none⟩) N.length c) (hc : ∀ j, j < N.length → w.cell? ⟨g, j, none⟩ = some (.int .i64 (N.getD j 0))) (hl : A.length + N.length ≤ 1000000)
    (hK : ∀ v' w', Hid (OwnN w' B v' (A ++ N)) → Hid (∀ B0 w0, Below B0 w0 w → B0 ≤ B → Below B0 w0 w') → K (a.put o.dst v') w') :
    if Region.wanted o (yielded ops a.tmps) = true then Oper.wp Tryz.prog o a w K Q else E := by
  obtain ⟨i0, hi, hz0, hz1, hz2⟩ := info_parts Tryz.info3
  refine step_append_lies w hgd s x 25 ho B 3 i0 (.int .i64 0) 1 8 Tryz.underlying25 hi hz0 hz1 hz2 rfl (by decide) v A.length (A.map (Value.int .i64)) hs hown ⟨g, 0, none⟩ N.length c (N.map (Value.int .i64)) hx (by simp) ?_ ?_ hN (by unfold maxLen; omega) (by omega) hBs w.heap.size rfl ?_
  · intro j u hj
    simp only [List.getElem?_map, Option.map_eq_some_iff] at hj
    obtain ⟨n, hn', rfl⟩ := hj
    have hlt : j < N.length := by
      rcases Nat.lt_or_ge j N.length with h' | h'
      · exact h'
      · rw [List.getElem?_eq_none h'] at hn'; cases hn'
    have := hc j hlt
    rw [List.getD_eq_getElem?_getD, hn', Option.getD_some] at this
    rcases Nat.eq_zero_or_pos j with rfl | h0
    · simpa [Addr.add] using this
    · simpa [Addr.add, Nat.pos_iff_ne_zero.1 h0] using this
  · intro u hu
    obtain ⟨n, _, rfl⟩ := List.mem_map.1 hu
    rfl
  · intro g' cap w' h1 h2 _ _
    exact hK _ w' (Lib.hid (by unfold OwnN; simpa using h1)) (Lib.hid fun B0 w0 hB hle => hB.grown h2 (Nat.le_trans hle hBs) fun k hk => Nat.le_trans hle (World.ownsRow.lt hown k hk).1)
end
theorem OwnN.made2 (w : World) (x y : Int) : OwnN (w.alloc (.cells #[.int .i64 x, .int .i64 y] 3)) w.heap.size (.slice (some ⟨w.heap.size, 0, none⟩) 2 2) [x, y] :=
  ⟨rfl, .inr ⟨w.heap.size, 2, #[.int .i64 x, .int .i64 y], rfl, Nat.le_refl _, heap_alloc_new w _, Nat.le_refl _, by decide, rfl, rfl⟩⟩

/-- what is wanted, as far as k positions -/
def want1 (o p : List Int) (s : List (List Int)) (k : Nat) : List Int := [3, (o.length : Int)] ++ gps (o.take k) (p.take k) (s.take k)
theorem want1_succ {o p : List Int} {s : List (List Int)} {k : Nat} (h : k < o.length) (h' : k < p.length) (h'' : k < s.length) : want1 o p s (k + 1) = want1 o p s k ++ [o.getD k 0, p.getD k 0, ((s.getD k []).length : Int)] ++ s.getD k [] := by
  have e1 : o.getD k 0 = o[k] := by rw [List.getD_eq_getElem?_getD, List.getElem?_eq_getElem h]; rfl
  have e2 : p.getD k 0 = p[k] := by rw [List.getD_eq_getElem?_getD, List.getElem?_eq_getElem h']; rfl
  have e3 : s.getD k [] = s[k] := by rw [List.getD_eq_getElem?_getD, List.getElem?_eq_getElem h'']; rfl
  unfold want1
  rw [gps_snoc o p s k h h' h'', e1, e2, e3]
  simp [lst]
theorem want1_len {o p : List Int} {s : List (List Int)} (h12 : o.length ≤ 12) (h20 : ∀ r ∈ s, r.length ≤ 20) (k : Nat) : (want1 o p s k).length ≤ 300 := by
  have h := gps_len (o.take k) (p.take k) (s.take k) (fun r hr => h20 r (List.mem_of_mem_take hr))
  have h2 : (o.take k).length ≤ o.length := by rw [List.length_take]; omega
  unfold want1
  simp only [List.length_append, List.length_cons, List.length_nil]
  omega
def want2 (o p : List Int) (s rows : List (List Int)) (k : Nat) : List Int := want1 o p s o.length ++ lsts (rows.take k)
theorem want2_succ {o p : List Int} {s rows : List (List Int)} {k : Nat} (h : k < rows.length) : want2 o p s rows (k + 1) = want2 o p s rows k ++ [((rows.getD k []).length : Int)] ++ rows.getD k [] := by
  have e : rows.getD k [] = rows[k] := by rw [List.getD_eq_getElem?_getD, List.getElem?_eq_getElem h]; rfl
  unfold want2
  rw [e, List.take_succ_eq_append_getElem h, lsts_append]
  simp [lsts, lst]
theorem want2_len {o p : List Int} {s rows : List (List Int)} (h12 : o.length ≤ 12) (h20 : ∀ r ∈ s, r.length ≤ 20) (hr : rows.length = o.length) (hr20 : ∀ r ∈ rows, r.length ≤ 20) (k : Nat) : (want2 o p s rows k).length ≤ 600 := by
  have h := lsts_len (rows.take k) (fun r h => hr20 r (List.mem_of_mem_take h))
  have h2 : (rows.take k).length ≤ rows.length := by rw [List.length_take]; omega
  have h1 := want1_len (p := p) h12 h20 o.length
  unfold want2
  rw [List.length_append]
  omega
theorem want2_all {o p : List Int} {s rows : List (List Int)} : want2 o p s rows rows.length = 3 :: Gm.code ⟨o, p, s, rows⟩ := by
  unfold want2 want1
  rw [gps_take o p s o.length (.inl (Nat.le_refl _)), List.take_length]
  simp [Gm.code]
end Go.Proofs.YtckdgniecdfedaaGreatDoor
end
section
/- The walk of the law ProofRegions, given its head. -/
namespace Go.Proofs.YtckdgniecdfedaaGreatDoor
open Go.RowKit

theorem nums1 (w : World) (l : Int) : Nums (w.alloc (.cells #[.int .i64 l] 3)) (.slice (some ⟨w.heap.size, 0, none⟩) [l].length 1) [l] :=
  ⟨_, 1, rfl, fun _ => ⟨w.heap.size, 0, rfl, by simp, fun j hj => by
    have : j = 0 := by simp at hj; exact hj
    subst this
    exact cell_new w _ 3 0⟩⟩
theorem cells3 (w : World) (x y z : Int) : ∀ j, j < [x, y, z].length → (w.alloc (.cells #[.int .i64 x, .int .i64 y, .int .i64 z] 3)).cell? ⟨w.heap.size, j, none⟩ = some (.int .i64 ([x, y, z].getD j 0)) := fun j hj => by
  refine (cell_new w _ 3 j).trans ?_
  match j, hj with
  | 0, _ => rfl
  | 1, _ => rfl
  | 2, _ => rfl

set_option maxRecDepth 100000 in
set_option maxHeartbeats 8000000 in
theorem regions_any (W : World) (hh : ∀ w', Below W.heap.size W w' → HeadAt w') (o p : List Int) (s : List (List Int)) (a0 a1 a2 : Option Addr) (c0 c1 c2 : Nat) (hno : Nums W (.slice a0 o.length c0) o) (hnp : Nums W (.slice a1 p.length c1) p) (ho : o.length ≤ 9223372036854775807) (hp : p.length ≤ 9223372036854775807) (hs : RowsC W (.slice a2 s.length c2) s) :
    Calls Tryz.prog 5 #[.agg #[.slice a0 o.length c0, .slice a1 p.length c1, .slice a2 s.length c2]] W (Yes W) := by
  obtain ⟨w1, e1, hs1, hb1, hc1⟩ := game_box W #[.slice a0 o.length c0, .slice a1 p.length c1, .slice a2 s.length c2] 39
  have HH := Lib.hid (hh w1 hb1)
  have HIN := Lib.hid (And.intro hno (And.intro hnp hs))
  have HLO := Lib.hid (And.intro ho hp)
  have HB := Lib.hid hb1
  have HS := Lib.hid hs1
  have E1 := Lib.hid e1
  have HC : Hid (∀ wr, Below (W.heap.size + 1) w1 wr → ∀ j, wr.cell? ⟨W.heap.size, j, none⟩ = #[Value.slice a0 o.length c0, .slice a1 p.length c1, .slice a2 s.length c2][j]?) := Lib.hid hc1
  clear hno hnp hs ho hp e1 hs1 hb1 hc1 hh
  go_enter Tryz.func5, Tryz.ntmps5
  go_upto_region 1 with fail
  rw [← E1.out]
  clear E1
  generalize Value.agg #[.slice a0 o.length c0, .slice a1 p.length c1, .slice a2 s.length c2] = v0
  generalize hbc : W.heap.size = bc at HC HS HB ⊢
  have HBC := Lib.hid hbc
  clear hbc
  go_wp2_with fail
  refine HH.out.mono ?_
  rintro e w2 ⟨rfl, hB2⟩
  have HX2 : Hid (Below (bc + 1) w1 w2) := Lib.hid (hB2.mono (Nat.le_of_eq HS.out.symm))
  clear hB2 HH
  have HUP : Hid (∀ wr, Below (bc + 1) w1 wr → Below W.heap.size W wr) := Lib.hid fun wr h => by rw [HBC.out]; exact HB.out.trans (h.mono (by omega))
  have HSZ : Hid (∀ wr, Below (bc + 1) w1 wr → bc + 1 ≤ wr.heap.size) := Lib.hid fun wr h => by have h1 := h.size; have h2 := HS.out; omega
  have t0 := HC.out w2 HX2.out 0
  have t1 := HC.out w2 HX2.out 1
  have t2 := HC.out w2 HX2.out 2
  simp only [List.getElem?_toArray, List.getElem?_cons_succ, List.getElem?_cons_zero] at t0 t1 t2
  have hlt := light14 w2 o p s a0 a1 a2 c0 c1 c2 (HIN.out.1.keep (HUP.out w2 HX2.out)) (HIN.out.2.1.keep (HUP.out w2 HX2.out)) HLO.out.1 HLO.out.2 (HIN.out.2.2.keep (HUP.out w2 HX2.out))
    (fun hg hpb wr hB => by
      have h := (HUP.out w2 HX2.out).trans (hB.mono (HUP.out w2 HX2.out).size)
      exact view109_1 wr o p s a0 a1 a2 c0 c1 c2 (HIN.out.1.keep h) (HIN.out.2.1.keep h) hg.1 (by have := hg.1; have := hg.2.1; omega) (HIN.out.2.2.keep h) (fun x hx => by have := hpb x hx; omega) hg hpb)
  go_wp2_with fail
  refine hlt.mono ?_
  rintro e w3 ⟨c, rfl, hq, hB3⟩
  have HX3 : Hid (Below (bc + 1) w1 w3) := Lib.hid (HX2.out.trans (hB3.mono (HSZ.out w2 HX2.out)))
  have HQ := Lib.hid hq
  clear hB3 hq hlt t0 t1 t2
  by_cases hc : c = true
  case neg =>
    obtain rfl : c = false := by simpa using hc
    clear hc
    go_wp2_with fail
    go_ret
    exact ⟨rfl, HUP.out w3 HX3.out⟩
  subst hc
  have HLI := Lib.hid (HQ.out rfl)
  have t0 := HC.out w3 HX3.out 0
  have t1 := HC.out w3 HX3.out 1
  have t2 := HC.out w3 HX3.out 2
  simp only [List.getElem?_toArray, List.getElem?_cons_succ, List.getElem?_cons_zero] at t0 t1 t2
  have hva := valid15x w3 o p s a0 a1 a2 c0 c1 c2 (HIN.out.1.keep (HUP.out w3 HX3.out)) (HIN.out.2.1.keep (HUP.out w3 HX3.out)) HLO.out.1 HLO.out.2 (HIN.out.2.2.keep (HUP.out w3 HX3.out))
  go_wp2_with fail
  refine hva.mono ?_
  rintro e w4 ⟨c, rfl, hq, hB4⟩
  have HX4 : Hid (Below (bc + 1) w1 w4) := Lib.hid (HX3.out.trans (hB4.mono (HSZ.out w3 HX3.out)))
  have HQ2 := Lib.hid hq
  clear hB4 hq hva t0 t1 t2 HQ
  by_cases hc : c = true
  case neg =>
    obtain rfl : c = false := by simpa using hc
    clear hc
    go_wp2_with fail
    go_ret
    exact ⟨rfl, HUP.out w4 HX4.out⟩
  subst hc
  have HG := Lib.hid (HQ2.out.1 rfl)
  have HPB : Hid (∀ x ∈ p, x ≤ 12) := Lib.hid fun x hx => Int.le_trans ((greatF_max p).2 x hx) (HLI.out.2.2 HG.out)
  clear HQ2
  have t0 := HC.out w4 HX4.out 0
  have t1 := HC.out w4 HX4.out 1
  have t2 := HC.out w4 HX4.out 2
  simp only [List.getElem?_toArray, List.getElem?_cons_succ, List.getElem?_cons_zero] at t0 t1 t2
  have hrg := region16 w4 o p s a0 a1 a2 c0 c1 c2 (HIN.out.1.keep (HUP.out w4 HX4.out)) (HIN.out.2.1.keep (HUP.out w4 HX4.out)) (HIN.out.2.2.keep (HUP.out w4 HX4.out)) HG.out HLI.out.1 HLI.out.2.1 HPB.out
  go_wp2_with fail
  refine hrg.mono ?_
  rintro e w5 ⟨rows, hms, hrl, htn, hB5, az, ln, cz, rfl, hnz⟩
  have HX5 : Hid (Below (bc + 1) w1 w5) := Lib.hid (HX4.out.trans (hB5.mono (HSZ.out w4 HX4.out)))
  have HMS := Lib.hid (And.intro hms (And.intro hrl htn))
  have HNZ := Lib.hid hnz
  obtain ⟨z, hz⟩ : ∃ z, Sl.sl (3 :: Gm.code ⟨o, p, s, rows⟩) = z := ⟨_, rfl⟩
  rw [hz]
  have HZ := Lib.hid hz
  clear hB5 hrg t0 t1 t2 hms hrl htn hnz hz
  obtain ⟨w6, e6, hs6, hb6, hc6⟩ := game_box w5 #[.slice az ln cz, .int .i64 z] 30
  have HX6 : Hid (Below (bc + 1) w1 w6) := Lib.hid (HX5.out.trans (hb6.mono (HSZ.out w5 HX5.out)))
  have HC6 : Hid (∀ wr, Below (w5.heap.size + 1) w6 wr → ∀ j, wr.cell? ⟨w5.heap.size, j, none⟩ = #[Value.slice az ln cz, .int .i64 z][j]?) := Lib.hid hc6
  have HB6 := Lib.hid hb6
  have HS6 := Lib.hid hs6
  have E6 := Lib.hid e6
  clear e6 hs6 hb6 hc6
  go_upto_region 5 with fail
  rw [← E6.out]
  clear E6
  have t0 := HC.out w6 HX6.out 0
  have t1 := HC.out w6 HX6.out 1
  have t2 := HC.out w6 HX6.out 2
  simp only [List.getElem?_toArray, List.getElem?_cons_succ, List.getElem?_cons_zero] at t0 t1 t2
  have hme := measure17 w6 o p s a0 a1 a2 c0 c1 c2 (HIN.out.1.keep (HUP.out w6 HX6.out)) (HIN.out.2.1.keep (HUP.out w6 HX6.out)) (HIN.out.2.2.keep (HUP.out w6 HX6.out)) HG.out HLI.out.1 HLI.out.2.1 HPB.out
  go_wp2_with fail
  refine hme.mono ?_
  rintro e w7 ⟨rows', am, cm, rfl, hrc, hrl', _, hms', hB7⟩
  obtain rfl : rows = rows' := HMS.out.1.one hms'
  have HX7 : Hid (Below (bc + 1) w1 w7) := Lib.hid (HX6.out.trans (hB7.mono (HSZ.out w6 HX6.out)))
  have HX67 : Hid (Below (w5.heap.size + 1) w6 w7) := Lib.hid (hB7.mono (Nat.le_of_eq HS6.out.symm))
  have HRC := Lib.hid hrc
  clear hB7 hme t0 t1 t2 hrl' hms' hrc
  obtain ⟨n, hn⟩ : ∃ n, o.length = n := ⟨_, rfl⟩
  have hrn : rows.length = n := by rw [HMS.out.2.1, hn]
  have t0 := HC.out w7 HX7.out 0
  simp only [List.getElem?_toArray, List.getElem?_cons_zero] at t0
  rw [hn] at t0
  rw [hrn]
  have hn12 : n ≤ 12 := by rw [← hn]; exact HLI.out.1
  have HN := Lib.hid (And.intro hn (And.intro hrn (And.intro (HG.out.2.1.trans hn) (HG.out.2.2.1.trans hn))))
  clear hn hrn
  have HCW : Hid (∀ wr, Below (bc + 1) w1 wr → wr.cell? ⟨bc, 0, none⟩ = some (.slice a0 n c0) ∧ wr.cell? ⟨bc, 1, none⟩ = some (.slice a1 n c1) ∧ wr.cell? ⟨bc, 2, none⟩ = some (.slice a2 n c2)) := Lib.hid fun wr h => by
    have g0 := HC.out wr h 0
    have g1 := HC.out wr h 1
    have g2 := HC.out wr h 2
    simp only [List.getElem?_toArray, List.getElem?_cons_succ, List.getElem?_cons_zero] at g0 g1 g2
    rw [HN.out.1] at g0
    rw [HN.out.2.2.1] at g1
    rw [HN.out.2.2.2] at g2
    exact ⟨g0, g1, g2⟩
  have HO1 : Hid (OwnN (w7.alloc (.cells #[.int .i64 3, .int .i64 n] 3)) w7.heap.size (.slice (some ⟨w7.heap.size, 0, none⟩) 2 2) (want1 o p s 0)) := Lib.hid (by
    have h := OwnN.made2 w7 3 n
    unfold want1
    rw [HN.out.1]
    simpa [gps] using h)
  have HBA : Hid (Below w7.heap.size w7 (w7.alloc (.cells #[.int .i64 3, .int .i64 n] 3))) := Lib.hid ((Below.refl _ _).alloc (Nat.le_refl _) _)
  have HZA : Hid (w7.heap.size ≤ (w7.alloc (.cells #[.int .i64 3, .int .i64 n] 3)).heap.size) := Lib.hid (by simp)
  go_upto_region 9 with fail
  generalize w7.alloc (.cells #[.int .i64 3, .int .i64 n] 3) = w8 at *
  have HX8 : Hid (∀ wr, Below w7.heap.size w7 wr → Below (bc + 1) w1 wr) := Lib.hid fun wr h => HX7.out.trans (h.mono (HSZ.out w7 HX7.out))
  clear t0
  generalize hv8 : Value.slice (some ⟨w7.heap.size, 0, none⟩) 2 2 = v8 at HO1 ⊢
  clear hv8
  go_wp2_with fail
  go_loopw [8, 9] (fun x i wr => ∃ k : Nat, i = .int .i64 k ∧ k ≤ n ∧ Hid (OwnN wr w7.heap.size x (want1 o p s k)) ∧ Hid (Below w7.heap.size w7 wr)) (fun _ i _ => n - (intOf i).toNat)
  case atStart => exact ⟨0, rfl, Nat.zero_le _, HO1, HBA⟩
  case round =>
    obtain ⟨k, rfl, hk, HOW, HBR⟩ := hrel
    clear HO1 HBA HZA
    have HXR := Lib.hid (HX8.out wr HBR.out)
    obtain ⟨t0, t1, t2⟩ := HCW.out wr HXR.out
    by_cases hlt : k < n
    · have hd : decide (k < n) = true := by simpa using hlt
      have hki : (k : Int) < (n : Int) := by omega
      have ko : k < o.length := by rw [HN.out.1]; exact hlt
      have kp : k < p.length := by rw [HN.out.2.2.1]; exact hlt
      have ks : k < s.length := by rw [HN.out.2.2.2]; exact hlt
      obtain ⟨bo, oo, rfl, g0⟩ := HIN.out.1.at ko
      obtain ⟨bp, op, rfl, g1⟩ := HIN.out.2.1.at kp
      obtain ⟨bs, os, ar, cr, rfl, g2, _, _, hr⟩ := HIN.out.2.2.at ks
      have HWS := Lib.hid (want1_succ ko kp ks)
      have HWL := Lib.hid (want1_len (p := p) HLI.out.1 HLI.out.2.1 k)
      have HRL := Lib.hid (HLI.out.2.1 _ (mem_getD [] ks))
      have HNR : Hid (∀ wr, Below w7.heap.size w7 wr → Nums wr (.slice ar (s.getD k []).length cr) (s.getD k [])) := Lib.hid fun w' h => hr.keep (HUP.out w' (HX8.out w' h))
      have HCK : Hid (∀ w', Below w7.heap.size w7 w' → w'.cell? ⟨bc, 0, none⟩ = some (.slice (some ⟨bo, oo, none⟩) n c0) ∧ w'.cell? ⟨bc, 1, none⟩ = some (.slice (some ⟨bp, op, none⟩) n c1) ∧ w'.cell? ⟨bc, 2, none⟩ = some (.slice (some ⟨bs, os, none⟩) n c2) ∧
          w'.cell? ⟨bo, oo + k, none⟩ = some (.int .i64 (o.getD k 0)) ∧ w'.cell? ⟨bp, op + k, none⟩ = some (.int .i64 (p.getD k 0)) ∧ w'.cell? ⟨bs, os + k, none⟩ = some (.slice ar (s.getD k []).length cr)) := Lib.hid fun w' h => by
        obtain ⟨q0, q1, q2⟩ := HCW.out w' (HX8.out w' h)
        have hU := HUP.out w' (HX8.out w' h)
        exact ⟨q0, q1, q2, (hU.cell (World.block_lt_of_cell? _ _ g0)).trans g0, (hU.cell (World.block_lt_of_cell? _ _ g1)).trans g1, (hU.cell (World.block_lt_of_cell? _ _ g2)).trans g2⟩
      have HBO : Hid (∀ ob, Below w7.heap.size w7 (wr.alloc ob).drew) := Lib.hid fun ob => (HBR.out.alloc HBR.out.size ob).drew
      have HOO : Hid (∀ ob, OwnN (wr.alloc ob).drew w7.heap.size u8 (want1 o p s k)) := Lib.hid fun ob => HOW.out.keep (((Below.refl wr.heap.size wr).alloc (Nat.le_refl _) ob).drew) (Nat.le_refl _)
      have hsz7 : w7.heap.size ≤ wr.heap.size := HBR.out.size
      have HSW := Lib.hid hsz7
      have hbr := HBR.out
      clear hr g0 g1 g2 ko kp ks t1 t2 HOW
      generalize o.getD k 0 = x at *
      generalize p.getD k 0 = y at *
      generalize s.getD k [] = r at *
      generalize want1 o p s k = A at *
      go_upto_region 12 with fail
      go_region_held_law (fun w' => w'.cell? ⟨bc, 0, none⟩ = some (.slice (some ⟨bo, oo, none⟩) n c0) ∧ w'.cell? ⟨bc, 1, none⟩ = some (.slice (some ⟨bp, op, none⟩) n c1) ∧ w'.cell? ⟨bc, 2, none⟩ = some (.slice (some ⟨bs, os, none⟩) n c2) ∧
          w'.cell? ⟨bo, oo + k, none⟩ = some (.int .i64 x) ∧ w'.cell? ⟨bp, op + k, none⟩ = some (.int .i64 y) ∧ w'.cell? ⟨bs, os + k, none⟩ = some (.slice ar r.length cr))
        ((refine HCK.out _ ?_; first | assumption | (repeat' (first | assumption | refine Below.drew ?_ | refine Below.alloc ?_ (by first | assumption | (simp; omega)) _))))
        ((refine step_append_J rfl (.tmp 56) (.tmp 73) rfl (HOO.out _) rfl (by simp; have := HSW.out; omega) wr.heap.size 3 [x, y, (r.length : Int)] (by simp) rfl (cells3 wr x y r.length) (by have h1 := HWL.out; simp; omega) ?_; intro vA wA HOA HFA; have hbA := HFA.out _ _ (HBO.out _) (Nat.le_refl _)))
      obtain ⟨-, -, u2, -, -, u5⟩ := HCK.out wA hbA
      have HBA := Lib.hid hbA
      have hszA : w7.heap.size ≤ wA.heap.size := hbA.size
      clear hbA t0 HOO HBO hbr hsz7 HFA
      go_wp2_with (first
        | (at_builtin; refine wpList_append_any (by rfl) (.tmp 75) (.tmp 80) (by rfl) HOA.out (by rfl) hszA ar cr r (by rfl) (HNR.out wA HBA.out) (by have h1 := HWL.out; have h2 := HRL.out; simp; omega) ?_))
      intro vB wB HOB HFB
      go_wp2_with fail
      go_roundw
      case rel => exact ⟨k + 1, by go_num, by omega, Lib.hid (by rw [HWS.out, List.append_assoc]; exact HOB.out), Lib.hid (HFB.out _ _ HBA.out (Nat.le_refl _))⟩
      case measure => simp [intOf]; omega
    · obtain rfl : k = n := by omega
      have hd : decide (k < k) = false := by simp
      have HO2 : Hid (OwnN wr w7.heap.size u8 (want2 o p s rows 0)) := Lib.hid (by
        unfold want2
        rw [HN.out.1]
        simpa [lsts] using HOW.out)
      have hrl : rows.length = k := HN.out.2.1
      clear HOW t1 t2 hlt
      go_wp2_with fail
      go_loopw [8, 10] (fun x i wr => ∃ j : Nat, i = .int .i64 j ∧ j ≤ k ∧ Hid (OwnN wr w7.heap.size x (want2 o p s rows j)) ∧ Hid (Below w7.heap.size w7 wr)) (fun _ i _ => k - (intOf i).toNat)
      case atStart => exact ⟨0, rfl, Nat.zero_le _, HO2, HBR⟩
      case round =>
        obtain ⟨j, rfl, hj, HOJ, HBJ⟩ := hrel
        clear HO2 HBR HXR t0
        by_cases hlt : j < k
        · have hd2 : decide (j < k) = true := by simpa using hlt
          have hji : (j : Int) < (k : Int) := by omega
          have hjr : j < rows.length := by omega
          obtain ⟨br, orr, ar, cr, rfl, g0, _, _, hr⟩ := HRC.out.at hjr
          have HNR : Hid (∀ wr, Below w7.heap.size w7 wr → Nums wr (.slice ar (rows.getD j []).length cr) (rows.getD j [])) := Lib.hid fun w' h => hr.keep h
          have HCR : Hid (∀ wr, Below w7.heap.size w7 wr → wr.cell? ⟨br, orr + j, none⟩ = some (.slice ar (rows.getD j []).length cr)) := Lib.hid fun w' h => (h.cell (World.block_lt_of_cell? _ _ g0)).trans g0
          have HWS := Lib.hid (want2_succ (o := o) (p := p) (s := s) hjr)
          have HWL := Lib.hid (want2_len (p := p) HLI.out.1 HLI.out.2.1 HMS.out.2.1 (fun r h => (HMS.out.2.2 r h).1) j)
          have HRL := Lib.hid (HMS.out.2.2 _ (mem_getD [] hjr)).1
          have hszJ : w7.heap.size ≤ wr.heap.size := HBJ.out.size
          have HBO : Hid (∀ ob, Below w7.heap.size w7 (wr.alloc ob)) := Lib.hid fun ob => HBJ.out.alloc hszJ ob
          have HOO : Hid (∀ ob, OwnN (wr.alloc ob) w7.heap.size u8 (want2 o p s rows j)) := Lib.hid fun ob => HOJ.out.keep ((Below.refl wr.heap.size wr).alloc (Nat.le_refl _) ob) (Nat.le_refl _)
          have d0 := HCR.out wr HBJ.out
          clear hr g0 HOJ hjr hrl
          generalize rows.getD j [] = r at *
          generalize want2 o p s rows j = A at *
          go_wp2_with (first
            | (at_builtin; refine wpList_append_any (by rfl) (.tmp 88) (.tmp 94) (by rfl) (HOO.out _) (by rfl) (by simp; omega) _ 1 [(r.length : Int)] (by rfl) (nums1 wr r.length) (by have h1 := HWL.out; simp; omega) ?_))
          intro vA wA HOA HFA
          have hbA := HFA.out _ _ (HBO.out _) (Nat.le_refl _)
          have HBA := Lib.hid hbA
          have hszA : w7.heap.size ≤ wA.heap.size := hbA.size
          have d1 := HCR.out wA hbA
          clear hbA d0 HOO HBO HFA
          go_wp2_with (first
            | (at_builtin; refine wpList_append_any (by rfl) (.tmp 96) (.tmp 100) (by rfl) HOA.out (by rfl) hszA ar cr r (by rfl) (HNR.out wA HBA.out) (by have h1 := HWL.out; have h2 := HRL.out; simp; omega) ?_))
          intro vB wB HOB HFB
          go_wp2_with fail
          go_roundw
          case rel => exact ⟨j + 1, by go_num, by omega, Lib.hid (by rw [HWS.out, List.append_assoc]; exact HOB.out), Lib.hid (HFB.out _ _ HBA.out (Nat.le_refl _))⟩
          case measure => simp [intOf]; omega
        · obtain rfl : j = k := by omega
          have hd2 : decide (j < j) = false := by simp
          have HX9 := Lib.hid (HX8.out wr HBJ.out)
          have hb9 : Below (w5.heap.size + 1) w6 wr := HX67.out.trans (HBJ.out.mono (by have h1 := HX67.out.size; have h2 := HS6.out; omega))
          have q0 := HC6.out wr hb9 0
          have q1 := HC6.out wr hb9 1
          simp only [List.getElem?_toArray, List.getElem?_cons_succ, List.getElem?_cons_zero] at q0 q1
          have HCODE : Hid (want2 o p s rows j = 3 :: Gm.code ⟨o, p, s, rows⟩) := Lib.hid (by rw [← hrl]; exact want2_all)
          have hown := HOJ.out
          rw [HCODE.out] at hown
          obtain ⟨av, cv, rfl⟩ := hown.form
          have hfit : Gm.fit ⟨o, p, s, rows⟩ := ⟨HG.out.2.1, HG.out.2.2.1, HMS.out.2.1⟩
          have htiny : Gm.tiny ⟨o, p, s, rows⟩ := ⟨by have := HLI.out.1; show o.length ≤ 100; omega, fun x hx => by have := HG.out.2.2.2.1 x hx; omega, fun x hx => by have h1 := (HG.out.2.2.2.2.1 x hx).1; have h2 := HPB.out x hx; omega, fun r hr => ⟨HLI.out.2.1 r hr, fun x hx => by have h1 := (HG.out.2.2.2.2.2 r hr).2 x hx; have h2 := HLI.out.1; omega⟩, HMS.out.2.2⟩
          have hcl := Gm.code_len hfit htiny
          have hcr := Gm.code_rng hfit htiny
          have hnz := HNZ.out.keep ((HB6.out).trans (hb9.mono (by omega)))
          have hrng : ∀ i, i < (3 :: Gm.code ⟨o, p, s, rows⟩).length → 0 ≤ (3 :: Gm.code ⟨o, p, s, rows⟩).getD i 0 ∧ (3 :: Gm.code ⟨o, p, s, rows⟩).getD i 0 < 65520 := fun i hi => by
            rcases List.mem_cons.1 (getD_mem hi) with e | e
            · rw [e]; omega
            · exact hcr _ e
          have hln : (3 :: Gm.code ⟨o, p, s, rows⟩).length ≤ 1000000 := by simp only [List.length_cons]; omega
          have q : ∀ n, Calls Tryz.prog 18 #[.slice az ln cz, .slice av (3 :: Gm.code ⟨o, p, s, rows⟩).length cv] (wr.drewN n) fun e w' => e = .returned (.bool true) ∧ ∃ m', w' = (wr.drewN n).drewN m' := fun n => by
            have h := ints18 (wr.drewN n) (hnz.drawn n) (hown.nums.drawn n) (by omega) (by omega)
            rw [same_of rfl] at h
            exact h
          have qs : ∀ n, Calls Tryz.prog 10 #[.slice av (3 :: Gm.code ⟨o, p, s, rows⟩).length cv] (wr.drewN n) fun e w' => e = .returned (.int .i64 z) ∧ ∃ m', w' = (wr.drewN n).drewN m' := fun n => by
            refine (seal_own (3 :: Gm.code ⟨o, p, s, rows⟩) (wr.drewN n) (hown.drawn n) hln hrng).mono fun e w' h => ⟨by rw [h.1, HZ.out], 0, h.2.symm⟩
          clear hown hfit htiny hcl hcr hnz hrng hrl
          generalize (3 :: Gm.code ⟨o, p, s, rows⟩).length = L at *
          go_wp2_with fail
          go_quiet ((first | (go_at_call 18; with_reducible exact Calls.quiet_of (q _)) | (go_at_call 10; with_reducible exact Calls.quiet_of (qs _))))
          rename_i nq
          clear q qs q0 q1
          go_wp2_with fail
          go_ret
          exact ⟨rfl, HUP.out _ (Below.drewN' HX9.out nq)⟩
end Go.Proofs.YtckdgniecdfedaaGreatDoor
end
