/- The walk of run. -/
import Derived.Test.YtckdgniecdfedaaGreatDoorRnF
import Derived.Deep.LoopGhost
section
/- The walk of run: measures are raised until all positions have what they need. -/
namespace Go.Proofs.YtckdgniecdfedaaGreatDoor
open Go.RowKit

/-- what run leaves behind -/
def RanOut (o p : List Int) (s : List (List Int)) (un : List Int) (be : List (List Int)) (n cab : Nat) (w : World) (e : Ending) (w' : World) : Prop :=
  e = .returned (.tuple #[]) ∧ ∃ ca, Ran o p s un be n ca ∧ ca.length = n ∧ (∀ m ∈ ca, 0 ≤ m ∧ m ≤ un.getD 0 0) ∧ RowT w' cab 117 ca ∧ Fr (only cab) w.heap.size w w'

theorem range_snoc (k : Nat) : (List.range (k + 1)).map (fun k : Nat => (k : Int)) = (List.range k).map (fun k : Nat => (k : Int)) ++ [(k : Int)] := by
  rw [List.range_succ, List.map_append]
  rfl

theorem fold_take {α : Type} (f : α → Int → α) (z : α) {l : List Int} {j : Nat} (h : j < l.length) : (l.take (j + 1)).foldl f z = f ((l.take j).foldl f z) (l.getD j 0) := by
  have e : l.getD j 0 = l[j] := by rw [List.getD_eq_getElem?_getD, List.getElem?_eq_getElem h]; rfl
  rw [e, List.take_succ_eq_append_getElem h, List.foldl_append]
  rfl
theorem visit_neg {o p : List Int} {s : List (List Int)} {un : List Int} {be : List (List Int)} {st : RunS} {u : Nat} {m : Int} (hm : needF o p s un st.ca u = m) (h : ¬ st.ca.getD u 0 < m) : visitF o p s un be st u = visit1 st u := by
  unfold visitF
  simp only [Int.toNat_natCast, hm]
  rw [if_neg h]
theorem visit_pos {o p : List Int} {s : List (List Int)} {un : List Int} {be : List (List Int)} {st : RunS} {u : Nat} {m : Int} (hm : needF o p s un st.ca u = m) (h : st.ca.getD u 0 < m) : visitF o p s un be st u = (be.getD u []).foldl (pushF p un m) { visit1 st u with ca := st.ca.set u m } := by
  unfold visitF
  simp only [Int.toNat_natCast, hm]
  rw [if_pos h]
theorem push_pos {p un : List Int} {m : Int} {st : RunS} {v : Nat} (h : st.ca.getD v 0 < alongF un m (p.getD v 0)) (ha : st.ag v = false) : pushF p un m st v = { st with ag := upd st.ag v true, nx := st.nx ++ [(v : Int)], ct := st.ct + 1 } := by
  unfold pushF
  simp only [Int.toNat_natCast]
  rw [if_pos ⟨h, ha⟩]
theorem push_neg {p un : List Int} {m : Int} {st : RunS} {v : Nat} (h : ¬ (st.ca.getD v 0 < alongF un m (p.getD v 0) ∧ st.ag v = false)) : pushF p un m st v = st := by
  unfold pushF
  simp only [Int.toNat_natCast]
  rw [if_neg h]
theorem dim_later {q : Nat → Bool} {w w' : World} {a : Addr} {v : Value} (h : (dim q w).cell? a = some v) (hF : Fr q w.heap.size w w') : w'.cell? a = some v := by
  have hlt := World.block_lt_of_cell? _ a h
  rw [dim_size] at hlt
  exact dim_cell (((hF.dim (Nat.le_refl _)).cell hlt).trans h)
theorem ag_step (k : Nat) (y : Int) : upd (agK k) (k : Int) true y = agK (k + 1) y := by
  unfold upd agK
  by_cases e : y = (k : Int)
  · rw [if_pos e]
    symm
    rw [decide_eq_true_eq]
    omega
  · rw [if_neg e]
    exact decide_eq_decide.2 (by constructor <;> intro <;> omega)
theorem stK_ct (n k : Nat) : (stK n k).ct = k := rfl

set_option maxRecDepth 100000 in
set_option maxHeartbeats 8000000 in
theorem run56 {o p : List Int} {s : List (List Int)} {mo un : List Int} {be : List (List Int)} {n B cab cb : Nat} (w : World) (hC : Cond o p s un be n B) (hn : n ≤ 3000) (hBB : B ≤ 1000000) (hB : (n : Int) + B * (n * un.getD 0 0) ≤ 1000000000)
    (h : ClbS (dim (only cab) w) cb o p s mo un cab n be) (hr : RowT w cab 117 (List.replicate n 0)) :
    Calls Tryz.prog 56 #[.pointer (some ⟨cb, 0, none⟩)] w (RanOut o p s un be n cab w) := by
  have HC := Lib.hid hC
  have HB := Lib.hid hB
  have HST := Lib.hid h
  have hlt : cb < w.heap.size := h.up.lt
  have HF1 : Hid (Fr (only cab) w.heap.size w (w.alloc (.map #[] 0))) := Lib.hid ((Fr.refl _ _ w).alloc (Nat.le_refl _) _)
  have HR1 : Hid (RunAt cab w.heap.size (w.heap.size + 1) (w.alloc (.map #[] 0)) (w.alloc (.map #[] 0)) (.slice none 0 0) (stK n 0)) := Lib.hid
    ⟨hr.of_block (heap_alloc_old _ _ hr.lt), (BSet.made w).congr (fun y => by unfold stK agK; symm; simp), OwnN.nil _ _, Fr.refl _ _ _, ⟨Nat.lt_succ_of_lt hr.lt, Nat.lt_succ_self _, Nat.ne_of_lt hr.lt, by simp⟩⟩
  have HS1 : Hid (ClbS (dim (both cab w.heap.size) (w.alloc (.map #[] 0))) cb o p s mo un cab n be) := Lib.hid (h.far HF1.out (fun k hk => by
    simp only [both, only]
    have : (k == w.heap.size) = false := by simp; omega
    rw [this, Bool.or_false]))
  have HCAB : Hid (cab < w.heap.size) := Lib.hid hr.lt
  have HM2 : Hid (w.heap.size + 1 ≤ (w.alloc (.map #[] 0)).heap.size) := Lib.hid (by simp)
  have HM1 : Hid ((w.alloc (.map #[] 0)).heap.size ≤ w.heap.size + 1) := Lib.hid (by simp)
  have hmm := @run_makeMap Tryz.prog
  clear h hr hC hB hlt
  go_enter Tryz.func56, Tryz.ntmps56
  go_upto_region 1 with fail
  clear hmm
  generalize w.alloc (.map #[] 0) = w1 at *
  generalize hmb : w.heap.size = mb at *
  have HMB := Lib.hid hmb
  have t5 := HS1.out.up.c5
  clear hmb
  go_wp2_with fail
  go_loopw [3, 4, 17] (fun x _ i wr => ∃ k : Nat, i = .int .i64 k ∧ k ≤ n ∧ Hid (RunAt cab mb (mb + 1) w1 wr x (stK n k))) (fun _ _ i _ => n - (intOf i).toNat)
  case atStart => exact ⟨0, rfl, Nat.zero_le _, HR1⟩
  case round =>
    obtain ⟨k, rfl, hk, HRA⟩ := hrel
    by_cases hlt : k < n
    · have hd : decide (k < n) = true := by simpa using hlt
      have hki : (k : Int) < (n : Int) := by omega
      go_wp2_with (first
        | (at_mapUpdate; (refine HRA.out.set.put (by rw [stK_ct]; omega) (x := (k : Int)) (by omega) (by omega) (by rfl) (.tmp 20) (.tmp 21) (.const (.bool true)) (by rfl) (by rfl) (by rfl) (by rfl) ?_)))
      intro w2 hs2 ht2
      have HR2 := Lib.hid (HRA.out.mapped hs2 ht2)
      clear hs2 ht2
      have HR3 : Hid (∀ ob, RunAt cab mb (mb + 1) w1 (w2.alloc ob) _ _) := Lib.hid fun ob => HR2.out.alloc ob
      go_wp2_with (first
        | (at_builtin; refine (HR3.out _).append (by rfl) (.tmp 22) (.tmp 24) (by rfl) (by rfl) _ (k : Int) (by rfl) ((cell_new w2 #[.int .i64 k] 3 0).trans rfl) (by simp [stK]; omega) ?_))
      intro v' w3 HR4
      go_wp2_with fail
      go_roundw
      case rel => exact ⟨k + 1, by go_num, by omega, Lib.hid (by
        obtain ⟨r1, r2, r3, r4, r5⟩ := HR4.out
        refine ⟨r1, r2.congr (fun y => ag_step k y), ?_, r4, r5⟩
        show OwnN w3 (mb + 1) v' ((List.range (k + 1)).map (fun k : Nat => (k : Int)))
        rw [range_snoc]; exact r3)⟩
      case measure => simp [intOf]; omega
    · obtain rfl : k = n := by omega
      have hd : decide (k < k) = false := by simp
      have HRK := Lib.hid (first_ok HC.out)
      have HS2 : Hid (ClbS (dim (both cab mb) wr) cb o p s mo un cab k be) := Lib.hid (HS1.out.far (by
        have h := HRA.out.fr
        have e : w1.heap.size ≤ mb + 1 := HM1.out
        exact h.mono e) (fun _ _ => rfl))
      have HFR : Hid (Fr (both cab mb) (mb + 1) w1 wr) := Lib.hid HRA.out.fr
      clear t5 HR1 HS1 hlt
      go_wp2_with fail
      go_loopg [3, 5, 7, 8, 10] (leftF un k (firstS k)) (fun lf x _ _ _ _ wr => ∃ (K : Nat) (st : RunS) (B' : Nat) (ax : Option Addr) (cx : Nat), x = .slice ax st.nx.length cx ∧ leftF un k st = lf ∧ Hid (roundN o p s un be K (firstS k) = st) ∧ Hid (RunOk un k B (k + B * (k * un.getD 0 0)) st) ∧ Hid (∃ ws, RunAt cab mb B' ws wr x st) ∧ Hid (ClbS (dim (both cab mb) wr) cb o p s mo un cab k be) ∧ Hid (Fr (both cab mb) (mb + 1) w1 wr))
      case atStart => 
        obtain ⟨ax, cx, hx⟩ := HRA.out.nxt.form
        exact ⟨0, firstS k, mb + 1, ax, cx, hx, rfl, Lib.hid rfl, HRK, Lib.hid ⟨w1, HRA.out⟩, HS2, HFR⟩
      case round =>
        obtain ⟨K, st, B', ax, cx, rfl, hlf, HKK, HOK, HRB, HSB, HFB⟩ := hrel
        clear HRA HS2 HFR HRK
        by_cases hnx : st.nx = []
        · have hl0 : st.nx.length = 0 := by rw [hnx]; rfl
          have hd0 : decide (0 < st.nx.length) = false := by simp [hl0]
          have hd1 : decide ((0 : Int) < (st.nx.length : Int)) = false := by simp [hl0]
          have HE : Hid (RanOut o p s un be k cab w (.returned (.tuple #[])) wr) := Lib.hid (by
            obtain ⟨ws, h⟩ := HRB.out
            refine ⟨rfl, st.ca, ⟨K, by rw [HKK.out]; exact hnx, by rw [HKK.out]⟩, HOK.out.len, HOK.out.bd, h.row, ?_⟩
            rw [HMB.out]
            refine HF1.out.trans ⟨HFB.out.os, HFB.out.tape, HFB.out.output, HFB.out.size, fun i hi hp => HFB.out.block i (by omega) ?_⟩
            simp only [both, only] at hp ⊢
            rw [hp]
            have : (i == mb) = false := by simp; omega
            rw [this]
            rfl)
          clear hnx hl0
          go_wp2_with fail
          exact bodyPost_end (results_none rfl _ _ _) rfl HE.out
        have hl1 : 0 < st.nx.length := List.length_pos_iff.2 hnx
        have hd0 : decide (0 < st.nx.length) = true := by simpa using hl1
        have hd1 : decide ((0 : Int) < (st.nx.length : Int)) = true := by simp; omega
        have HNX := Lib.hid hnx
        obtain ⟨wo, rfl⟩ : ∃ wo : World, wo = wr := ⟨_, rfl⟩
        have HNOW : Hid (Nums (dim (both cab mb) wo) (.slice ax st.nx.length cx) st.nx) := Lib.hid (by
          obtain ⟨ws, h⟩ := HRB.out
          exact h.now)
        have HRI : Hid (RunAt cab mb wo.heap.size wo wo (.slice none 0 0) { st with nx := [] }) := Lib.hid (by
          obtain ⟨ws, h⟩ := HRB.out
          exact h.next)
        have HLF := Lib.hid hlf
        have hnl : st.nx.length ≤ 1000000000 := by
          have h1 := HOK.out.nl
          have h2 := HOK.out.ct_le
          have h3 := HB.out
          omega
        clear hnx hl1 HRB hlf
        go_wp2_with fail
        go_loopw [3, 7, 8, 10, 33] (fun y _ _ _ i wr => ∃ j : Nat, i = .int .i64 j ∧ j ≤ st.nx.length ∧ Hid (RunAt cab mb wo.heap.size wo wr y ((st.nx.take j).foldl (visitF o p s un be) { st with nx := [] }))) (fun _ _ _ _ i _ => st.nx.length - (intOf i).toNat)
        case atStart => exact ⟨0, rfl, Nat.zero_le _, HRI⟩
        case round =>
          obtain ⟨j, rfl, hj, HRQ⟩ := hrel
          clear HRI
          by_cases hlt : j < st.nx.length
          · have hd : decide (j < st.nx.length) = true := by simpa using hlt
            have hji : (j : Int) < (st.nx.length : Int) := by omega
            obtain ⟨bn, on, rfl, _⟩ := HNOW.out.at hlt
            have c0 : ∀ w', Fr (both cab mb) wo.heap.size wo w' → w'.cell? ⟨bn, on + j, none⟩ = some (.int .i64 (st.nx.getD j 0)) := fun w' hF => by
              obtain ⟨_, _, e, h⟩ := HNOW.out.at hlt
              simp only [Option.some.injEq, Addr.mk.injEq, and_true] at e
              obtain ⟨rfl, rfl⟩ := e
              exact dim_later h hF
            have hu := HOK.out.nx _ (getD_mem hlt)
            have HFT := Lib.hid (fold_take (visitF o p s un be) { st with nx := [] } hlt)
            have HOQ : Hid (RunOk un k B (k + B * (k * un.getD 0 0)) ((st.nx.take j).foldl (visitF o p s un be) { st with nx := [] })) := Lib.hid (visits_ok HC.out _ _ (emptied_ok HOK.out) (fun u hu => HOK.out.nx u (List.mem_of_mem_take hu))).1
            obtain ⟨u, hue⟩ : ∃ u : Nat, st.nx.getD j 0 = u := ⟨(st.nx.getD j 0).toNat, by omega⟩
            rw [hue] at c0 hu
            simp only [hue] at HFT
            have huk : u < k := by omega
            have huki : (u : Int) < (k : Int) := by omega
            clear hu hue
            have c0 := c0 _ HRQ.out.fr
            generalize (st.nx.take j).foldl (visitF o p s un be) { st with nx := [] } = sq at *
            -- what is read of the climb, from the round's world on
            obtain ⟨_, ⟨ao, do_, e0, f0⟩, ⟨ap, dp, e1, f1⟩, ⟨as', ds, e2, f2⟩, ⟨am, dm, e3, f3⟩, ⟨au, du, e4, f4⟩, e5, ⟨ab, db, e6, f6⟩⟩ := HSB.out
            obtain ⟨bb, ob, ar, cr, rfl, g6, hr6⟩ := f6.at (j := u) (by rw [HC.out.bl]; exact huk)
            have HL5 : Hid (∀ w', Fr (both cab mb) wo.heap.size wo w' → w'.cell? ⟨cb, 5, none⟩ = some (.slice (some ⟨cab, 0, none⟩) k k)) := Lib.hid fun w' hF => dim_later e5 hF
            have HL6 : Hid (∀ w', Fr (both cab mb) wo.heap.size wo w' → w'.cell? ⟨cb, 6, none⟩ = some (.slice (some ⟨bb, ob, none⟩) k db) ∧ w'.cell? ⟨bb, ob + u, none⟩ = some (.slice ar (be.getD u []).length cr)) := Lib.hid fun w' hF => ⟨by rw [← HC.out.bl]; exact dim_later e6 hF, dim_later g6 hF⟩
            have HL1 : Hid (∀ w', Fr (both cab mb) wo.heap.size wo w' → w'.cell? ⟨cb, 1, none⟩ = some (.slice ap p.length dp) ∧ Nums w' (.slice ap p.length dp) p) := Lib.hid fun w' hF => ⟨dim_later e1 hF, (f1.later hF).up⟩
            have HNR : Hid (∀ w', Fr (both cab mb) wo.heap.size wo w' → Nums w' (.slice ar (be.getD u []).length cr) (be.getD u [])) := Lib.hid fun w' hF => (hr6.later hF).up
            clear e0 f0 e1 f1 e2 f2 e3 f3 e4 f4 e5 e6 f6 g6 hr6
            have hct := HOQ.out.ct_le
            have HCT : Hid (sq.ct ≤ 1000000000) := Lib.hid (by have := HB.out; omega)
            clear hct
            go_wp2_with (first
              | (at_delete; refine HRQ.out.set.del (x := (u : Int)) (by omega) (by omega) (by rfl) (.tmp 37) (.tmp 38) (by rfl) (by rfl) (by rfl) ?_))
            intro w2 hs2 ht2
            have HR2 : Hid (RunAt cab mb wo.heap.size wo w2 u3 (visit1 sq u)) := Lib.hid (HRQ.out.mapped hs2 ht2)
            clear hs2 ht2 HRQ c0
            have HCL : Hid (Clb w2 cb o p s mo un sq.ca be) := Lib.hid (((HSB.out.later HR2.out.fr).up).clb HR2.out.row HOQ.out.len)
            obtain ⟨x0, r0, hxr, hru⟩ := HC.out.su u huk
            obtain ⟨p0, p1, pk⟩ := HC.out.pr u huk
            have hq := need114 HCL.out u (by rw [HC.out.ol]; exact huk) (by rw [HC.out.pl]; exact huk) (by rw [HC.out.sl]; exact huk) x0 r0 hxr (by rw [HOQ.out.len]; exact hru) (fun m hm => by have h1 := HOQ.out.bd m hm; have h2 := HC.out.top; omega) p0 p1 pk HC.out.ub
            have hnb := need_bd HC.out HOQ.out.len HOQ.out.bd huk
            obtain ⟨m, hm⟩ : ∃ m, needF o p s un sq.ca u = m := ⟨_, rfl⟩
            rw [hm] at hq hnb
            have HM := Lib.hid hm
            have HNB := Lib.hid hnb
            clear hm hnb hxr hru p0 p1 pk HCL
            go_wp2_with fail
            refine hq.mono ?_
            rintro e w3 ⟨rfl, n3, rfl⟩
            clear hq
            have HR3 := Lib.hid (HR2.out.drawn n3)
            clear HR2
            generalize w2.drewN n3 = w3 at *
            have t5 := HL5.out w3 HR3.out.fr
            have hul : u < sq.ca.length := by rw [HOQ.out.len]; exact huk
            have tu : w3.cell? ⟨cab, u, none⟩ = some (.int .i64 (sq.ca.getD u 0)) := HR3.out.row.cell hul
            have tf : w3.frozen? ⟨cab, u, none⟩ = false := HR3.out.row.frozen u
            have HUL := Lib.hid hul
            clear hul
            by_cases hxm : sq.ca.getD u 0 < m
            · have HVP := Lib.hid (visit_pos (be := be) HM.out hxm)
              obtain ⟨xv, hxv⟩ : ∃ xv, sq.ca.getD u 0 = xv := ⟨_, rfl⟩
              rw [hxv] at tu hxm
              have hdm : decide (xv < m) = true := by simpa using hxm
              clear hxv hxm
              go_wp2_with fail
              refine (before115 _ _ _).mono ?_
              rintro e w3' ⟨rfl, hw⟩
              subst w3'
              rw [hdm]
              clear hdm
              have HR4 : Hid (RunAt cab mb wo.heap.size wo (w3.setCell ⟨cab, u, none⟩ (.int .i64 m)) u3 { visit1 sq u with ca := sq.ca.set u m }) := Lib.hid (HR3.out.raise u m)
              go_upto_region 18 with fail
              clear t5 tu tf HR3
              generalize w3.setCell ⟨cab, u, none⟩ (.int .i64 m) = w4 at *
              obtain ⟨t6, t7⟩ := HL6.out w4 HR4.out.fr
              have HCA : Hid (∀ v, v < k → ∃ z, (sq.ca.set u m).getD v 0 = z ∧ 0 ≤ z ∧ z ≤ 2000000) := Lib.hid fun v hv => by
                have hmem : (sq.ca.set u m).getD v 0 ∈ sq.ca.set u m := getD_mem (by rw [List.length_set, HOQ.out.len]; exact hv)
                refine ⟨_, rfl, ?_⟩
                have ht := HC.out.top
                rcases List.mem_or_eq_of_mem_set hmem with h | h
                · have := HOQ.out.bd _ h; omega
                · have := HNB.out; omega
              have HCL2 : Hid ((sq.ca.set u m).length = k) := Lib.hid (by rw [List.length_set, HOQ.out.len])
              obtain ⟨hbl, hbv⟩ := HC.out.bb u huk
              have HBV := Lib.hid hbv
              have HNL : Hid (sq.nx.length ≤ sq.ct) := Lib.hid HOQ.out.nl
              obtain ⟨st2, hst2⟩ : ∃ st2 : RunS, st2 = { visit1 sq u with ca := sq.ca.set u m } := ⟨_, rfl⟩
              rw [← hst2] at HVP HR4
              have HS2 : Hid (st2.ca = sq.ca.set u m ∧ st2.nx.length ≤ st2.ct ∧ st2.ct ≤ 1000000000) := Lib.hid (by rw [hst2]; exact ⟨rfl, HNL.out, HCT.out⟩)
              clear hst2 hbv
              generalize hrr : be.getD u [] = r at *
              have hrl : r.length ≤ 1000000 := by omega
              have hm0 := HNB.out
              have HM0 : Hid (0 ≤ m ∧ m ≤ 2000000) := Lib.hid (by have := HC.out.top; omega)
              clear hm0 hbl
              have hubl : u < be.length := by rw [HC.out.bl]; exact huk
              go_wp2_with fail
              clear t6 t7
              go_loopw [3, 10, 67] (fun y _ i wr => ∃ i' : Nat, i = .int .i64 i' ∧ i' ≤ r.length ∧ Hid (RunAt cab mb wo.heap.size wo wr y ((r.take i').foldl (pushF p un m) st2))) (fun _ _ i _ => r.length - (intOf i).toNat)
              case atStart => exact ⟨0, rfl, Nat.zero_le _, HR4⟩
              case round =>
                obtain ⟨i', rfl, hi', HRV⟩ := hrel
                clear HR4
                by_cases hlt2 : i' < r.length
                · have hd2 : decide (i' < r.length) = true := by simpa using hlt2
                  have hii : (i' : Int) < (r.length : Int) := by omega
                  obtain ⟨br, orr, rfl, r0⟩ := (HNR.out wr HRV.out.fr).at hlt2
                  have hv := HBV.out _ (getD_mem hlt2)
                  have HPT := Lib.hid (fold_take (pushF p un m) st2 hlt2)
                  have HSQ : Hid (((r.take i').foldl (pushF p un m) st2).ca = sq.ca.set u m ∧ ((r.take i').foldl (pushF p un m) st2).nx.length ≤ ((r.take i').foldl (pushF p un m) st2).ct ∧ ((r.take i').foldl (pushF p un m) st2).ct ≤ 2000000000) := Lib.hid (by
                    obtain ⟨g1, g2, g3⟩ := HS2.out
                    refine ⟨by rw [pushes_ca, g1], pushes_nl m _ _ g2, ?_⟩
                    have h1 := pushes_ct (p := p) (un := un) m (r.take i') st2
                    have h2 : (r.take i').length ≤ r.length := by rw [List.length_take]; omega
                    omega)
                  obtain ⟨v, hve⟩ : ∃ v : Nat, r.getD i' 0 = v := ⟨(r.getD i' 0).toNat, by omega⟩
                  rw [hve] at r0 hv
                  simp only [hve] at HPT
                  have hvk : v < k := by omega
                  have hvki : (v : Int) < (k : Int) := by omega
                  clear hv hve
                  generalize (r.take i').foldl (pushF p un m) st2 = sv at *
                  obtain ⟨z, hz, z0, z1⟩ := HCA.out v hvk
                  have t5 := HL5.out wr HRV.out.fr
                  obtain ⟨t1, hnp⟩ := HL1.out wr HRV.out.fr
                  obtain ⟨bp, op, rfl, p0⟩ := hnp.at (j := v) (by rw [HC.out.pl]; exact hvk)
                  have tv : wr.cell? ⟨cab, v, none⟩ = some (.int .i64 z) := by
                    have h := HRV.out.row.cell (j := v) (by rw [HSQ.out.1, HCL2.out]; exact hvk)
                    rw [HSQ.out.1, hz] at h
                    exact h
                  have hvp : (v : Int) < (p.length : Int) := by rw [HC.out.pl]; exact hvki
                  obtain ⟨q0, q1, qk⟩ := HC.out.pr v hvk
                  have HCL : Hid (Clb wr cb o p s mo un (sq.ca.set u m) be) := Lib.hid (((HSB.out.later HRV.out.fr).up).clb (by have h := HRV.out.row; rw [HSQ.out.1] at h; exact h) HCL2.out)
                  obtain ⟨pv, hpv⟩ : ∃ pv, p.getD v 0 = pv := ⟨_, rfl⟩
                  rw [hpv] at p0 q0 q1 qk
                  have q : ∀ n, Calls Tryz.prog 116 #[.pointer (some ⟨cb, 0, none⟩), .int .i64 m, .int .i64 pv] (wr.drewN n) fun e w' => e = .returned (.int .i64 (alongF un m pv)) ∧ ∃ m', w' = (wr.drewN n).drewN m' := fun n => along116 (HCL.out.drawn n) m pv HM0.out.1 HM0.out.2 q0 q1 qk HC.out.ub
                  have HLK : Hid (∀ n, (Instr.lookup 175 (.map (some mb)) (.int .i64 v) false).run Tryz.prog (wr.drewN n) = .ok (.bool (sv.ag v)) (wr.drewN n)) := Lib.hid fun n => (HRV.out.set.drawn n).look (by omega) (by omega)
                  have HZP : Hid (sv.ca.getD v 0 = z) := Lib.hid (by rw [HSQ.out.1, hz])
                  have HPV := Lib.hid hpv
                  obtain ⟨y, hy⟩ : ∃ y, alongF un m pv = y := ⟨_, rfl⟩
                  rw [hy] at q
                  have HY := Lib.hid hy
                  clear hz hnp q0 q1 qk HCL hy hpv
                  have qb : ∀ n, Calls Tryz.prog 115 #[.int .i64 z, .int .i64 y] (wr.drewN n) fun e w' => e = .returned (.bool (decide (z < y))) ∧ ∃ m', w' = (wr.drewN n).drewN m' := fun n => (before115 _ z y).mono fun _ _ ⟨e, h⟩ => ⟨e, 0, by rw [h]; rfl⟩
                  by_cases hzy : z < y
                  · have hdz : decide (z < y) = true := by simpa using hzy
                    rw [hdz] at qb
                    by_cases hav : sv.ag v = true
                    · have HPN : Hid (pushF p un m sv v = sv) := Lib.hid (push_neg (by rw [hav]; simp))
                      have hlk := HLK.out
                      rw [hav] at hlk
                      clear hzy hdz hav
                      go_upto_region 21 with fail
                      go_quiet ((first | (go_at_call 116; with_reducible exact Calls.quiet_of (q _)) | (go_at_call 115; with_reducible exact Calls.quiet_of (qb _))))
                      rename_i nq
                      have HRN := Lib.hid (HRV.out.drawn nq)
                      clear HRV q qb t5 t1 p0 tv r0 hlk
                      generalize wr.drewN nq = wn at *
                      go_wp2_with fail
                      go_roundw
                      case rel => exact ⟨i' + 1, by go_num, by omega, Lib.hid (by rw [HPT.out, HPN.out]; exact HRN.out)⟩
                      case measure => simp [intOf]; omega
                    · have hav : sv.ag v = false := by simpa using hav
                      have HPP := Lib.hid (push_pos (p := p) (un := un) (m := m) (st := sv) (v := v) (by rw [HZP.out, HPV.out, HY.out]; exact hzy) hav)
                      have hlk := HLK.out
                      rw [hav] at hlk
                      clear hzy hdz hav
                      go_upto_region 21 with fail
                      go_quiet ((first | (go_at_call 116; with_reducible exact Calls.quiet_of (q _)) | (go_at_call 115; with_reducible exact Calls.quiet_of (qb _))))
                      rename_i nq
                      have HRN := Lib.hid (HRV.out.drawn nq)
                      clear HRV q qb t5 t1 p0 tv r0 hlk
                      generalize wr.drewN nq = wn at *
                      go_wp2_with (first
                        | (at_mapUpdate; refine HRN.out.set.put (x := (v : Int)) (by have := HSQ.out.2.2; omega) (by omega) (by omega) (by rfl) (.tmp 97) (.tmp 98) (.const (.bool true)) (by rfl) (by rfl) (by rfl) (by rfl) ?_))
                      intro w5 hs5 ht5
                      have HR5 := Lib.hid (HRN.out.mapped hs5 ht5)
                      clear hs5 ht5 HRN
                      have HR6 := Lib.hid fun ob => HR5.out.alloc ob
                      go_wp2_with (first
                        | (at_builtin; refine (HR6.out _).append (by rfl) (.tmp 99) (.tmp 101) (by rfl) (by rfl) _ (v : Int) (by rfl) ((cell_new w5 #[.int .i64 v] 3 0).trans rfl) (by have := HSQ.out.2; show sv.nx.length + 1 ≤ _; omega) ?_))
                      intro v' w6 HR7
                      go_wp2_with fail
                      go_roundw
                      case rel => exact ⟨i' + 1, by go_num, by omega, Lib.hid (by rw [HPT.out, HPP.out]; exact HR7.out)⟩
                      case measure => simp [intOf]; omega
                  · have hdz : decide (z < y) = false := by simpa using hzy
                    rw [hdz] at qb
                    have HPN : Hid (pushF p un m sv v = sv) := Lib.hid (push_neg (by rw [HZP.out, HPV.out, HY.out]; exact fun h => hzy h.1))
                    clear hzy hdz
                    go_upto_region 21 with fail
                    go_quiet ((first | (go_at_call 116; with_reducible exact Calls.quiet_of (q _)) | (go_at_call 115; with_reducible exact Calls.quiet_of (qb _))))
                    rename_i nq
                    have HRN := Lib.hid (HRV.out.drawn nq)
                    clear HRV q qb t5 t1 p0 tv r0
                    generalize wr.drewN nq = wn at *
                    go_wp2_with fail
                    go_roundw
                    case rel => exact ⟨i' + 1, by go_num, by omega, Lib.hid (by rw [HPT.out, HPN.out]; exact HRN.out)⟩
                    case measure => simp [intOf]; omega
                · obtain rfl : i' = r.length := by omega
                  have hd2 : decide (r.length < r.length) = false := by simp
                  rw [List.take_length] at HRV
                  go_wp2_with fail
                  go_roundw
                  case rel => exact ⟨j + 1, by go_num, by omega, Lib.hid (by rw [HFT.out, HVP.out]; exact HRV.out)⟩
                  case measure => simp [intOf]; omega
            · have HVN := Lib.hid (visit_neg (be := be) HM.out hxm)
              obtain ⟨xv, hxv⟩ : ∃ xv, sq.ca.getD u 0 = xv := ⟨_, rfl⟩
              rw [hxv] at tu hxm
              have hdm : decide (xv < m) = false := by simpa using hxm
              clear hxv hxm
              go_wp2_with fail
              refine (before115 _ _ _).mono ?_
              rintro e w3' ⟨rfl, hw⟩
              subst w3'
              rw [hdm]
              clear t5 tu tf
              go_wp2_with fail
              go_roundw
              case rel => exact ⟨j + 1, by go_num, by omega, Lib.hid (by rw [HFT.out, HVN.out]; exact HR3.out)⟩
              case measure => simp [intOf]; omega
          · obtain rfl : j = st.nx.length := by omega
            have hd : decide (st.nx.length < st.nx.length) = false := by simp
            rw [List.take_length] at HRQ
            have HRO := Lib.hid (round_ok HC.out HOK.out HNX.out)
            obtain ⟨aq, cq, hq⟩ := HRQ.out.nxt.form
            go_wp2_with fail
            go_roundg (leftF un k (roundF o p s un be st))
            case measure => rw [← HLF.out]; exact HRO.out.2
            case rel => exact ⟨K + 1, roundF o p s un be st, wo.heap.size, aq, cq, hq, rfl, Lib.hid (by rw [roundN, HKK.out]), Lib.hid HRO.out.1, Lib.hid ⟨wo, HRQ.out⟩, Lib.hid (HSB.out.later HRQ.out.fr), Lib.hid (HFB.out.trans (HRQ.out.fr.mono (by have h1 := HFB.out.size; have h2 := HM2.out; omega)))⟩
end Go.Proofs.YtckdgniecdfedaaGreatDoor
end
