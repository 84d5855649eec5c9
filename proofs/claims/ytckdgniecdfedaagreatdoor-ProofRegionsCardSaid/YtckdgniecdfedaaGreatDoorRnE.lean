/- The walks of Swap, and of the view of the player 1. -/
import Derived.Test.YtckdgniecdfedaaGreatDoorRnD
import Derived.Test.YtckdgniecdfedaaGreatDoorRnC
import Derived.Deep.RegionLaw
section
/- The walk of the reference's Swap. -/
namespace Go.Proofs.YtckdgniecdfedaaGreatDoor
open Go.RowKit

/-- a game of few positions and low priorities, whose priorities lie in a block from B on -/
def GameOutN (w : World) (B : Nat) (v : Value) : Prop := ∃ (a0 a1 a2 : Option Addr) (n0 n2 c0 c1 c2 : Nat) (p : List Int), v = .agg #[.slice a0 n0 c0, .slice a1 p.length c1, .slice a2 n2 c2] ∧ Nums w (.slice a1 p.length c1) p ∧ n0 ≤ 3000 ∧ p.length ≤ 3000 ∧ (∀ x ∈ p, x ≤ 100) ∧ ∀ ad, a1 = some ad → B ≤ ad.block
theorem Nums.far {w w' : World} {a : Option Addr} {n c : Nat} {l : List Int} (h : Nums w (.slice a n c) l) (hs : w.heap.size ≤ w'.heap.size) (hb : ∀ ad, a = some ad → w'.heap[ad.block]? = w.heap[ad.block]?) : Nums w' (.slice a n c) l := by
  obtain ⟨a', c', e, h⟩ := h
  refine ⟨a', c', e, fun h0 => ?_⟩
  obtain ⟨b, o, e', hlt, hc⟩ := h h0
  simp only [Value.slice.injEq] at e
  obtain ⟨rfl, -, -⟩ := e
  refine ⟨b, o, e', Nat.lt_of_lt_of_le hlt hs, fun j hj => ?_⟩
  exact (World.cell?_of_block (a := ⟨b, o + j, none⟩) (hb ⟨b, o, none⟩ e')).trans (hc j hj)
/-- a swapped game under way: its block, and its two rows of one's own -/
def Swp (w3 wr : World) (hb : Nat) (s2 : Value) (n m : Nat) : Prop :=
  ∃ (A B : List Int) (au av : Option Addr) (cu cv : Nat), Fam wr hb 39 (hb + 1) [.slice au n cu, .slice av m cv, s2] [A, B] ∧ A.length = n ∧ B.length = m ∧ (∀ x ∈ B, x ≤ 100) ∧ Below hb w3 wr
theorem Swp.first (w3 : World) (s2 : Value) : Swp w3 (w3.alloc (.cells #[.slice none 0 0, .slice none 0 0, s2] 39)) w3.heap.size s2 0 0 := by
  refine ⟨[], [], none, none, 0, 0, ⟨heap_alloc_new _ _, ?_, ?_⟩, rfl, rfl, by simp, (Below.refl _ _).alloc (Nat.le_refl _) _⟩
  · intro j hj
    match j, hj with
    | 0, _ => exact OwnN.nil _ _
    | 1, _ => exact OwnN.nil _ _
  · intro i j hi _ _
    match i, hi with
    | 0, _ => exact .inl rfl
    | 1, _ => exact .inl rfl
theorem Swp.drawn {w3 wr : World} {hb : Nat} {s2 : Value} {n m : Nat} (h : Swp w3 wr hb s2 n m) (j : Nat) : Swp w3 (wr.drewN j) hb s2 n m := by
  obtain ⟨A, B, au, av, cu, cv, h1, h2, h3, h4, h5⟩ := h
  exact ⟨A, B, au, av, cu, cv, h1.drawn j, h2, h3, h4, Below.drewN' h5 j⟩
theorem results_cell1 {fn : Func} {p : Tmp} {ty : TypeId} (h : fn.results = #[.cell p ty]) (tmps : Array Value) (P : Program) (w : World) :
    (results fn tmps).run P w = ((asAddr (tmps.getD p undef)).run P w).andThen fun a w₁ => (loadVar ty a).run P w₁ := by
  simp only [results, h]
  simp [Sem.run_bind, Result.andThen]
theorem res163 {tmps : Array Value} {w : World} {g : Nat} {a b c : Value} (hp : tmps.getD 2 undef = .pointer (some ⟨g, 0, none⟩)) (h : w.heap[g]? = some (.cells #[a, b, c] 39 (0, 0))) :
    (results Tryz.f163 tmps).run Tryz.prog w = .ok (.agg #[a, b, c]) w := by
  have h0 : w.cell? ⟨g, 0, none⟩ = some a := by simp [World.cell?, h]
  have h1 : w.cell? ⟨g, 1, none⟩ = some b := by simp [World.cell?, h]
  have h2 : w.cell? ⟨g, 2, none⟩ = some c := by simp [World.cell?, h]
  rw [results_cell1 rfl, hp]
  simp [asAddr, go_sem, h0, h1, h2]
theorem swap_end {tmps : Array Value} {w : World} {g : Nat} {a b c : Value} {R : Ending → World → Prop} (hp : tmps.getD 2 undef = .pointer (some ⟨g, 0, none⟩)) (h : w.heap[g]? = some (.cells #[a, b, c] 39 (0, 0)))
    (hR : R (.returned (.agg #[a, b, c])) w) : bodyPost Tryz.prog Tryz.f163 R .ret { tmps := tmps, defers := [] } w := bodyPost_ret (res163 hp h) rfl hR
theorem swap_out {w w3 wr : World} {bc hb : Nat} {s2 : Value} {n m : Nat} {a0 b0 c0 : Value} (h : Swp w3 wr hb s2 n m) (hs : ∃ a n c, s2 = .slice a n c) (hr : wr.heap[bc + 1]? = some (.cells #[a0, b0, c0] 39 (0, 0))) (hb1 : bc + 1 < hb) (hB : Below bc w wr) (hn : n ≤ 3000) (hm : m ≤ 3000) :
    ∃ (au av : Option Addr) (cu cv : Nat), ∀ u v, u = .slice au n cu → v = .slice av m cv → wr.cell? ⟨hb, 0, none⟩ = some u ∧ wr.cell? ⟨hb, 1, none⟩ = some v ∧ wr.cell? ⟨hb, 2, none⟩ = some s2 ∧ wr.heap[bc + 1]? = some (.cells #[a0, b0, c0] 39 (0, 0)) ∧
      Hid ((((wr.setCell ⟨bc + 1, 0, none⟩ u).setCell ⟨bc + 1, 1, none⟩ v).setCell ⟨bc + 1, 2, none⟩ s2).heap[bc + 1]? = some (.cells #[u, v, s2] 39 (0, 0)) ∧
      GameOutN (((wr.setCell ⟨bc + 1, 0, none⟩ u).setCell ⟨bc + 1, 1, none⟩ v).setCell ⟨bc + 1, 2, none⟩ s2) bc (.agg #[u, v, s2]) ∧
      Below bc w (((wr.setCell ⟨bc + 1, 0, none⟩ u).setCell ⟨bc + 1, 1, none⟩ v).setCell ⟨bc + 1, 2, none⟩ s2)) := by
  obtain ⟨A, B, au, av, cu, cv, h1, rfl, rfl, h4, h5⟩ := h
  obtain ⟨a2, n2, c2, rfl⟩ := hs
  have e1 := heap_setCell_same wr (bc + 1) 0 _ 39 (.slice au A.length cu) hr
  have e2 := heap_setCell_same _ (bc + 1) 1 _ 39 (.slice av B.length cv) e1
  have e3 := heap_setCell_same _ (bc + 1) 2 _ 39 (.slice a2 n2 c2) e2
  have hBN : Below (bc + 1) wr (((wr.setCell ⟨bc + 1, 0, none⟩ (.slice au A.length cu)).setCell ⟨bc + 1, 1, none⟩ (.slice av B.length cv)).setCell ⟨bc + 1, 2, none⟩ (.slice a2 n2 c2)) :=
    (((Below.refl _ wr).setCell (by simp) _).setCell (by simp) _).setCell (by simp) _
  refine ⟨au, av, cu, cv, fun u v hu hv => ?_⟩
  subst hu hv
  refine ⟨h1.cell (j := 0) (by simp), h1.cell (j := 1) (by simp), h1.cell (j := 2) (by simp), hr, Lib.hid ⟨e3, ?_, ?_⟩⟩
  · refine ⟨au, av, a2, A.length, n2, cu, cv, c2, B, rfl, ?_, hn, hm, h4, fun ad e => by
      subst e
      have hlt := (World.ownsRow.lt (h1.own 1 (by simp)) ad.block rfl).1
      omega⟩
    have ho : OwnN wr (hb + 1) (.slice av B.length cv) B := h1.own 1 (by simp)
    refine OwnN.nums (B := hb + 1) (ho.of_block fun g hg => ?_)
    have hlt := (World.ownsRow.lt ho g hg).1
    rw [heap_setCell_other _ _ _ _ (show g ≠ bc + 1 by omega), heap_setCell_other _ _ _ _ (show g ≠ bc + 1 by omega), heap_setCell_other _ _ _ _ (show g ≠ bc + 1 by omega)]
  · exact ((hB.setCell (by simp) _).setCell (by simp) _).setCell (by simp) _

set_option maxRecDepth 100000 in
set_option maxHeartbeats 4000000 in
theorem swap163 (w : World) (o p : List Int) (s : List (List Int)) (a0 a1 a2 : Option Addr) (c0 c1 c2 : Nat) (hno : Nums w (.slice a0 o.length c0) o) (hnp : Nums w (.slice a1 p.length c1) p) (hs : RowsC w (.slice a2 s.length c2) s) (hg : Good o p s) (hpb : ∀ x ∈ p, x ≤ 12) :
    Calls Tryz.prog 163 #[.agg #[.slice a0 o.length c0, .slice a1 p.length c1, .slice a2 s.length c2]] w (fun e w' => ∃ v, e = .returned v ∧ GameOutN w' w.heap.size v ∧ Below w.heap.size w w') := by
  obtain ⟨w1, e1, hs1, hb1, hc1⟩ := game_box w #[.slice a0 o.length c0, .slice a1 p.length c1, .slice a2 s.length c2] 39
  obtain ⟨w2, e2, hs2, hb2, hc2⟩ := game_box w1 #[.slice none 0 0, .slice none 0 0, .slice none 0 0] 39
  have hb12 : Below w.heap.size w w2 := hb1.trans (hb2.mono (by omega))
  have HV := Lib.hid (valid15x w2 o p s a0 a1 a2 c0 c1 c2 (hno.keep hb12) (hnp.keep hb12) (by have := hg.1; omega) (by have := hg.1; have := hg.2.1; omega) (hs.keep hb12))
  have HA := Lib.hid (And.intro hno (And.intro hnp hs))
  have HGD := Lib.hid hg
  have HPB := Lib.hid hpb
  have HB := Lib.hid hb12
  have HS := Lib.hid (show w2.heap.size = w.heap.size + 1 + 1 by omega)
  have E1 := Lib.hid e1
  have E2 := Lib.hid e2
  have HC : Hid (∀ wr, Below (w.heap.size + 1 + 1) w2 wr → ∀ j, wr.cell? ⟨w.heap.size, j, none⟩ = #[Value.slice a0 o.length c0, .slice a1 p.length c1, .slice a2 s.length c2][j]?) := Lib.hid fun wr hB j =>
    hc1 wr ((hb2.mono (by omega)).trans (hB.mono (by omega))) j
  have HR : Hid (∀ wr, Below (w.heap.size + 1 + 1) w2 wr → wr.heap[w.heap.size + 1]? = some (.cells #[.slice none 0 0, .slice none 0 0, .slice none 0 0] 39 (0, 0))) := Lib.hid fun wr hB => by
    rw [hB.block _ (by omega), e2]
    have := heap_alloc_new w1 (.cells #[.slice none 0 0, .slice none 0 0, .slice none 0 0] 39)
    rw [hs1] at this
    exact this
  have hol : o.length ≤ 3000 := hg.1
  have HPL := Lib.hid hg.2.1
  have hpl3 : p.length ≤ 3000 := by have := hg.2.1; omega
  clear hno hnp hs hpb hg e1 hs1 hb1 hc1 e2 hs2 hb2 hc2 hb12
  go_enter Tryz.func163, Tryz.ntmps163
  go_upto_region 1 with fail
  rw [← E1.out, ← E2.out]
  clear E1 E2
  generalize Value.agg #[.slice a0 o.length c0, .slice a1 p.length c1, .slice a2 s.length c2] = v0
  generalize hbc : w.heap.size = bc at HC HR HS HB ⊢
  have HBC := Lib.hid hbc
  clear hbc
  have t0 := HC.out w2 (Below.refl _ _) 0
  have t1 := HC.out w2 (Below.refl _ _) 1
  have t2 := HC.out w2 (Below.refl _ _) 2
  simp only [List.getElem?_toArray, List.getElem?_cons_succ, List.getElem?_cons_zero] at t0 t1 t2
  go_wp2_with fail
  refine HV.out.mono ?_
  rintro e w3 ⟨c, rfl, hq, hB⟩
  obtain rfl : c = true := hq.2 HGD.out
  have HX : Hid (Below (bc + 1 + 1) w2 w3) := Lib.hid (hB.mono (Nat.le_of_eq HS.out.symm))
  clear hB hq t0 t1 t2 HV
  have t2 := HC.out w3 HX.out 2
  simp only [List.getElem?_toArray, List.getElem?_cons_succ, List.getElem?_cons_zero] at t2
  have HI : Hid (Swp w3 (w3.alloc (.cells #[.slice none 0 0, .slice none 0 0, .slice a2 s.length c2] 39)) w3.heap.size (.slice a2 s.length c2) 0 0) := Lib.hid (Swp.first w3 _)
  have HY : Hid (∀ wr, Below w3.heap.size w3 wr → Below (bc + 1 + 1) w2 wr) := Lib.hid fun wr h => HX.out.trans (h.mono (by have h1 := HX.out.size; have h2 := HS.out; omega))
  go_upto_region 4 with fail
  generalize w3.alloc (.cells #[.slice none 0 0, .slice none 0 0, .slice a2 s.length c2] 39) = wi at *
  have HHB : Hid (bc + 1 < w3.heap.size) := Lib.hid (by have h1 := HX.out.size; have h2 := HS.out; omega)
  generalize w3.heap.size = hb at *
  go_wp2_with fail
  go_loopw [4] (fun i wr => ∃ (k : Nat), i = .int .i64 k ∧ k ≤ o.length ∧ Hid (Swp w3 wr hb (.slice a2 s.length c2) k k)) (fun i _ => o.length - (intOf i).toNat)
  case atStart => exact ⟨0, rfl, Nat.zero_le _, HI⟩
  case round =>
    obtain ⟨k, rfl, hk, HSW⟩ := hrel
    have HXQ : Hid (Below (bc + 1 + 1) w2 wr) := Lib.hid (by
      obtain ⟨_, _, _, _, _, _, _, _, _, _, hbw⟩ := HSW.out
      exact HY.out wr hbw)
    have t0 : wr.cell? ⟨bc, 0, none⟩ = _ := HC.out wr HXQ.out 0
    have t1 : wr.cell? ⟨bc, 1, none⟩ = _ := HC.out wr HXQ.out 1
    simp only [List.getElem?_toArray, List.getElem?_cons_succ, List.getElem?_cons_zero] at t0 t1
    by_cases hlt : k < o.length
    · have hd : decide (k < o.length) = true := by simpa using hlt
      have hki : (k : Int) < (o.length : Int) := by omega
      have kp : k < p.length := by rw [HPL.out]; exact hlt
      have kpi : (k : Int) < (p.length : Int) := by omega
      have hBQ : Below w.heap.size w wr := by rw [HBC.out]; exact HB.out.trans (HXQ.out.mono (by omega))
      obtain ⟨bo, oo, rfl, d0⟩ := (HA.out.1.keep hBQ).at hlt
      obtain ⟨bp, op, rfl, d1⟩ := (HA.out.2.1.keep hBQ).at kp
      have hx : o.getD k 0 = 0 ∨ o.getD k 0 = 1 := HGD.out.2.2.2.1 _ (mem_getD 0 hlt)
      have hy : 0 ≤ p.getD k 0 ∧ p.getD k 0 ≤ 12 := ⟨(HGD.out.2.2.2.2.1 _ (mem_getD 0 kp)).1, HPB.out _ (mem_getD 0 kp)⟩
      obtain ⟨x, hxx⟩ : ∃ x, o.getD k 0 = x := ⟨_, rfl⟩
      obtain ⟨y, hyy⟩ : ∃ y, p.getD k 0 = y := ⟨_, rfl⟩
      rw [hxx] at d0 hx
      rw [hyy] at d1 hy
      have HYY := Lib.hid hyy
      have HKP := Lib.hid kp
      obtain ⟨y1, y2⟩ := hy
      have hx0 : 0 ≤ x ∧ x ≤ 1 := by omega
      obtain ⟨x1, x2⟩ := hx0
      have hd2 : (y == 30000) = false := by rw [beq_eq_false_iff_ne]; omega
      have hd2' : ¬ (y = 30000) := by omega
      have q : ∀ n, Calls Tryz.prog 52 #[] (wr.drewN n) fun e w' => e = .returned (.int .i64 30000) ∧ ∃ m', w' = (wr.drewN n).drewN m' := fun n => (limit52 _).mono fun _ _ ⟨e, h⟩ => ⟨e, 0, by rw [h]; rfl⟩
      clear hx hxx hyy hBQ
      go_upto_region 7 with fail
      go_quiet ((go_at_call 52; with_reducible exact Calls.quiet_of (q _)))
      rename_i nq
      have v0' : (wr.drewN nq).cell? ⟨bc, 0, none⟩ = some (.slice (some ⟨bo, oo, none⟩) o.length c0) := t0
      have v1' : (wr.drewN nq).cell? ⟨bc, 1, none⟩ = some (.slice (some ⟨bp, op, none⟩) p.length c1) := t1
      have z0 : (wr.drewN nq).cell? ⟨bo, oo + k, none⟩ = some (.int .i64 x) := d0
      have z1 : (wr.drewN nq).cell? ⟨bp, op + k, none⟩ = some (.int .i64 y) := d1
      have HSQ := Lib.hid (HSW.out.drawn nq)
      have HXQ2 : Hid (Below (bc + 1 + 1) w2 (wr.drewN nq)) := Lib.hid (Below.drewN' HXQ.out nq)
      clear HSW HXQ q t0 t1 d0 d1 hd2 hd2'
      generalize wr.drewN nq = wd at *
      obtain ⟨A, B, au, av, cu, cv, hf, hA, hB, hB1, hbw⟩ := HSQ.out
      have e0 := hf.cell (j := 0) (by simp)
      simp only [List.getD_cons_zero] at e0
      have HFM : Hid (∀ ob, Fam (wd.alloc ob).drew hb 39 (hb + 1) [.slice au k cu, .slice av k cv, .slice a2 s.length c2] [A, B]) := Lib.hid fun ob => (hf.alloc ob).drew
      have ea : ∀ ob, (wd.alloc ob).cell? ⟨hb, 0, none⟩ = some (.slice au k cu) := fun ob => (hf.alloc ob).cell (j := 0) (by simp)
      have HLT : Hid (hb + 1 ≤ wd.heap.size) := Lib.hid hf.lt
      have HAA := Lib.hid (And.intro hA (And.intro hB hB1))
      have HBW : Hid (∀ ob, Below hb w3 (wd.alloc ob).drew) := Lib.hid fun ob => (hbw.alloc (Nat.le_of_lt hf.lt) ob).drew
      clear hf hA hB hB1 hbw
      have hkl : k + 1 ≤ 1000000 := by omega
      go_upto_region 9 with fail
      go_cut [] from 27 to 48 (fun wx => Swp w3 wx hb (.slice a2 s.length c2) (k + 1) k)
      case first =>
        go_region_law ((refine step_append_fam rfl (.tmp 28) (.tmp 35) rfl (HFM.out _) 0 (by simp) (by simp) (by omega) (by simpa using Nat.le_succ_of_le HLT.out) (.slice au k cu) rfl rfl A rfl k HAA.out.1 _ _ rfl (by first | exact cell_new _ _ _ 0 | simp) (by rw [HAA.out.1]; exact hkl) ?_; intro g cap w5 hc5 hf5 HF HBL))
        all_goals (go_wp2_with fail; go_meet)
        all_goals exact ⟨A ++ [_], B, _, _, _, _, HF.out, by rw [List.length_append, HAA.out.1]; rfl, HAA.out.2.1, HAA.out.2.2, HBL.out _ _ (HBW.out _) (Nat.le_refl _)⟩
      case rest =>
        obtain ⟨A, B, au, av, cu, cv, hf, hA, hB, hB1, hbw⟩ := hcut
        have hX5 : Below (bc + 1 + 1) w2 wc := HY.out wc hbw
        have t1 : wc.cell? ⟨bc, 1, none⟩ = _ := HC.out wc hX5 1
        simp only [List.getElem?_toArray, List.getElem?_cons_succ, List.getElem?_cons_zero] at t1
        have hBQ : Below w.heap.size w wc := by rw [HBC.out]; exact HB.out.trans (hX5.mono (by omega))
        obtain ⟨_, _, e, d1⟩ := (HA.out.2.1.keep hBQ).at (HKP.out)
        simp only [Option.some.injEq, Addr.mk.injEq, and_true] at e
        obtain ⟨rfl, rfl⟩ := e
        rw [HYY.out] at d1
        have e0 := hf.cell (j := 1) (by simp)
        simp only [List.getD_cons_zero, List.getD_cons_succ] at e0
        have HFM : Hid (∀ ob, Fam (wc.alloc ob).drew hb 39 (hb + 1) [.slice au (k + 1) cu, .slice av k cv, .slice a2 s.length c2] [A, B]) := Lib.hid fun ob => (hf.alloc ob).drew
        have ea : ∀ ob, (wc.alloc ob).cell? ⟨hb, 1, none⟩ = some (.slice av k cv) := fun ob => (hf.alloc ob).cell (j := 1) (by simp)
        have HLT : Hid (hb + 1 ≤ wc.heap.size) := Lib.hid hf.lt
        have HAA := Lib.hid (And.intro hA (And.intro hB hB1))
        have HBW : Hid (∀ ob, Below hb w3 (wc.alloc ob).drew) := Lib.hid fun ob => (hbw.alloc (Nat.le_of_lt hf.lt) ob).drew
        clear hf hA hB hB1 hbw hBQ hX5
        have hkl : k + 1 ≤ 1000000 := by omega
        have hwy : IntKind.i64.wrap (y + 1) = y + 1 := by rw [IntKind.wrap_i64]; omega
        go_upto_region 10 with fail
        go_region_law ((refine step_append_fam rfl (.tmp 39) (.tmp 46) rfl (HFM.out _) 1 (by simp) (by simp) (by omega) (by simpa using Nat.le_succ_of_le HLT.out) (.slice av k cv) rfl rfl B rfl k HAA.out.2.1 _ _ rfl (by first | exact cell_new _ _ _ 0 | simp) (by rw [HAA.out.2.1]; exact hkl) ?_; intro g cap w5 hc5 hf5 HF HBL))
        all_goals (go_wp2_with fail; go_roundw)
        all_goals first
          | exact ⟨k + 1, by go_num, by omega, Lib.hid ⟨A, B ++ [y + 1], _, _, _, _, HF.out, HAA.out.1, by rw [List.length_append, HAA.out.2.1]; rfl, fun z hz => (List.mem_append.1 hz).elim (HAA.out.2.2 z) (fun hz => by rw [List.mem_singleton.1 hz]; omega), HBL.out _ _ (HBW.out _) (Nat.le_refl _)⟩⟩
          | (simp [intOf]; omega)
    · obtain rfl : k = o.length := by omega
      have hd : decide (o.length < o.length) = false := by simp
      obtain ⟨au, av, cu, cv, hso⟩ := swap_out HSW.out ⟨_, _, _, rfl⟩ (HR.out wr HXQ.out) HHB.out (HB.out.trans (HXQ.out.mono (by omega))) hol hol
      obtain ⟨x0, x1, x2, r0, HO⟩ := hso _ _ rfl rfl
      have hw : ∀ j, wr.frozen? ⟨bc + 1, j, none⟩ = false := fun j => by simp [World.frozen?, r0]
      have hc : ∀ j, j < 3 → wr.cell? ⟨bc + 1, j, none⟩ = some (.slice none 0 0) := fun j hj => by
        simp only [World.cell?, r0]
        match j, hj with
        | 0, _ => rfl
        | 1, _ => rfl
        | 2, _ => rfl
      have h0 := hw 0
      have h1 := hw 1
      have h2 := hw 2
      have i0 := hc 0 (by omega)
      have i1 := hc 1 (by omega)
      have i2 := hc 2 (by omega)
      clear hw hc t1 r0
      go_wp2_with fail
      exact swap_end rfl HO.out.1 ⟨_, rfl, by rw [HBC.out]; exact HO.out.2.1, by rw [HBC.out]; exact HO.out.2.2⟩
end Go.Proofs.YtckdgniecdfedaaGreatDoor
end
section
/- The walk of the reference's view of a game by the player 1. -/
namespace Go.Proofs.YtckdgniecdfedaaGreatDoor
open Go.RowKit

set_option maxRecDepth 100000 in
set_option maxHeartbeats 4000000 in
theorem view109_1 (w : World) (o p : List Int) (s : List (List Int)) (a0 a1 a2 : Option Addr) (c0 c1 c2 : Nat) (hno : Nums w (.slice a0 o.length c0) o) (hnp : Nums w (.slice a1 p.length c1) p) (ho : o.length ≤ 3000) (hp : p.length ≤ 3000) (hs : RowsC w (.slice a2 s.length c2) s) (hpb : ∀ x ∈ p, x ≤ 99) (hg : Good o p s) (hpb12 : ∀ x ∈ p, x ≤ 12) :
    Calls Tryz.prog 109 #[.agg #[.slice a0 o.length c0, .slice a1 p.length c1, .slice a2 s.length c2], .int .i64 1] w (Viewed w) := by
  obtain ⟨w1, e1, hs1, hb1, hc1⟩ := game_box w #[.slice a0 o.length c0, .slice a1 p.length c1, .slice a2 s.length c2] 39
  obtain ⟨w2, e2, hs2, hb2, hc2⟩ := game_box w1 #[.slice none 0 0, .slice none 0 0, .slice none 0 0] 39
  have hb12 : Below w.heap.size w w2 := hb1.trans (hb2.mono (by omega))
  have HV := Lib.hid (valid15 w2 o p s a0 a1 a2 c0 c1 c2 (hno.keep hb12) (hnp.keep hb12) (by omega) (by omega) (hs.keep hb12))
  have HP := Lib.hid (hnp.keep hb12)
  have HB := Lib.hid hb12
  have HS := Lib.hid (show w2.heap.size = w.heap.size + 1 + 1 by omega)
  have HPB := Lib.hid hpb
  have E1 := Lib.hid e1
  have E2 := Lib.hid e2
  have HC : Hid (∀ wr, Below (w.heap.size + 1 + 1) w2 wr → ∀ j, wr.cell? ⟨w.heap.size, j, none⟩ = #[Value.slice a0 o.length c0, .slice a1 p.length c1, .slice a2 s.length c2][j]?) := Lib.hid fun wr hB j =>
    hc1 wr ((hb2.mono (by omega)).trans (hB.mono (by omega))) j
  have HR : Hid (∀ wr, Below (w.heap.size + 1 + 1) w2 wr → wr.heap[w.heap.size + 1]? = some (.cells #[.slice none 0 0, .slice none 0 0, .slice none 0 0] 39 (0, 0))) := Lib.hid fun wr hB => by
    rw [hB.block _ (by omega), e2]
    have := heap_alloc_new w1 (.cells #[.slice none 0 0, .slice none 0 0, .slice none 0 0] 39)
    rw [hs1] at this
    exact this
  have HNP := Lib.hid hnp
  have HIN := Lib.hid (And.intro hno (And.intro hnp (And.intro hs (And.intro hg hpb12))))
  clear hno hnp hs hpb e1 hs1 hb1 hc1 e2 hs2 hb2 hc2 hb12
  go_enter Tryz.func109, Tryz.ntmps109
  go_upto_region 1 with fail
  rw [← E1.out, ← E2.out]
  clear E1 E2
  generalize Value.agg #[.slice a0 o.length c0, .slice a1 p.length c1, .slice a2 s.length c2] = v0
  generalize hbc : w.heap.size = bc at HC HR HS HB ⊢
  have HBC := Lib.hid hbc
  clear hbc
  have t0 := HC.out w2 (Below.refl _ _) 0
  have t1 := HC.out w2 (Below.refl _ _) 1
  have t2 := HC.out w2 (Below.refl _ _) 2
  simp only [List.getElem?_toArray, List.getElem?_cons_succ, List.getElem?_cons_zero] at t0 t1 t2
  go_wp2_with fail
  refine HV.out.mono ?_
  rintro e w3 ⟨b, rfl, hq, hB⟩
  have HX : Hid (Below (bc + 1 + 1) w2 w3) := Lib.hid (hB.mono (Nat.le_of_eq HS.out.symm))
  have HQ := Lib.hid hq
  clear hB hq t0 t1 t2
  have t0 := HC.out w3 HX.out 0
  have t1 := HC.out w3 HX.out 1
  have t2 := HC.out w3 HX.out 2
  simp only [List.getElem?_toArray, List.getElem?_cons_succ, List.getElem?_cons_zero] at t0 t1 t2
  by_cases hb : b = true
  case neg =>
    obtain rfl : b = false := by simpa using hb
    have r0 := HR.out w3 HX.out
    have hw : ∀ j, w3.frozen? ⟨bc + 1, j, none⟩ = false := fun j => by simp [World.frozen?, r0]
    have hc : ∀ j, j < 3 → w3.cell? ⟨bc + 1, j, none⟩ = some (.slice none 0 0) := fun j hj => by
      simp only [World.cell?, r0]
      match j, hj with
      | 0, _ => rfl
      | 1, _ => rfl
      | 2, _ => rfl
    have h0 := hw 0
    have h1 := hw 1
    have h2 := hw 2
    have i0 := hc 0 (by omega)
    have i1 := hc 1 (by omega)
    have i2 := hc 2 (by omega)
    clear hw hc hb
    have HR0 := Lib.hid r0
    clear r0
    have HBW : Hid (Below bc w w3) := Lib.hid (HB.out.trans (HX.out.mono (by omega)))
    go_wp2_with fail
    obtain ⟨e0, e1, e2, e3, -⟩ := stored3 (.slice none 0 0) (.slice none 0 0) (.slice none 0 0) HR0.out HBW.out
    exact view_end rfl rfl e0 e1 e2 ⟨_, false, rfl, gameOut_none _, by rw [HBC.out]; exact e3⟩
  subst hb
  obtain ⟨g, hg⟩ : ∃ g, greatF p = g := ⟨_, rfl⟩
  have hg1 : g ≤ 99 := by rw [← hg]; exact greatF_le (by omega) p HPB.out
  have hq := greatest50 w3 p a1 c1 (.slice a0 o.length c0) (.slice a2 s.length c2) (HP.out.keep (HX.out.mono (Nat.le_of_eq HS.out))) (by omega)
  rw [hg] at hq
  have hd : decide ((30000 : Int) ≤ g) = false := by simp; omega
  clear hg hg1
  go_wp2_with fail
  refine hq.mono ?_
  rintro e w4 ⟨rfl, hB⟩
  have HY : Hid (Below (bc + 1 + 1) w2 w4) := Lib.hid (HX.out.trans (hB.mono (by have h1 := HX.out.size; have h2 := HS.out; omega)))
  clear hB hq t0 t1 t2
  have t0 := HC.out w4 HY.out 0
  have t1 := HC.out w4 HY.out 1
  have t2 := HC.out w4 HY.out 2
  simp only [List.getElem?_toArray, List.getElem?_cons_succ, List.getElem?_cons_zero] at t0 t1 t2
  have hsw := swap163 w4 o p s a0 a1 a2 c0 c1 c2 (HIN.out.1.keep (by rw [HBC.out]; exact HB.out.trans (HY.out.mono (by omega)))) (HIN.out.2.1.keep (by rw [HBC.out]; exact HB.out.trans (HY.out.mono (by omega)))) (HIN.out.2.2.1.keep (by rw [HBC.out]; exact HB.out.trans (HY.out.mono (by omega)))) HIN.out.2.2.2.1 HIN.out.2.2.2.2
  go_wp2_with fail
  refine hsw.mono ?_
  rintro e w5 ⟨v, rfl, hgo, hB5⟩
  have HY5 : Hid (Below (bc + 1 + 1) w2 w5) := Lib.hid (HY.out.trans (hB5.mono (by have h1 := HY.out.size; have h2 := HS.out; omega)))
  obtain ⟨b0, b1, b2, m0, m2, d0, d1, d2, q, rfl, hgo⟩ := hgo
  have HGO := Lib.hid hgo
  clear hB5 hsw t0 t1 t2 hgo
  have r0 := HR.out w5 HY5.out
  have hw : ∀ j, w5.frozen? ⟨bc + 1, j, none⟩ = false := fun j => by simp [World.frozen?, r0]
  have hc : ∀ j, j < 3 → w5.cell? ⟨bc + 1, j, none⟩ = some (.slice none 0 0) := fun j hj => by
    simp only [World.cell?, r0]
    match j, hj with
    | 0, _ => rfl
    | 1, _ => rfl
    | 2, _ => rfl
  have h0 := hw 0
  have h1 := hw 1
  have h2 := hw 2
  have i0 := hc 0 (by omega)
  have i1 := hc 1 (by omega)
  have i2 := hc 2 (by omega)
  clear hw hc
  have HR0 := Lib.hid r0
  clear r0
  have HBW : Hid (Below bc w w5) := Lib.hid (HB.out.trans (HY5.out.mono (by omega)))
  go_wp2_with fail
  obtain ⟨e0, e1, e2, e3, -⟩ := stored3 (.slice b0 m0 d0) (.slice b1 q.length d1) (.slice b2 m2 d2) HR0.out HBW.out
  refine view_end rfl rfl e0 e1 e2 ⟨_, true, rfl, ⟨b0, b1, b2, m0, m2, d0, d1, d2, q, rfl, HGO.out.1.far (by simp) (fun ad e => ?_), HGO.out.2.1, HGO.out.2.2.1, HGO.out.2.2.2.1⟩, by rw [HBC.out]; exact e3⟩
  have hlt := HGO.out.2.2.2.2 ad e
  have hz : bc + 1 < w4.heap.size := by have h1 := HY.out.size; have h2 := HS.out; omega
  rw [heap_setCell_other _ _ _ _ (show ad.block ≠ bc + 1 by omega), heap_setCell_other _ _ _ _ (show ad.block ≠ bc + 1 by omega), heap_setCell_other _ _ _ _ (show ad.block ≠ bc + 1 by omega)]
end Go.Proofs.YtckdgniecdfedaaGreatDoor
end
