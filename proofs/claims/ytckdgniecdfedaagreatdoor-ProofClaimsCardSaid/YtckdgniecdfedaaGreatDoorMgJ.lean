/- The walks of the comparators of games and formulas. -/
import Derived.Test.YtckdgniecdfedaaGreatDoorMgF
import Derived.Test.YtckdgniecdfedaaGreatDoorMgG
import Derived.StillTailTactics
section
/- The walk of the comparator of games. -/
namespace Go.Proofs.YtckdgniecdfedaaGreatDoor
open Go.RowKit

set_option maxRecDepth 100000 in
set_option maxHeartbeats 2000000 in
theorem same30 {u v s u' v' s' : Value} (w : World) (A B C D : List Int) (X Y : List (List Int)) (hA : Nums w u A) (hB : Nums w v B) (hX : RowsV w s X) (hC : Nums w u' C) (hD : Nums w v' D) (hY : RowsV w s' Y)
    (lA : A.length ≤ 9223372036854775807) (lB : B.length ≤ 9223372036854775807) (lC : C.length ≤ 9223372036854775807) (lD : D.length ≤ 9223372036854775807) :
    Calls Tryz.prog 30 #[.agg #[u, v, s], .agg #[u', v', s']] w (Cmp w (A = C ∧ B = D ∧ X = Y)) := by
  have HA := Lib.hid hA
  have HB := Lib.hid hB
  have HC := Lib.hid hC
  have HD := Lib.hid hD
  have HX := Lib.hid hX
  have HY := Lib.hid hY
  obtain ⟨a1, c1, rfl, -⟩ := hA
  obtain ⟨a2, c2, rfl, -⟩ := hB
  obtain ⟨a3, c3, rfl, lX, -⟩ := hX
  obtain ⟨b1, d1, rfl, -⟩ := hC
  obtain ⟨b2, d2, rfl, -⟩ := hD
  obtain ⟨b3, d3, rfl, lY, -⟩ := hY
  have HW : Hid (Below w.heap.size w ((w.alloc (.cells #[.slice a1 A.length c1, .slice a2 B.length c2, .slice a3 X.length c3] 39)).alloc (.cells #[.slice b1 C.length d1, .slice b2 D.length d2, .slice b3 Y.length d3] 39))) := Lib.hid (((Below.refl _ _).alloc (Nat.le_refl _) _).alloc (by simp) _)
  have old : ∀ j, ((w.alloc (.cells #[.slice a1 A.length c1, .slice a2 B.length c2, .slice a3 X.length c3] 39)).alloc (.cells #[.slice b1 C.length d1, .slice b2 D.length d2, .slice b3 Y.length d3] 39)).cell? ⟨w.heap.size, j, none⟩ = (#[.slice a1 A.length c1, .slice a2 B.length c2, .slice a3 X.length c3] : Array Value)[j]? := fun j => (World.cell?_alloc_past _ _ _ (by simp)).trans (cell_new w _ 39 j)
  have new : ∀ j, ((w.alloc (.cells #[.slice a1 A.length c1, .slice a2 B.length c2, .slice a3 X.length c3] 39)).alloc (.cells #[.slice b1 C.length d1, .slice b2 D.length d2, .slice b3 Y.length d3] 39)).cell? ⟨w.heap.size + 1, j, none⟩ = (#[.slice b1 C.length d1, .slice b2 D.length d2, .slice b3 Y.length d3] : Array Value)[j]? := fun j => by
    have h := cell_new (w.alloc (.cells #[.slice a1 A.length c1, .slice a2 B.length c2, .slice a3 X.length c3] 39)) #[.slice b1 C.length d1, .slice b2 D.length d2, .slice b3 Y.length d3] 39 j
    rw [World.size_alloc] at h
    exact h
  have p0 := old 0
  have p1 := old 1
  have p2 := old 2
  have q0 := new 0
  have q1 := new 1
  have q2 := new 2
  simp only [List.getElem?_toArray, List.getElem?_cons_succ, List.getElem?_cons_zero] at p0 p1 p2 q0 q1 q2
  clear old new
  go_enter Tryz.func30, Tryz.ntmps30
  go_wp2_with fail
  refine (ints18 _ (HA.out.keep HW.out) (HC.out.keep HW.out) lA lC).mono ?_
  rintro e' w1 ⟨rfl, n1, rfl⟩
  by_cases h1 : A = C
  case neg =>
    rw [same_not h1]
    have HN := Lib.hid h1
    clear h1
    go_wp2_with fail
    go_ret
    exact ⟨_, rfl, ⟨fun h => (by cases h), fun h => absurd h.1 HN.out⟩, below_drawn HW.out n1⟩
  rw [same_of h1]
  have H1 := Lib.hid h1
  clear h1
  go_wp2_with fail
  refine (ints18 _ (HB.out.keep (below_drawn HW.out n1)) (HD.out.keep (below_drawn HW.out n1)) lB lD).mono ?_
  rintro e' w2 ⟨rfl, n2, rfl⟩
  by_cases h2 : B = D
  case neg =>
    rw [same_not h2]
    have HN := Lib.hid h2
    clear h2
    go_wp2_with fail
    go_ret
    exact ⟨_, rfl, ⟨fun h => (by cases h), fun h => absurd h.2.1 HN.out⟩, below_drawn HW.out (n1 + n2)⟩
  rw [same_of h2]
  have H2 := Lib.hid h2
  clear h2
  by_cases h3 : X.length = Y.length
  case neg =>
    have hd : ((X.length : Int) != (Y.length : Int)) = true := by simp; omega
    have HN := Lib.hid h3
    clear h3
    go_wp2_with fail
    go_ret
    exact ⟨_, rfl, ⟨fun h => (by cases h), fun h => absurd (by rw [h.2.2]) HN.out⟩, below_drawn HW.out (n1 + n2)⟩
  have hd : ((X.length : Int) != (Y.length : Int)) = false := by simp [h3]
  have H3 := Lib.hid h3
  clear h3
  go_wp2_with fail
  clear p0 p1 q0 q1
  go_loopw [5] (fun i wr => ∃ k m : Nat, k ≤ X.length ∧ i = .int .i64 k ∧ wr = ((w.alloc (.cells #[.slice a1 A.length c1, .slice a2 B.length c2, .slice a3 X.length c3] 39)).alloc (.cells #[.slice b1 C.length d1, .slice b2 D.length d2, .slice b3 Y.length d3] 39)).drewN m ∧ Hid (X.take k = Y.take k)) (fun i _ => X.length - (intOf i).toNat)
  case atStart => exact ⟨0, n1 + n2, Nat.zero_le _, rfl, rfl, Lib.hid rfl⟩
  case round =>
    obtain ⟨k, m, hk, rfl, rfl, HT⟩ := hrel
    have hB' := below_drawn HW.out m
    have r2 : (((w.alloc (.cells #[.slice a1 A.length c1, .slice a2 B.length c2, .slice a3 X.length c3] 39)).alloc (.cells #[.slice b1 C.length d1, .slice b2 D.length d2, .slice b3 Y.length d3] 39)).drewN m).cell? ⟨w.heap.size, 2, none⟩ = _ := p2
    have s2 : (((w.alloc (.cells #[.slice a1 A.length c1, .slice a2 B.length c2, .slice a3 X.length c3] 39)).alloc (.cells #[.slice b1 C.length d1, .slice b2 D.length d2, .slice b3 Y.length d3] 39)).drewN m).cell? ⟨w.heap.size + 1, 2, none⟩ = _ := q2
    generalize hwr : ((w.alloc (.cells #[.slice a1 A.length c1, .slice a2 B.length c2, .slice a3 X.length c3] 39)).alloc (.cells #[.slice b1 C.length d1, .slice b2 D.length d2, .slice b3 Y.length d3] 39)).drewN m = wr at *
    have HWR := Lib.hid hwr
    have HB2 := Lib.hid hB'
    clear hwr hB' p2 q2
    by_cases hlt : k < X.length
    · have hltB : k < Y.length := by have := H3.out; omega
      obtain ⟨_, _, ev, _, hv⟩ := (HX.out.keep HB2.out)
      simp only [Value.slice.injEq, true_and] at ev
      obtain ⟨rfl, rfl⟩ := ev
      obtain ⟨e1, o1, rfl, hb1, hr⟩ := hv (fun e => by rw [e] at hlt; simp at hlt)
      obtain ⟨l1, x1, y1, k1, m1⟩ := hr k hlt
      obtain ⟨_, _, ev', _, hv'⟩ := (HY.out.keep HB2.out)
      simp only [Value.slice.injEq, true_and] at ev'
      obtain ⟨rfl, rfl⟩ := ev'
      obtain ⟨e2, o2, rfl, hb2, hr'⟩ := hv' (fun e => by rw [e] at hltB; simp at hltB)
      obtain ⟨l2, x2, y2, k2, m2⟩ := hr' k hltB
      have HS : Hid (X[k] = Y[k] → X.take (k + 1) = Y.take (k + 1)) := Lib.hid fun e => by rw [List.take_succ_eq_append_getElem hlt, List.take_succ_eq_append_getElem hltB, HT.out, e]
      have HF : Hid (X[k] ≠ Y[k] → X ≠ Y) := Lib.hid fun e h => e (by subst h; rfl)
      have hd1 : decide (k < X.length) = true := by simpa using hlt
      have hd2 : decide (k < Y.length) = true := by simpa using hltB
      have q : ∀ p, Calls Tryz.prog 18 #[.slice x1 X[k].length y1, .slice x2 Y[k].length y2] (wr.drewN p) fun e w' => e = .returned (.bool (sameB X[k] Y[k])) ∧ ∃ m', w' = (wr.drewN p).drewN m' := fun p => ints18 (wr.drewN p) (m1.drawn p) (m2.drawn p) l1 l2
      clear hv hv' hr hr' m1 m2
      generalize X[k] = x at *
      generalize Y[k] = y at *
      by_cases hxy : x = y
      · have HT' := Lib.hid (HS.out hxy)
        have e1 := same_of hxy
        rw [e1] at q
        clear hxy HS HF e1
        go_wp2_with fail
        go_quiet ((go_at_call 18; with_reducible exact Calls.quiet_of (q _)))
        go_wp2_with fail
        go_roundw
        case rel => exact ⟨k + 1, m + nq, by omega, by go_num, by rw [← HWR.out, World.drewN_drewN], HT'⟩
        case measure => simp [intOf]; omega
      · have HF' := Lib.hid (HF.out hxy)
        have e1 := same_not hxy
        rw [e1] at q
        clear hxy HS HF e1
        go_wp2_with fail
        go_quiet ((go_at_call 18; with_reducible exact Calls.quiet_of (q _)))
        go_wp2_with fail
        go_ret
        exact ⟨_, rfl, ⟨fun h => (by cases h), fun h => absurd h.2.2 HF'.out⟩, below_drawn HB2.out nq⟩
    · obtain rfl : k = X.length := by omega
      have HS : Hid (X = Y) := Lib.hid (by have := HT.out; rw [List.take_of_length_le (Nat.le_refl _), List.take_of_length_le (by rw [H3.out]; exact Nat.le_refl _)] at this; exact this)
      go_wp2_with fail
      go_ret
      exact ⟨_, rfl, ⟨fun _ => ⟨H1.out, H2.out, HS.out⟩, fun _ => rfl⟩, HB2.out⟩
end Go.Proofs.YtckdgniecdfedaaGreatDoor
end
section
/- The walk of Compare: it is zero for equal formulas alone. -/
namespace Go.Proofs.YtckdgniecdfedaaGreatDoor
open Go.RowKit

/-- some number is handed back; it is zero just if Q -/
def Ord (w : World) (Q : Prop) (e : Ending) (w' : World) : Prop := ∃ k : Int, e = .returned (.int .i64 k) ∧ (k = 0 ↔ Q) ∧ Below w.heap.size w w'

theorem loop_list (bs : ByteArray) : ∀ (n i : Nat) (r : List UInt8), bs.size - i = n → ByteArray.toList.loop bs i r = r.reverse ++ bs.data.toList.drop i := by
  intro n
  induction n with
  | zero =>
    intro i r h
    unfold ByteArray.toList.loop
    rw [if_neg (by omega), List.drop_of_length_le (by simp; exact Nat.le_of_sub_eq_zero h)]
    simp
  | succ n ih =>
    intro i r h
    unfold ByteArray.toList.loop
    have hi : i < bs.size := by omega
    have hi' : i < bs.data.toList.length := by simpa using hi
    rw [if_pos hi, ih (i + 1) _ (by omega), List.drop_eq_getElem_cons hi']
    have e : bs.get! i = bs.data.toList[i] := by
      have : i < bs.data.size := hi
      simp only [ByteArray.get!]
      rw [getElem!_pos bs.data i this]
      simp
    rw [e]
    simp
theorem list_of (bs : ByteArray) : bs.toList = bs.data.toList := by
  have := loop_list bs _ 0 [] rfl
  simp only [List.reverse_nil, List.nil_append, List.drop_zero] at this
  exact this
theorem name_eq {a b : ByteArray} (h : a.toList = b.toList) : a = b := bytes_eq (by rw [← list_of, ← list_of]; exact h)

/-- the world with two blocks more -/
theorem two_boxes (w : World) (cs ds : Array Value) (t u : TypeId) : ∃ w2, w2 = (w.alloc (.cells cs t)).alloc (.cells ds u) ∧ w2.heap.size = w.heap.size + 1 + 1 ∧ Below w.heap.size w w2 ∧ (∀ wr, Below (w.heap.size + 1 + 1) w2 wr → (∀ j, wr.cell? ⟨w.heap.size, j, none⟩ = cs[j]?) ∧ ∀ j, wr.cell? ⟨w.heap.size + 1, j, none⟩ = ds[j]?) := by
  refine ⟨_, rfl, by simp, ((Below.refl _ _).alloc (Nat.le_refl _) _).alloc (by simp) _, fun wr hB => ⟨fun j => ?_, fun j => ?_⟩⟩
  · exact (hB.cell (p := ⟨w.heap.size, j, none⟩) (show w.heap.size < _ by omega)).trans ((World.cell?_alloc_past _ _ _ (by simp)).trans (cell_new w cs t j))
  · refine (hB.cell (p := ⟨w.heap.size + 1, j, none⟩) (show w.heap.size + 1 < _ by omega)).trans ?_
    have h := cell_new (w.alloc (.cells cs t)) ds u j
    rw [World.size_alloc] at h
    exact h

theorem h_drop {f g : Fs} (h : f.drop 0 = g.drop 0) : f = g := by cases f <;> cases g <;> simp_all [Fs.drop]

set_option maxRecDepth 100000 in
set_option maxHeartbeats 4000000 in
theorem compare_any : ∀ (N : Nat) (f g : Fs), f.nodes < N → ∀ (w : World) (op v bd op' v' bd' : Int) (nm nm' : ByteArray) (a a' : Option Addr) (c c' : Nat), f.len ≤ 9223372036854775807 → g.len ≤ 9223372036854775807 → FArgs w a f → FArgs w a' g →
    Calls Tryz.prog 85 #[.agg #[.int .i64 op, .string nm, .int .i64 v, .int .i64 bd, .slice a f.len c], .agg #[.int .i64 op', .string nm', .int .i64 v', .int .i64 bd', .slice a' g.len c']] w (Ord w (op = op' ∧ nm = nm' ∧ v = v' ∧ bd = bd' ∧ f = g)) := by
  intro N
  induction N with
  | zero =>
    intro f g hf
    omega
  | succ N ih =>
    intro f g hf w op v bd op' v' bd' nm nm' a a' c c' hl hl' hv hv'
    have HI := Lib.hid ih
    have HV := Lib.hid hv
    have HV' := Lib.hid hv'
    obtain ⟨w2, e2, hs2, hb2, hc2⟩ := two_boxes w #[.int .i64 op, .string nm, .int .i64 v, .int .i64 bd, .slice a f.len c] #[.int .i64 op', .string nm', .int .i64 v', .int .i64 bd', .slice a' g.len c'] 48 48
    have E2 := Lib.hid e2
    have HS := Lib.hid hs2
    have HB := Lib.hid hb2
    have HC := Lib.hid hc2
    clear ih hv hv' e2 hs2 hb2 hc2
    go_enter Tryz.func85, Tryz.ntmps85
    go_upto_region 1 with fail
    rw [← E2.out]
    clear E2
    generalize hbc : w.heap.size = bc at HS HC ⊢
    have HBC := Lib.hid hbc
    clear hbc
    obtain ⟨x1, x2⟩ := HC.out w2 (Below.refl _ _)
    have p0 := x1 0
    have p1 := x1 1
    have p2 := x1 2
    have p3 := x1 3
    have p4 := x1 4
    have q0 := x2 0
    have q1 := x2 1
    have q2 := x2 2
    have q3 := x2 3
    have q4 := x2 4
    clear x1 x2
    simp only [List.getElem?_toArray, List.getElem?_cons_succ, List.getElem?_cons_zero] at p0 p1 p2 p3 p4 q0 q1 q2 q3 q4
    go_wp2_with fail
    refine (ints135 _ op op').mono ?_
    rintro e w3 ⟨rfl, rfl⟩
    have HO := Lib.hid (ord_zero (x := op) (y := op'))
    generalize ord op op' = k1 at HO ⊢
    by_cases hx : op = op'
    case neg =>
      have HX := Lib.hid hx
      have HK : Hid (k1 ≠ 0) := Lib.hid fun h => hx (HO.out.1 h)
      have hk : (k1 == 0) = false := by simpa using HK.out
      clear hx
      go_wp2_with fail
      refine wp_loop_rounds 1 ?_
      rw [rounds_succ]
      by_cases hz : 0 < f.len
      · have hdz : decide (0 < f.len) = true := by simpa using hz
        clear hz
        go_wp2_with fail
        go_ret
        exact ⟨_, rfl, ⟨fun h => absurd h HK.out, fun h => absurd h.1 HX.out⟩, HB.out⟩
      · have hdz : decide (0 < f.len) = false := by simpa using hz
        clear hz
        go_wp2_with fail
        go_ret
        exact ⟨_, rfl, ⟨fun h => absurd h HK.out, fun h => absurd h.1 HX.out⟩, HB.out⟩
    have HXh1 := Lib.hid hx
    obtain rfl : k1 = 0 := HO.out.2 hx
    clear hx HO
    by_cases hx : nm = nm'
    case neg =>
      have HX := Lib.hid hx
      have hs : (nm.toList == nm'.toList) = false := by
        simp only [beq_eq_false_iff_ne, ne_eq]
        exact fun h => hx (name_eq h)
      clear hx
      go_upto_region 4 with fail
      go_upto_region 6 with fail
      all_goals (
        go_wp2_with fail
        refine wp_loop_rounds 1 ?_
        rw [rounds_succ]
        by_cases hz : 0 < f.len
        · have hdz : decide (0 < f.len) = true := by simpa using hz
          clear hz
          go_wp2_with fail
          go_ret
          exact ⟨_, rfl, ⟨fun h => absurd h (by decide), fun h => absurd h.2.1 HX.out⟩, HB.out⟩
        · have hdz : decide (0 < f.len) = false := by simpa using hz
          clear hz
          go_wp2_with fail
          go_ret
          exact ⟨_, rfl, ⟨fun h => absurd h (by decide), fun h => absurd h.2.1 HX.out⟩, HB.out⟩
      )
    have HXh21 := Lib.hid hx
    have hs : (nm.toList == nm'.toList) = true := by simp [hx]
    clear hx
    go_wp2_with fail
    refine (ints135 _ v v').mono ?_
    rintro e w3 ⟨rfl, rfl⟩
    have HO := Lib.hid (ord_zero (x := v) (y := v'))
    generalize ord v v' = k1 at HO ⊢
    by_cases hx : v = v'
    case neg =>
      have HX := Lib.hid hx
      have HK : Hid (k1 ≠ 0) := Lib.hid fun h => hx (HO.out.1 h)
      have hk : (k1 == 0) = false := by simpa using HK.out
      clear hx
      go_wp2_with fail
      refine wp_loop_rounds 1 ?_
      rw [rounds_succ]
      by_cases hz : 0 < f.len
      · have hdz : decide (0 < f.len) = true := by simpa using hz
        clear hz
        go_wp2_with fail
        go_ret
        exact ⟨_, rfl, ⟨fun h => absurd h HK.out, fun h => absurd h.2.2.1 HX.out⟩, HB.out⟩
      · have hdz : decide (0 < f.len) = false := by simpa using hz
        clear hz
        go_wp2_with fail
        go_ret
        exact ⟨_, rfl, ⟨fun h => absurd h HK.out, fun h => absurd h.2.2.1 HX.out⟩, HB.out⟩
    have HXh221 := Lib.hid hx
    obtain rfl : k1 = 0 := HO.out.2 hx
    clear hx HO
    go_wp2_with fail
    refine (ints135 _ bd bd').mono ?_
    rintro e w3 ⟨rfl, rfl⟩
    have HO := Lib.hid (ord_zero (x := bd) (y := bd'))
    generalize ord bd bd' = k1 at HO ⊢
    by_cases hx : bd = bd'
    case neg =>
      have HX := Lib.hid hx
      have HK : Hid (k1 ≠ 0) := Lib.hid fun h => hx (HO.out.1 h)
      have hk : (k1 == 0) = false := by simpa using HK.out
      clear hx
      go_wp2_with fail
      refine wp_loop_rounds 1 ?_
      rw [rounds_succ]
      by_cases hz : 0 < f.len
      · have hdz : decide (0 < f.len) = true := by simpa using hz
        clear hz
        go_wp2_with fail
        go_ret
        exact ⟨_, rfl, ⟨fun h => absurd h HK.out, fun h => absurd h.2.2.2.1 HX.out⟩, HB.out⟩
      · have hdz : decide (0 < f.len) = false := by simpa using hz
        clear hz
        go_wp2_with fail
        go_ret
        exact ⟨_, rfl, ⟨fun h => absurd h HK.out, fun h => absurd h.2.2.2.1 HX.out⟩, HB.out⟩
    have HXh2221 := Lib.hid hx
    obtain rfl : k1 = 0 := HO.out.2 hx
    clear hx HO
    go_wp2_with fail
    refine (ints135 _ (f.len : Int) (g.len : Int)).mono ?_
    rintro e w3 ⟨rfl, rfl⟩
    have HO := Lib.hid (ord_zero (x := (f.len : Int)) (y := (g.len : Int)))
    generalize ord (f.len : Int) (g.len : Int) = k1 at HO ⊢
    by_cases hx : (f.len : Int) = (g.len : Int)
    case neg =>
      have HX := Lib.hid hx
      have HK : Hid (k1 ≠ 0) := Lib.hid fun h => hx (HO.out.1 h)
      have hk : (k1 == 0) = false := by simpa using HK.out
      clear hx
      go_wp2_with fail
      refine wp_loop_rounds 1 ?_
      rw [rounds_succ]
      by_cases hz : 0 < f.len
      · have hdz : decide (0 < f.len) = true := by simpa using hz
        clear hz
        go_wp2_with fail
        go_ret
        exact ⟨_, rfl, ⟨fun h => absurd h HK.out, fun h => absurd (congrArg (fun t : Fs => (t.len : Int)) h.2.2.2.2) HX.out⟩, HB.out⟩
      · have hdz : decide (0 < f.len) = false := by simpa using hz
        clear hz
        go_wp2_with fail
        go_ret
        exact ⟨_, rfl, ⟨fun h => absurd h HK.out, fun h => absurd (congrArg (fun t : Fs => (t.len : Int)) h.2.2.2.2) HX.out⟩, HB.out⟩
    have HXlen := Lib.hid hx
    obtain rfl : k1 = 0 := HO.out.2 hx
    clear hx HO
    clear p0 p1 p2 p3 q0 q1 q2 q3 p4 q4 hs
    go_wp2_with fail
    go_loopw [5, 6] (fun x i wr => ∃ (j : Nat) (k : Int), j ≤ f.len ∧ i = .int .i64 j ∧ x = .int .i64 k ∧ Hid (Below (bc + 1 + 1) w3 wr) ∧ Hid (k = 0 → f.drop j = g.drop j → f = g) ∧ Hid (k ≠ 0 → ¬ f = g)) (fun _ i _ => f.len - (intOf i).toNat)
    case atStart => exact ⟨0, 0, Nat.zero_le _, rfl, rfl, Lib.hid (Below.refl _ _), Lib.hid (fun _ h => h_drop h), Lib.hid (fun h => absurd rfl h)⟩
    case round =>
      obtain ⟨j, k, hj, rfl, rfl, HBR, HE, HNE⟩ := hrel
      have HW2 : Hid (Below w.heap.size w wr) := Lib.hid (HB.out.trans (HBR.out.mono (by rw [HBC.out]; omega)))
      have r4 := (HC.out wr HBR.out).1 4
      have s4 := (HC.out wr HBR.out).2 4
      simp only [List.getElem?_toArray, List.getElem?_cons_succ, List.getElem?_cons_zero] at r4 s4
      by_cases hk : k = 0
      case neg =>
        have HK := Lib.hid hk
        have hkd : (k == 0) = false := by simpa using hk
        clear hk
        by_cases hlt : j < f.len
        · have hd : decide (j < f.len) = true := by simpa using hlt
          clear hlt
          go_wp2_with fail
          go_ret
          exact ⟨_, rfl, ⟨fun h => absurd h HK.out, fun h => absurd h.2.2.2.2 (HNE.out HK.out)⟩, HW2.out⟩
        · have hd : decide (j < f.len) = false := by simpa using hlt
          clear hlt
          go_wp2_with fail
          go_ret
          exact ⟨_, rfl, ⟨fun h => absurd h HK.out, fun h => absurd h.2.2.2.2 (HNE.out HK.out)⟩, HW2.out⟩
      subst hk
      by_cases hlt : j < f.len
      case neg =>
        have hd : decide (j < f.len) = false := by simpa using hlt
        have HF : Hid (f = g) := Lib.hid (HE.out (by first | rfl | trivial) (by
          have h1 := Fs.drop_len f j
          have h2 := Fs.drop_len g j
          have h3 := HXlen.out
          cases e1 : f.drop j with
          | cons => rw [e1] at h1; simp [Fs.len] at h1; omega
          | nil =>
            cases e2 : g.drop j with
            | cons => rw [e2] at h2; simp [Fs.len] at h2; omega
            | nil => rfl))
        clear hlt
        go_wp2_with fail
        go_ret
        exact ⟨_, rfl, ⟨fun _ => ⟨HXh1.out, HXh21.out, HXh221.out, HXh2221.out, HF.out⟩, fun _ => rfl⟩, HW2.out⟩
      have hd : decide (j < f.len) = true := by simpa using hlt
      have hltg : j < g.len := by have := HXlen.out; omega
      obtain ⟨b1, o1, rfl, hb1, hat⟩ := HV.out (by omega)
      obtain ⟨b2, o2, rfl, hb2, hat'⟩ := HV'.out (by omega)
      have hfat := FAt.keep HW2.out hb1 (FAt.drop j hat)
      have hgat := FAt.keep HW2.out hb2 (FAt.drop j hat')
      have hdl := Fs.drop_len f j
      have hdl' := Fs.drop_len g j
      cases hfd : f.drop j with
      | nil => rw [hfd] at hdl; simp [Fs.len] at hdl; omega
      | cons op1 nm1 v1 bd1 sub1 rest1 =>
        cases hgd : g.drop j with
        | nil => rw [hgd] at hdl'; simp [Fs.len] at hdl'; omega
        | cons op2 nm2 v2 bd2 sub2 rest2 =>
          rw [hfd] at hfat
          rw [hgd] at hgat
          have hdn := Fs.drop_nodes f j
          rw [hfd] at hdn
          obtain ⟨c0, c1, c2, c3, c4, c5, ⟨a3, c3', c6, -, c7⟩, -⟩ := hfat
          obtain ⟨d0, d1, d2, d3, d4, d5, ⟨a4, c4', d6, -, d7⟩, -⟩ := hgat
          have HS1 := Lib.hid (Fs.drop_succ hfd)
          have HS2 := Lib.hid (Fs.drop_succ hgd)
          have HFD := Lib.hid hfd
          have HGD := Lib.hid hgd
          have hb1' : b1 < wr.heap.size := Nat.lt_of_lt_of_le hb1 HW2.out.size
          have hb2' : b2 < wr.heap.size := Nat.lt_of_lt_of_le hb2 HW2.out.size
          have hbc' : bc + 1 < wr.heap.size := by have := HBR.out.size; have := HS.out; omega
          have HC1 := Lib.hid (HI.out sub1 sub2 (by simp only [Fs.nodes] at hdn; omega) (wr.drewN 1) op1 v1 bd1 op2 v2 bd2 nm1 nm2 a3 a4 c3' c4' c5 d5 (fun h0 => by
            obtain ⟨b', o', e', hb', h'⟩ := c7 h0
            exact ⟨b', o', e', hb', FAt.drawn 1 h'⟩) (fun h0 => by
            obtain ⟨b', o', e', hb', h'⟩ := d7 h0
            exact ⟨b', o', e', hb', FAt.drawn 1 h'⟩))
          clear hat hat' hfd hgd c7 d7 hdl hdl' hdn
          go_wp2_with fail
          go_region_held3 (fun w' => w'.cell? ⟨bc, 4, none⟩ = some (.slice (some ⟨b1, o1, none⟩) f.len c) ∧ w'.cell? ⟨bc + 1, 4, none⟩ = some (.slice (some ⟨b2, o2, none⟩) g.len c') ∧
            w'.cell? ⟨b1, o1 + j * 5, none⟩ = some (.int .i64 op1) ∧ w'.cell? ⟨b1, o1 + j * 5 + 1, none⟩ = some (.string nm1) ∧ w'.cell? ⟨b1, o1 + j * 5 + 2, none⟩ = some (.int .i64 v1) ∧ w'.cell? ⟨b1, o1 + j * 5 + 3, none⟩ = some (.int .i64 bd1) ∧ w'.cell? ⟨b1, o1 + j * 5 + 4, none⟩ = some (.slice a3 sub1.len c3') ∧
            w'.cell? ⟨b2, o2 + j * 5, none⟩ = some (.int .i64 op2) ∧ w'.cell? ⟨b2, o2 + j * 5 + 1, none⟩ = some (.string nm2) ∧ w'.cell? ⟨b2, o2 + j * 5 + 2, none⟩ = some (.int .i64 v2) ∧ w'.cell? ⟨b2, o2 + j * 5 + 3, none⟩ = some (.int .i64 bd2) ∧ w'.cell? ⟨b2, o2 + j * 5 + 4, none⟩ = some (.slice a4 sub2.len c4')) (go_keep)
            (first | (go_at_call 85; refine HC1.out.mono ?_; rintro e' w4 ⟨k', rfl, hk', hB4⟩; have y0 := (hB4.cell (p := ⟨bc, 4, none⟩) (show bc < wr.heap.size by omega)).trans r4; have y1 := (hB4.cell (p := ⟨bc + 1, 4, none⟩) hbc').trans s4; have y2 := (hB4.cell (p := ⟨b1, o1 + j * 5, none⟩) hb1').trans c0; have y3 := (hB4.cell (p := ⟨b1, o1 + j * 5 + 1, none⟩) hb1').trans c1; have y4 := (hB4.cell (p := ⟨b1, o1 + j * 5 + 2, none⟩) hb1').trans c3; have y5 := (hB4.cell (p := ⟨b1, o1 + j * 5 + 3, none⟩) hb1').trans c4; have y6 := (hB4.cell (p := ⟨b1, o1 + j * 5 + 4, none⟩) hb1').trans c6; have z2 := (hB4.cell (p := ⟨b2, o2 + j * 5, none⟩) hb2').trans d0; have z3 := (hB4.cell (p := ⟨b2, o2 + j * 5 + 1, none⟩) hb2').trans d1; have z4 := (hB4.cell (p := ⟨b2, o2 + j * 5 + 2, none⟩) hb2').trans d3; have z5 := (hB4.cell (p := ⟨b2, o2 + j * 5 + 3, none⟩) hb2').trans d4; have z6 := (hB4.cell (p := ⟨b2, o2 + j * 5 + 4, none⟩) hb2').trans d6; have HB4 := Lib.hid hB4; have HK4 := Lib.hid hk';clear hB4 hk'))
          go_wp2_with fail
          go_roundw
          case rel => exact ⟨j + 1, k', by omega, by go_num, rfl, Lib.hid ((below_drawn HBR.out 1).trans (HB4.out.mono (by show _ ≤ wr.heap.size; have := HBR.out.size; rw [HS.out] at this; exact this))), Lib.hid (fun h0 h1 => HE.out (by first | rfl | trivial) (by
            rw [HFD.out, HGD.out]
            rw [HS1.out, HS2.out] at h1
            obtain ⟨e1, e2, e3, e4, e5⟩ := HK4.out.1 h0
            rw [e1, e2, e3, e4, e5, h1])), Lib.hid (fun h0 h1 => h0 (HK4.out.2 (by
            have h2 := HFD.out
            rw [h1, HGD.out] at h2
            simp only [Fs.cons.injEq] at h2
            exact ⟨h2.1.symm, h2.2.1.symm, h2.2.2.1.symm, h2.2.2.2.1.symm, h2.2.2.2.2.1.symm⟩)))⟩
          case measure => simp [intOf]; omega
end Go.Proofs.YtckdgniecdfedaaGreatDoor
end
section
/- The walks of Same and SameList of formulas. -/
namespace Go.Proofs.YtckdgniecdfedaaGreatDoor
open Go.RowKit

set_option maxRecDepth 100000 in
set_option maxHeartbeats 1000000 in
theorem same26 (f g : Fs) (w : World) (op v bd op' v' bd' : Int) (nm nm' : ByteArray) (a a' : Option Addr) (c c' : Nat) (hl : f.len ≤ 9223372036854775807) (hl' : g.len ≤ 9223372036854775807) (hv : FArgs w a f) (hv' : FArgs w a' g) :
    Calls Tryz.prog 26 #[.agg #[.int .i64 op, .string nm, .int .i64 v, .int .i64 bd, .slice a f.len c], .agg #[.int .i64 op', .string nm', .int .i64 v', .int .i64 bd', .slice a' g.len c']] w (Cmp w (op = op' ∧ nm = nm' ∧ v = v' ∧ bd = bd' ∧ f = g)) := by
  obtain ⟨w2, e2, hs2, hb2, hc2⟩ := two_boxes w #[.int .i64 op, .string nm, .int .i64 v, .int .i64 bd, .slice a f.len c] #[.int .i64 op', .string nm', .int .i64 v', .int .i64 bd', .slice a' g.len c'] 48 48
  have E2 := Lib.hid e2
  have HB := Lib.hid hb2
  have HC := Lib.hid hc2
  have HQ := Lib.hid (compare_any (f.nodes + 1) f g (Nat.lt_succ_self _) w2 op v bd op' v' bd' nm nm' a a' c c' hl hl' (hv.keep hb2) (hv'.keep hb2))
  clear hv hv' e2 hs2 hb2 hc2
  go_enter Tryz.func26, Tryz.ntmps26
  go_upto_region 1 with fail
  rw [← E2.out]
  clear E2
  obtain ⟨x1, x2⟩ := HC.out w2 (Below.refl _ _)
  have p0 := x1 0
  have q0 := x2 0
  have p1 := x1 1
  have q1 := x2 1
  have p2 := x1 2
  have q2 := x2 2
  have p3 := x1 3
  have q3 := x2 3
  have p4 := x1 4
  have q4 := x2 4
  clear x1 x2
  simp only [List.getElem?_toArray, List.getElem?_cons_succ, List.getElem?_cons_zero] at p0 p1 p2 p3 p4 q0 q1 q2 q3 q4
  generalize hbc : w.heap.size = bc at p0 p1 p2 p3 p4 q0 q1 q2 q3 q4 ⊢
  go_wp2_with fail
  refine HQ.out.mono ?_
  rintro e w3 ⟨k, rfl, hk, hB3⟩
  have HK := Lib.hid hk
  have HB3 : Hid (Below w.heap.size w w3) := Lib.hid (HB.out.trans (hB3.mono HB.out.size))
  clear hk hB3
  go_wp2_with fail
  go_ret
  exact ⟨_, rfl, ⟨fun h => HK.out.1 (by simpa using h), fun h => by simp [HK.out.2 h]⟩, HB3.out⟩

set_option maxRecDepth 100000 in
set_option maxHeartbeats 2000000 in
theorem sameList27 {u v : Value} (f g : Fs) (w : World) (hu : FV w u f) (hv : FV w v g) : Calls Tryz.prog 27 #[u, v] w (Cmp w (f = g)) := by
  obtain ⟨hl, a, c, rfl, -, hA⟩ := hu
  obtain ⟨hl', a', c', rfl, -, hA'⟩ := hv
  have HV := Lib.hid hA
  have HV' := Lib.hid hA'
  clear hA hA'
  by_cases hn : f.len = g.len
  case neg =>
    have hd : ((f.len : Int) != (g.len : Int)) = true := by simp; omega
    have HN := Lib.hid hn
    clear hn
    go_enter Tryz.func27, Tryz.ntmps27
    go_wp2_with fail
    go_ret
    exact ⟨_, rfl, ⟨fun h => (by cases h), fun h => absurd (by rw [h]) HN.out⟩, Below.refl _ _⟩
  have hd : ((f.len : Int) != (g.len : Int)) = false := by simp [hn]
  have HN := Lib.hid hn
  clear hn
  go_enter Tryz.func27, Tryz.ntmps27
  go_wp2_with fail
  go_loopw [5] (fun i wr => ∃ j : Nat, j ≤ f.len ∧ i = .int .i64 j ∧ Hid (Below w.heap.size w wr) ∧ Hid (f.drop j = g.drop j → f = g)) (fun i _ => f.len - (intOf i).toNat)
  case atStart => exact ⟨0, Nat.zero_le _, rfl, Lib.hid (Below.refl _ _), Lib.hid h_drop⟩
  case round =>
    obtain ⟨j, hj, rfl, HW2, HE⟩ := hrel
    by_cases hlt : j < f.len
    case neg =>
      have hd1 : decide (j < f.len) = false := by simpa using hlt
      have HF : Hid (f = g) := Lib.hid (HE.out (by
        have h1 := Fs.drop_len f j
        have h2 := Fs.drop_len g j
        have h3 := HN.out
        cases e1 : f.drop j with
        | cons => rw [e1] at h1; simp [Fs.len] at h1; omega
        | nil =>
          cases e2 : g.drop j with
          | cons => rw [e2] at h2; simp [Fs.len] at h2; omega
          | nil => rfl))
      clear hlt
      go_wp2_with fail
      go_ret
      exact ⟨_, rfl, ⟨fun _ => HF.out, fun _ => rfl⟩, HW2.out⟩
    have hd1 : decide (j < f.len) = true := by simpa using hlt
    have hltg : j < g.len := by have := HN.out; omega
    obtain ⟨b1, o1, rfl, hb1, hat⟩ := HV.out (by omega)
    obtain ⟨b2, o2, rfl, hb2, hat'⟩ := HV'.out (by omega)
    have hfat := FAt.keep HW2.out hb1 (FAt.drop j hat)
    have hgat := FAt.keep HW2.out hb2 (FAt.drop j hat')
    have hdl := Fs.drop_len f j
    have hdl' := Fs.drop_len g j
    cases hfd : f.drop j with
    | nil => rw [hfd] at hdl; simp [Fs.len] at hdl; omega
    | cons op1 nm1 v1 bd1 sub1 rest1 =>
      cases hgd : g.drop j with
      | nil => rw [hgd] at hdl'; simp [Fs.len] at hdl'; omega
      | cons op2 nm2 v2 bd2 sub2 rest2 =>
        rw [hfd] at hfat
        rw [hgd] at hgat
        obtain ⟨c0, c1, c2, c3, c4, c5, ⟨a3, c3', c6, -, c7⟩, -⟩ := hfat
        obtain ⟨d0, d1, d2, d3, d4, d5, ⟨a4, c4', d6, -, d7⟩, -⟩ := hgat
        have HS1 := Lib.hid (Fs.drop_succ hfd)
        have HS2 := Lib.hid (Fs.drop_succ hgd)
        have HFD := Lib.hid hfd
        have HGD := Lib.hid hgd
        have hb1' : b1 < wr.heap.size := Nat.lt_of_lt_of_le hb1 HW2.out.size
        have hb2' : b2 < wr.heap.size := Nat.lt_of_lt_of_le hb2 HW2.out.size
        have HC1 := Lib.hid (same26 sub1 sub2 (wr.drewN 1) op1 v1 bd1 op2 v2 bd2 nm1 nm2 a3 a4 c3' c4' c5 d5 (fun h0 => by
          obtain ⟨b', o', e', hb', h'⟩ := c7 h0
          exact ⟨b', o', e', hb', FAt.drawn 1 h'⟩) (fun h0 => by
          obtain ⟨b', o', e', hb', h'⟩ := d7 h0
          exact ⟨b', o', e', hb', FAt.drawn 1 h'⟩))
        clear hat hat' hfd hgd c7 d7 hdl hdl'
        go_wp2_with fail
        go_region_held3 (fun w' => w'.cell? ⟨b1, o1 + j * 5, none⟩ = some (.int .i64 op1) ∧ w'.cell? ⟨b1, o1 + j * 5 + 1, none⟩ = some (.string nm1) ∧ w'.cell? ⟨b1, o1 + j * 5 + 2, none⟩ = some (.int .i64 v1) ∧ w'.cell? ⟨b1, o1 + j * 5 + 3, none⟩ = some (.int .i64 bd1) ∧ w'.cell? ⟨b1, o1 + j * 5 + 4, none⟩ = some (.slice a3 sub1.len c3') ∧
          w'.cell? ⟨b2, o2 + j * 5, none⟩ = some (.int .i64 op2) ∧ w'.cell? ⟨b2, o2 + j * 5 + 1, none⟩ = some (.string nm2) ∧ w'.cell? ⟨b2, o2 + j * 5 + 2, none⟩ = some (.int .i64 v2) ∧ w'.cell? ⟨b2, o2 + j * 5 + 3, none⟩ = some (.int .i64 bd2) ∧ w'.cell? ⟨b2, o2 + j * 5 + 4, none⟩ = some (.slice a4 sub2.len c4')) (go_keep)
          (first | (go_at_call 26; refine HC1.out.mono ?_; rintro e' w4 ⟨k', rfl, hk', hB4⟩; have y2 := (hB4.cell (p := ⟨b1, o1 + j * 5, none⟩) hb1').trans c0; have y3 := (hB4.cell (p := ⟨b1, o1 + j * 5 + 1, none⟩) hb1').trans c1; have y4 := (hB4.cell (p := ⟨b1, o1 + j * 5 + 2, none⟩) hb1').trans c3; have y5 := (hB4.cell (p := ⟨b1, o1 + j * 5 + 3, none⟩) hb1').trans c4; have y6 := (hB4.cell (p := ⟨b1, o1 + j * 5 + 4, none⟩) hb1').trans c6; have z2 := (hB4.cell (p := ⟨b2, o2 + j * 5, none⟩) hb2').trans d0; have z3 := (hB4.cell (p := ⟨b2, o2 + j * 5 + 1, none⟩) hb2').trans d1; have z4 := (hB4.cell (p := ⟨b2, o2 + j * 5 + 2, none⟩) hb2').trans d3; have z5 := (hB4.cell (p := ⟨b2, o2 + j * 5 + 3, none⟩) hb2').trans d4; have z6 := (hB4.cell (p := ⟨b2, o2 + j * 5 + 4, none⟩) hb2').trans d6; have HB4 := Lib.hid hB4; have HK4 := Lib.hid hk'; clear hB4 hk'))
        clear c0 c1 c3 c4 c6 d0 d1 d3 d4 d6 y2 y3 y4 y5 y6 z2 z3 z4 z5 z6
        have HW4 : Hid (Below w.heap.size w w4) := Lib.hid ((below_drawn HW2.out 1).trans (HB4.out.mono HW2.out.size))
        cases k' with
        | false =>
          go_wp2_with fail
          go_ret
          exact ⟨_, rfl, ⟨fun h => (by cases h), fun h1 => absurd (HK4.out.2 (by
            have h2 := HFD.out
            rw [h1, HGD.out] at h2
            simp only [Fs.cons.injEq] at h2
            exact ⟨h2.1.symm, h2.2.1.symm, h2.2.2.1.symm, h2.2.2.2.1.symm, h2.2.2.2.2.1.symm⟩)) (by simp)⟩, HW4.out⟩
        | true =>
          go_wp2_with fail
          go_roundw
          case rel => exact ⟨j + 1, by omega, by go_num, HW4, Lib.hid (fun h1 => HE.out (by
            rw [HFD.out, HGD.out]
            rw [HS1.out, HS2.out] at h1
            obtain ⟨e1, e2, e3, e4, e5⟩ := HK4.out.1 (by first | rfl | trivial)
            rw [e1, e2, e3, e4, e5, h1]))⟩
          case measure => simp [intOf]; omega
end Go.Proofs.YtckdgniecdfedaaGreatDoor
end
