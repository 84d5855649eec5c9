/- The walks of the references that say which games are valid, of Bounds, work, view and Work. -/
import Derived.Test.YtckdgniecdfedaaGreatDoorRnB
import Derived.Laws.ResultCell
import Derived.Maps.AppendAt
import Derived.Deep.AppendLies
section
/- The walk of the reference that says which games are valid. -/
namespace Go.Proofs.YtckdgniecdfedaaGreatDoor
open Go.RowKit

/-- a game whose parts belong together -/
def Good (o p : List Int) (s : List (List Int)) : Prop :=
  o.length ≤ 3000 ∧ p.length = o.length ∧ s.length = o.length ∧ (∀ x ∈ o, x = 0 ∨ x = 1) ∧ (∀ x ∈ p, 0 ≤ x ∧ x ≤ 30000) ∧ (∀ r ∈ s, r ≠ [] ∧ ∀ x ∈ r, 0 ≤ x ∧ x < o.length)
/-- as far as k positions -/
def GoodTo (o p : List Int) (s : List (List Int)) (k : Nat) : Prop :=
  (∀ x ∈ o.take k, x = 0 ∨ x = 1) ∧ (∀ x ∈ p.take k, 0 ≤ x ∧ x ≤ 30000) ∧ (∀ r ∈ s.take k, r ≠ [] ∧ ∀ x ∈ r, 0 ≤ x ∧ x < o.length)
theorem GoodTo.zero (o p : List Int) (s : List (List Int)) : GoodTo o p s 0 := by simp [GoodTo]
theorem mem_take_succ {α : Type} {l : List α} {k : Nat} (d : α) (h : k < l.length) {x : α} (hx : x ∈ l.take (k + 1)) : x ∈ l.take k ∨ x = l.getD k d := by
  rw [List.take_succ_eq_append_getElem h] at hx
  rcases List.mem_append.1 hx with hx | hx
  · exact Or.inl hx
  · right
    rw [List.mem_singleton.1 hx, List.getD_eq_getElem?_getD, List.getElem?_eq_getElem h]
    rfl
theorem GoodTo.succ {o p : List Int} {s : List (List Int)} {k : Nat} (h : GoodTo o p s k) (ho : k < o.length) (hp : k < p.length) (hs : k < s.length) (h1 : o.getD k 0 = 0 ∨ o.getD k 0 = 1) (h2 : 0 ≤ p.getD k 0) (h3 : p.getD k 0 ≤ 30000) (h4 : s.getD k [] ≠ []) (h5 : ∀ x ∈ s.getD k [], 0 ≤ x ∧ x < o.length) : GoodTo o p s (k + 1) := by
  refine ⟨fun x hx => ?_, fun x hx => ?_, fun r hr => ?_⟩
  · rcases mem_take_succ 0 ho hx with hx | rfl
    · exact h.1 x hx
    · exact h1
  · rcases mem_take_succ 0 hp hx with hx | rfl
    · exact h.2.1 x hx
    · exact ⟨h2, h3⟩
  · rcases mem_take_succ [] hs hr with hr | rfl
    · exact h.2.2 r hr
    · exact ⟨h4, h5⟩
theorem GoodTo.all {o p : List Int} {s : List (List Int)} (h : GoodTo o p s o.length) (h0 : o.length ≤ 3000) (hp : p.length = o.length) (hs : s.length = o.length) : Good o p s := by
  obtain ⟨h1, h2, h3⟩ := h
  rw [List.take_of_length_le (Nat.le_refl _)] at h1
  rw [List.take_of_length_le (by omega)] at h2 h3
  exact ⟨h0, hp, hs, h1, h2, h3⟩

/-- a Bool was handed back that is true of just what Q says -/
def ToldI (w : World) (Q : Prop) (e : Ending) (w' : World) : Prop := ∃ c : Bool, e = .returned (.bool c) ∧ (c = true ↔ Q) ∧ Below w.heap.size w w'
theorem mem_getD {α : Type} {l : List α} {k : Nat} (d : α) (h : k < l.length) : l.getD k d ∈ l := by
  rw [List.getD_eq_getElem?_getD, List.getElem?_eq_getElem h]
  exact List.getElem_mem _
set_option maxRecDepth 100000 in
set_option maxHeartbeats 4000000 in
theorem valid15x (w : World) (o p : List Int) (s : List (List Int)) (a0 a1 a2 : Option Addr) (c0 c1 c2 : Nat) (hno : Nums w (.slice a0 o.length c0) o) (hnp : Nums w (.slice a1 p.length c1) p) (ho : o.length ≤ 9223372036854775807) (_hp : p.length ≤ 9223372036854775807) (hs : RowsC w (.slice a2 s.length c2) s) :
    Calls Tryz.prog 15 #[.agg #[.slice a0 o.length c0, .slice a1 p.length c1, .slice a2 s.length c2]] w (ToldI w (Good o p s)) := by
  obtain ⟨w1, e1, hs1, hb1, hc1⟩ := game_box w #[.slice a0 o.length c0, .slice a1 p.length c1, .slice a2 s.length c2] 39
  have hsl : s.length ≤ 9223372036854775807 := hs.len
  have HV := Lib.hid (hs.keep hb1)
  have HO := Lib.hid (hno.keep hb1)
  have HP := Lib.hid (hnp.keep hb1)
  have E1 := Lib.hid e1
  have HB := Lib.hid hb1
  have t0 := hc1 w1 (Below.refl _ _) 0
  have t1 := hc1 w1 (Below.refl _ _) 1
  have t2 := hc1 w1 (Below.refl _ _) 2
  simp only [List.getElem?_toArray, List.getElem?_cons_succ, List.getElem?_cons_zero] at t0 t1 t2
  rw [e1] at t0 t1 t2
  clear e1 hs1 hb1 hc1 hs hno hnp
  by_cases h1 : o.length ≤ 3000
  case neg =>
    have g1 : decide ((3000 : Int) < (o.length : Int)) = true := by simp; omega
    have HNG : Hid (¬ Good o p s) := Lib.hid fun h => h1 h.1
    clear h1
    go_enter Tryz.func15, Tryz.ntmps15
    go_wp2_with fail
    go_ret
    exact ⟨_, rfl, ⟨fun h => (by cases h), fun h => absurd h HNG.out⟩, by rw [← E1.out]; exact HB.out⟩
  have g1 : decide ((3000 : Int) < (o.length : Int)) = false := by simp; omega
  by_cases h2 : p.length = o.length
  case neg =>
    have g2 : ((p.length : Int) == (o.length : Int)) = false := by simp; omega
    have g2' : ((p.length : Int) != (o.length : Int)) = true := by simp; omega
    have g2'' : ¬ ((p.length : Int) = (o.length : Int)) := by omega
    have HNG : Hid (¬ Good o p s) := Lib.hid fun h => h2 h.2.1
    clear h2
    go_enter Tryz.func15, Tryz.ntmps15
    go_wp2_with fail
    go_ret
    exact ⟨_, rfl, ⟨fun h => (by cases h), fun h => absurd h HNG.out⟩, by rw [← E1.out]; exact HB.out⟩
  by_cases h3 : s.length = o.length
  case neg =>
    have g2 : ((s.length : Int) == (o.length : Int)) = false := by simp; omega
    have g2' : ((s.length : Int) != (o.length : Int)) = true := by simp; omega
    have g2'' : ¬ ((s.length : Int) = (o.length : Int)) := by omega
    have HNG : Hid (¬ Good o p s) := Lib.hid fun h => h3 h.2.2.1
    have hb2 := HB.out
    rw [E1.out, h2] at hb2
    have HB2 := Lib.hid hb2
    rw [h2] at t1 t0 t2 ⊢
    clear hb2
    clear h3 h2
    go_enter Tryz.func15, Tryz.ntmps15
    go_wp2_with fail
    go_ret
    exact ⟨_, rfl, ⟨fun h => (by cases h), fun h => absurd h HNG.out⟩, HB2.out⟩
  have hb2 := HB.out
  rw [E1.out, h2, h3] at hb2
  have HB2 := Lib.hid hb2
  have HL2 := Lib.hid h2
  have HL3 := Lib.hid h3
  have HL1 := Lib.hid h1
  have HE1 : Hid (w1 = w.alloc (.cells #[.slice a0 o.length c0, .slice a1 o.length c1, .slice a2 o.length c2] 39)) := Lib.hid (by rw [E1.out, h2, h3])
  rw [h2, h3] at t1 t0 t2
  rw [h2, h3]
  clear hb2 h2 h3 E1 hsl
  obtain ⟨n, hn⟩ : ∃ n, o.length = n := ⟨_, rfl⟩
  rw [hn] at t0 t1 t2 HE1 h1 ho g1 HB2 ⊢
  have HN := Lib.hid hn
  clear hn
  go_enter Tryz.func15, Tryz.ntmps15
  go_upto_region 4 with fail
  rw [← HE1.out] at t0 t1 t2 ⊢
  clear HE1 HB2
  generalize Value.agg #[.slice a0 n c0, .slice a1 n c1, .slice a2 n c2] = v0
  generalize hbc : w.heap.size = bc at t0 t1 t2 ⊢
  have HBC := Lib.hid hbc
  clear hbc
  go_wp2_with fail
  go_loopw [4, 5] (fun i _ wr => ∃ k m : Nat, k ≤ n ∧ i = .int .i64 k ∧ wr = w1.drewN m ∧ Hid (GoodTo o p s k)) (fun i _ _ => n - (intOf i).toNat)
  case atStart => exact ⟨0, 0, Nat.zero_le _, rfl, rfl, Lib.hid (GoodTo.zero _ _ _)⟩
  case round =>
    obtain ⟨k, m, hk, rfl, rfl, HR⟩ := hrel
    by_cases hlt : k < n
    · have ko : k < o.length := by rw [HN.out]; exact hlt
      have kp : k < p.length := by rw [HL2.out]; exact ko
      have ks : k < s.length := by rw [HL3.out]; exact ko
      obtain ⟨bo, oo, rfl, x0⟩ := HO.out.at ko
      obtain ⟨bp, op, rfl, y0⟩ := HP.out.at kp
      obtain ⟨bs, os, au, cu, rfl, r0, r1, r2, r3⟩ := HV.out.at ks
      have hd : decide (k < n) = true := by simpa using hlt
      have hlti : (k : Int) < (n : Int) := by omega
      have HK := Lib.hid (And.intro ko (And.intro kp ks))
      have HS := Lib.hid (fun h1 h2 h3 h4 h5 => HR.out.succ ko kp ks h1 h2 h3 h4 h5)
      have HRN := Lib.hid r3
      have hrl : (s.getD k []).length ≤ 9223372036854775807 := Nat.le_trans r1 r2
      have HMO : Hid (Good o p s → (o.getD k 0 = 0 ∨ o.getD k 0 = 1) ∧ (0 ≤ p.getD k 0 ∧ p.getD k 0 ≤ 30000) ∧ (s.getD k [] ≠ [] ∧ ∀ x ∈ s.getD k [], 0 ≤ x ∧ x < o.length)) := Lib.hid fun h =>
        ⟨h.2.2.2.1 _ (mem_getD 0 ko), h.2.2.2.2.1 _ (mem_getD 0 kp), h.2.2.2.2.2 _ (mem_getD [] ks)⟩
      clear ko kp ks r3
      generalize s.getD k [] = r at *
      generalize o.getD k 0 = x at *
      generalize p.getD k 0 = y at *
      have u0 : (w1.drewN m).cell? ⟨bc, 0, none⟩ = some (.slice (some ⟨bo, oo, none⟩) n c0) := t0
      have u1 : (w1.drewN m).cell? ⟨bc, 1, none⟩ = some (.slice (some ⟨bp, op, none⟩) n c1) := t1
      have u2 : (w1.drewN m).cell? ⟨bc, 2, none⟩ = some (.slice (some ⟨bs, os, none⟩) n c2) := t2
      have ux : (w1.drewN m).cell? ⟨bo, oo + k, none⟩ = some (.int .i64 x) := x0
      have uy : (w1.drewN m).cell? ⟨bp, op + k, none⟩ = some (.int .i64 y) := y0
      have ur : (w1.drewN m).cell? ⟨bs, os + k, none⟩ = some (.slice au r.length cu) := r0
      have HRX : Hid (Nums (w1.drewN m) (.slice au r.length cu) r) := Lib.hid (HRN.out.drawn m)
      have HBW : Hid (Below w.heap.size w (w1.drewN m)) := Lib.hid (Below.drewN' HB.out m)
      have HWX : Hid (∀ j, ∃ m', (w1.drewN m).drewN j = w1.drewN m') := Lib.hid fun j => ⟨m + j, by rw [World.drewN_drewN]⟩
      have q : ∀ n, Calls Tryz.prog 52 #[] ((w1.drewN m).drewN n) fun e w' => e = .returned (.int .i64 30000) ∧ ∃ m', w' = ((w1.drewN m).drewN n).drewN m' := fun n => (limit52 _).mono fun _ _ ⟨e, h⟩ => ⟨e, 0, by rw [h]; rfl⟩
      generalize w1.drewN m = wx at *
      clear t0 t1 t2 x0 y0 r0
      by_cases hx : x = 0 ∨ x = 1
      case neg =>
        have n0 : (x == 0) = false := by simp; omega
        have n1 : (x == 1) = false := by simp; omega
        have m0 : (x != 0) = true := by simp; omega
        have m1 : (x != 1) = true := by simp; omega
        have k0 : ¬ x = 0 := by omega
        have k1 : ¬ x = 1 := by omega
        have HNG : Hid (¬ Good o p s) := Lib.hid fun h => hx (HMO.out h).1
        clear hx
        go_upto_region 7 with fail
        go_quiet ((go_at_call 52; with_reducible exact Calls.quiet_of (q _)))
        go_wp2_with fail
        go_ret
        exact ⟨_, rfl, ⟨fun h => (by cases h), fun h => absurd h HNG.out⟩, Below.drewN' HBW.out _⟩
      rcases hx with rfl | rfl
      all_goals
        by_cases hy : y < 0
        case pos =>
          have g2 : decide (y < 0) = true := by simpa using hy
          have HNG : Hid (¬ Good o p s) := Lib.hid fun h => by have := (HMO.out h).2.1; omega
          clear hy
          go_upto_region 7 with fail
          go_quiet ((go_at_call 52; with_reducible exact Calls.quiet_of (q _)))
          go_wp2_with fail
          go_ret
          exact ⟨_, rfl, ⟨fun h => (by cases h), fun h => absurd h HNG.out⟩, Below.drewN' HBW.out _⟩
        have g2 : decide (y < 0) = false := by simpa using hy
        by_cases hy2 : y ≤ 30000
        case neg =>
          have g3 : decide ((30000 : Int) < y) = true := by simp; omega
          have HNG : Hid (¬ Good o p s) := Lib.hid fun h => by have := (HMO.out h).2.1; omega
          clear hy hy2
          go_upto_region 7 with fail
          go_quiet ((go_at_call 52; with_reducible exact Calls.quiet_of (q _)))
          go_wp2_with fail
          go_ret
          exact ⟨_, rfl, ⟨fun h => (by cases h), fun h => absurd h HNG.out⟩, Below.drewN' HBW.out _⟩
        have g3 : decide ((30000 : Int) < y) = false := by simp; omega
        by_cases hr : r = []
        case pos =>
          subst hr
          have HNG : Hid (¬ Good o p s) := Lib.hid fun h => (HMO.out h).2.2.1 rfl
          have g4 : (((([] : List Int).length : Nat) : Int) == 0) = true := rfl
          clear hy hy2
          go_upto_region 7 with fail
          go_quiet ((go_at_call 52; with_reducible exact Calls.quiet_of (q _)))
          go_wp2_with fail
          go_ret
          exact ⟨_, rfl, ⟨fun h => (by cases h), fun h => absurd h HNG.out⟩, Below.drewN' HBW.out _⟩
        have hr0 : 0 < r.length := List.length_pos_iff.2 hr
        have g4 : ((r.length : Int) == 0) = false := by simp; omega
        have g4' : ¬ ((r.length : Int) = 0) := by omega
        have HRG := Lib.hid (And.intro (show 0 ≤ y by omega) (And.intro hy2 hr))
        clear hy hy2 hr
        go_upto_region 7 with fail
        go_quiet ((go_at_call 52; with_reducible exact Calls.quiet_of (q _)))
        rename_i nq
        obtain ⟨m2, hm2⟩ := HWX.out nq
        have v2 : (wx.drewN nq).cell? ⟨bc, 2, none⟩ = some (.slice (some ⟨bs, os, none⟩) n c2) := u2
        have vr : (wx.drewN nq).cell? ⟨bs, os + k, none⟩ = some (.slice au r.length cu) := ur
        have HVX : Hid (Nums (wx.drewN nq) (.slice au r.length cu) r) := Lib.hid (HRX.out.drawn nq)
        have HBD : Hid (Below w.heap.size w (wx.drewN nq)) := Lib.hid (Below.drewN' HBW.out nq)
        generalize wx.drewN nq = wd at *
        have HWD := Lib.hid hm2
        clear hm2 q u0 u1 u2 ux uy ur HRX HBW HWX
        go_wp2_with fail
        go_loopw [5] (fun i wr => ∃ j : Nat, j ≤ r.length ∧ i = .int .i64 j ∧ Hid (wd = wr) ∧ Hid (∀ x ∈ r.take j, 0 ≤ x ∧ x < n)) (fun i _ => r.length - (intOf i).toNat)
        case atStart => exact ⟨0, Nat.zero_le _, rfl, Lib.hid rfl, Lib.hid (by simp)⟩
        case round =>
          obtain ⟨j, hj, rfl, hw, HJ⟩ := hrel
          obtain rfl := hw.out
          by_cases hlt2 : j < r.length
          · obtain ⟨b3, o3, rfl, z0⟩ := HVX.out.at hlt2
            have hd2 : decide (j < r.length) = true := by simpa using hlt2
            have hlt2i : (j : Int) < (r.length : Int) := by omega
            have HST := Lib.hid (fun x (hx : x ∈ r.take (j + 1)) => mem_take_succ 0 hlt2 hx)
            have HZM : Hid (Good o p s → 0 ≤ r.getD j 0 ∧ r.getD j 0 < n) := Lib.hid fun h => by
              have := (HMO.out h).2.2.2 _ (mem_getD 0 hlt2)
              rw [HN.out] at this
              exact this
            generalize r.getD j 0 = z at *
            by_cases hz : z < 0
            case pos =>
              have g5 : decide (z < 0) = true := by simpa using hz
              have HNG : Hid (¬ Good o p s) := Lib.hid fun h => by have := HZM.out h; omega
              clear hz
              go_wp2_with fail
              go_ret
              exact ⟨_, rfl, ⟨fun h => (by cases h), fun h => absurd h HNG.out⟩, HBD.out⟩
            have g5 : decide (z < 0) = false := by simpa using hz
            by_cases hz2 : z < n
            case neg =>
              have g6 : decide ((n : Int) ≤ z) = true := by simp; omega
              have HNG : Hid (¬ Good o p s) := Lib.hid fun h => by have := HZM.out h; omega
              clear hz hz2
              go_wp2_with fail
              go_ret
              exact ⟨_, rfl, ⟨fun h => (by cases h), fun h => absurd h HNG.out⟩, HBD.out⟩
            have g6 : decide ((n : Int) ≤ z) = false := by simp; omega
            have HZ := Lib.hid (And.intro (show 0 ≤ z by omega) hz2)
            clear hz hz2
            go_wp2_with fail
            go_roundw
            case rel => exact ⟨j + 1, by omega, by go_num, by first | exact Lib.hid rfl | exact Lib.hid trivial, Lib.hid (fun x hx => by
              rcases HST.out x hx with h | h
              · exact HJ.out x h
              · rw [h]; exact HZ.out)⟩
            case measure => simp [intOf]; omega
          · obtain rfl : j = r.length := by omega
            have hd2 : decide (r.length < r.length) = false := by simp
            go_wp2_with fail
            go_roundw
            case rel => exact ⟨k + 1, m2, by omega, by go_num, HWD.out, Lib.hid (HS.out (by simp) HRG.out.1 HRG.out.2.1 HRG.out.2.2 (by rw [HN.out]; simpa using HJ.out))⟩
            case measure => simp [intOf]; omega
    · obtain rfl : k = n := by omega
      have hd : decide (k < k) = false := by simp
      go_wp2_with fail
      go_ret
      exact ⟨_, rfl, ⟨fun _ => (show GoodTo o p s o.length by rw [HN.out]; exact HR.out).all HL1.out HL2.out HL3.out, fun _ => rfl⟩, Below.drewN' HB.out m⟩
theorem valid15 (w : World) (o p : List Int) (s : List (List Int)) (a0 a1 a2 : Option Addr) (c0 c1 c2 : Nat) (hno : Nums w (.slice a0 o.length c0) o) (hnp : Nums w (.slice a1 p.length c1) p) (ho : o.length ≤ 9223372036854775807) (hp : p.length ≤ 9223372036854775807) (hs : RowsC w (.slice a2 s.length c2) s) :
    Calls Tryz.prog 15 #[.agg #[.slice a0 o.length c0, .slice a1 p.length c1, .slice a2 s.length c2]] w (ToldQ w (Good o p s)) :=
  (valid15x w o p s a0 a1 a2 c0 c1 c2 hno hnp ho hp hs).mono fun _ _ ⟨c, h1, h2, h3⟩ => ⟨c, h1, h2.1, h3⟩
end Go.Proofs.YtckdgniecdfedaaGreatDoor
end
section
/- Lists of numbers that a call builds by append, from nil on; the numbers of positions by odd priority. -/
namespace Go.Proofs.YtckdgniecdfedaaGreatDoor
open Go.RowKit

/-- a list of numbers that a call built itself, perhaps nil -/
def OwnN (w : World) (B : Nat) (v : Value) (A : List Int) : Prop := w.ownsRow B 3 1 v A.length (A.map (Value.int .i64))
theorem OwnN.nil (w : World) (B : Nat) : OwnN w B (.slice none 0 0) [] := World.ownsRow_nil w B 3 1
theorem OwnN.keep {w w' : World} {B B' : Nat} {v : Value} {A : List Int} (h : OwnN w B v A) (hB : Below B' w w') (hs : w.heap.size ≤ B') : OwnN w' B v A := by
  obtain ⟨h1, h2⟩ := h
  refine ⟨h1, ?_⟩
  rcases h2 with h2 | ⟨g', cap', cur, e', hb, hh, h3⟩
  · exact .inl h2
  · refine .inr ⟨g', cap', cur, e', hb, ?_, h3⟩
    rw [hB.block g' ?_]
    · exact hh
    · exact Nat.lt_of_lt_of_le (Array.getElem?_eq_some_iff.1 hh).1 hs
theorem OwnN.drawn {w : World} {B : Nat} {v : Value} {A : List Int} (h : OwnN w B v A) (n : Nat) : OwnN (w.drewN n) B v A := h
theorem OwnN.form {w : World} {B : Nat} {v : Value} {A : List Int} (h : OwnN w B v A) : ∃ a c, v = .slice a A.length c := by
  rcases h.2 with ⟨e, hn⟩ | ⟨g, cap, cur, e, _⟩
  · exact ⟨none, 0, by rw [e, hn]⟩
  · exact ⟨_, _, e⟩
theorem OwnN.nums {w : World} {B : Nat} {v : Value} {A : List Int} (h : OwnN w B v A) : Nums w v A := by
  rcases h.2 with ⟨e, hn⟩ | ⟨g, cap, cur, e, hb, hh, _⟩
  · have : A = [] := List.length_eq_zero_iff.1 hn
    subst this
    exact ⟨none, 0, e, fun h => absurd rfl h⟩
  · subst e
    refine ⟨_, cap, rfl, fun _ => ⟨g, 0, rfl, (Array.getElem?_eq_some_iff.1 hh).1, fun j hj => ?_⟩⟩
    have := World.ownsRow.cells h (g := g) rfl j (.int .i64 (A.getD j 0)) (by simp [hj])
    rcases Nat.eq_zero_or_pos j with rfl | h0
    · simpa [Addr.add] using this
    · simpa [Addr.add, Nat.pos_iff_ne_zero.1 h0] using this
theorem OwnN.cap {w : World} {B : Nat} {v : Value} {A : List Int} (h : OwnN w B v A) : ∃ a c, v = .slice a A.length c ∧ A.length ≤ c ∧ c ≤ 9223372036854775807 := by
  rcases h.2 with ⟨e, hn⟩ | ⟨g, cap, cur, e, _, _, h1, h2, _⟩
  · exact ⟨none, 0, by rw [e, hn], by omega, by omega⟩
  · exact ⟨_, _, e, h1, h2⟩
/-- append onto such a list -/
theorem wpList_append_J {w : World} {ops : Array Oper} {rest : List Oper} {o : Oper} {a : Act} {Q : Exit → Act → World → Prop} (hgd : o.guard = none) (s x : Operand)
    (ho : o.op = .call { callee := .builtin .append, args := #[s, x], argTypes := #[25, 25] }) (B B0 : Nat) (w0 : World) (hB : Below B0 w0 w) (hBs : B ≤ w.heap.size) (hB0 : B0 ≤ B)
    (v : Value) (A : List Int) (hs : a.eval s = v) (hown : OwnN w B v A) (g of c : Nat) (N : List Int) (hx : a.eval x = .slice (some ⟨g, of, none⟩) N.length c)
    (hc : ∀ j, j < N.length → w.cell? ⟨g, of + j, none⟩ = some (.int .i64 (N.getD j 0))) (hl : A.length + N.length ≤ 1000000)
    (h : ∀ v' w', OwnN w' B v' (A ++ N) → Below B0 w0 w' → wpList Tryz.prog ops Q rest (a.put o.dst v') w') : wpList Tryz.prog ops Q (o :: rest) a w := by
  obtain ⟨i0, hi, hz0, hz1, hz2⟩ := info_parts Tryz.info3
  refine wpList_append_own _ hgd s x 25 ho B 3 i0 (.int .i64 0) 1 8 Tryz.underlying25 hi hz0 hz1 hz2 rfl (by decide) v A.length (A.map (Value.int .i64)) hs hown ⟨g, of, none⟩ N.length c (N.map (Value.int .i64)) hx (by simp) ?_ ?_ ?_ ?_ hBs ?_
  · intro j u hj
    simp only [List.getElem?_map, Option.map_eq_some_iff] at hj
    obtain ⟨n, hn, rfl⟩ := hj
    have hlt : j < N.length := by
      rcases Nat.lt_or_ge j N.length with h' | h'
      · exact h'
      · rw [List.getElem?_eq_none h'] at hn; cases hn
    have := hc j hlt
    rw [List.getD_eq_getElem?_getD, hn, Option.getD_some] at this
    rcases Nat.eq_zero_or_pos j with rfl | h0
    · simpa [Addr.add] using this
    · simpa [Addr.add, Nat.pos_iff_ne_zero.1 h0] using this
  · intro u hu
    obtain ⟨n, _, rfl⟩ := List.mem_map.1 hu
    rfl
  · unfold maxLen; omega
  · omega
  · intro v' w' h1 h2 _
    exact h v' w' (by unfold OwnN; simpa using h1) (hB.grown h2 (Nat.le_trans hB0 hBs) fun k hk => Nat.le_trans hB0 (World.ownsRow.lt hown k hk).1)
/-- append of one number that was just made -/
theorem wpList_append_J1 {w : World} {ops : Array Oper} {rest : List Oper} {o : Oper} {a : Act} {Q : Exit → Act → World → Prop} (hgd : o.guard = none) (s x : Operand)
    (ho : o.op = .call { callee := .builtin .append, args := #[s, x], argTypes := #[25, 25] }) (B B0 : Nat) (w0 : World) (hB : Below B0 w0 w) (hBs : B ≤ w.heap.size) (hB0 : B0 ≤ B)
    (v : Value) (A : List Int) (hs : a.eval s = v) (hown : OwnN w B v A) (g : Nat) (n : Int) (hx : a.eval x = .slice (some ⟨g, 0, none⟩) 1 1)
    (hc : w.cell? ⟨g, 0, none⟩ = some (.int .i64 n)) (hl : A.length + 1 ≤ 1000000)
    (h : ∀ v' w', OwnN w' B v' (A ++ [n]) → Below B0 w0 w' → wpList Tryz.prog ops Q rest (a.put o.dst v') w') : wpList Tryz.prog ops Q (o :: rest) a w :=
  wpList_append_J hgd s x ho B B0 w0 hB hBs hB0 v A hs hown g 0 1 [n] hx (fun j hj => by
    have : j = 0 := by simp at hj; exact hj
    subst this
    exact hc) hl h
end Go.Proofs.YtckdgniecdfedaaGreatDoor
end
section
/- The walk of the reference's Bounds: the numbers of positions by odd priority. -/
namespace Go.Proofs.YtckdgniecdfedaaGreatDoor
open Go.RowKit

/-- a list of numbers that was handed back -/
def Rowed (w : World) (m : Int) (e : Ending) (w' : World) : Prop := ∃ (a : Option Addr) (c : Nat) (zs : List Int), e = .returned (.slice a zs.length c) ∧ Nums w' (.slice a zs.length c) zs ∧ (∀ z ∈ zs, 0 ≤ z ∧ z ≤ m) ∧ zs.length ≤ 1000 ∧ Below w.heap.size w w'

set_option maxRecDepth 100000 in
set_option maxHeartbeats 4000000 in
theorem bounds164 (w : World) (p : List Int) (a0 a1 a2 : Option Addr) (n0 n2 c0 c1 c2 : Nat) (hp : Nums w (.slice a1 p.length c1) p) (hl : p.length ≤ 3000) (hb : ∀ x ∈ p, x ≤ 100) :
    Calls Tryz.prog 164 #[.agg #[.slice a0 n0 c0, .slice a1 p.length c1, .slice a2 n2 c2]] w (Rowed w 3000) := by
  obtain ⟨w1, e1, hs1, hb1, hc1⟩ := game_box w #[.slice a0 n0 c0, .slice a1 p.length c1, .slice a2 n2 c2] 39
  have HV := Lib.hid (hp.keep hb1)
  have E1 := Lib.hid e1
  have HB := Lib.hid hb1
  have HC := Lib.hid hc1
  have HS := Lib.hid hs1
  obtain ⟨g, hg⟩ : ∃ g, greatF p = g := ⟨_, rfl⟩
  have hg1 : g ≤ 100 := by rw [← hg]; exact greatF_le (by omega) p hb
  have HG : Hid (∀ wr, Below (w.heap.size + 1) w1 wr → Calls Tryz.prog 50 #[.agg #[.slice a0 n0 c0, .slice a1 p.length c1, .slice a2 n2 c2]] wr (fun e w' => e = .returned (.int .i64 g) ∧ Below wr.heap.size wr w')) := Lib.hid fun wr h => by
    rw [← hg]
    refine greatest50 wr p a1 c1 _ _ (HV.out.keep (h.mono (by rw [HS.out]; exact Nat.le_refl _))) (by omega)
  clear hg hc1 hp hb1 hs1 e1 hb
  go_enter Tryz.func164, Tryz.ntmps164
  go_upto_region 1 with fail
  rw [← E1.out]
  clear E1
  generalize Value.agg #[.slice a0 n0 c0, .slice a1 p.length c1, .slice a2 n2 c2] = v0
  generalize hbc : w.heap.size = bc at HC HS HG ⊢
  have HBC := Lib.hid hbc
  clear hbc
  go_wp2_with fail
  have hX : Below (bc + 1) w1 w1 := Below.refl _ _
  go_loopw [3, 4, 5, 6] (fun out i _ _ wr => ∃ (k : Nat) (zs : List Int), i = .int .i64 (2 * (k : Int) + 1) ∧ k ≤ 51 ∧ zs.length = k ∧ Hid (OwnN wr (bc + 1) out zs) ∧ Hid (∀ z ∈ zs, 0 ≤ z ∧ z ≤ 3000) ∧ Hid (Below (bc + 1) w1 wr)) (fun _ i _ _ _ => (200 - intOf i).toNat)
  case atStart => exact ⟨0, [], rfl, by omega, rfl, Lib.hid (OwnN.nil _ _), Lib.hid (by simp), Lib.hid hX⟩
  case round =>
    obtain ⟨k, zs, rfl, hk, hzk, HO, HZ, HX⟩ := hrel
    have t0 := HC.out wr HX.out 0
    have t1 := HC.out wr HX.out 1
    have t2 := HC.out wr HX.out 2
    simp only [List.getElem?_toArray, List.getElem?_cons_succ, List.getElem?_cons_zero] at t0 t1 t2
    have hq := HG.out wr HX.out
    have hsz : bc + 1 ≤ wr.heap.size := by have h1 := HX.out.size; have h2 := HS.out; omega
    clear hX
    obtain ⟨av, cv, rfl⟩ := HO.out.form
    have HK := Lib.hid hzk
    clear hzk
    by_cases hkg : 2 * (k : Int) + 1 ≤ g
    case neg =>
      have hd : decide (2 * (k : Int) + 1 ≤ g) = false := by simp; omega
      clear hkg
      go_wp2_with fail
      refine hq.mono ?_
      rintro e w2 ⟨rfl, hB2⟩
      have HB2 := Lib.hid hB2
      have HSZ := Lib.hid hsz
      clear hB2 t0 t1 t2 hsz
      go_wp2_with fail
      go_ret
      exact ⟨av, cv, zs, rfl, HO.out.nums.keep HB2.out, HZ.out, by have := HK.out; omega, by
        rw [HBC.out]
        exact (HBC.out ▸ HB.out).trans ((HX.out.mono (by omega)).trans (HB2.out.mono (by have := HSZ.out; omega)))⟩
    have hd : decide (2 * (k : Int) + 1 ≤ g) = true := by simp; omega
    go_wp2_with fail
    refine hq.mono ?_
    rintro e w2 ⟨rfl, hB2⟩
    have HX2 : Hid (Below (bc + 1) w1 w2) := Lib.hid (HX.out.trans (hB2.mono hsz))
    have HO2 : Hid (OwnN w2 (bc + 1) _ zs) := Lib.hid (HO.out.keep hB2 (Nat.le_refl _))
    have HV2 := Lib.hid (HV.out.keep (HX2.out.mono (Nat.le_of_eq HS.out)))
    clear hq hB2 t0 t1 t2 hsz HO HX
    have t1 := HC.out w2 HX2.out 1
    simp only [List.getElem?_toArray, List.getElem?_cons_succ, List.getElem?_cons_zero] at t1
    go_wp2_with fail
    go_loopw [5, 6] (fun n j wr => ∃ (j' n' : Nat), j = .int .i64 j' ∧ j' ≤ p.length ∧ n = .int .i64 n' ∧ n' ≤ j' ∧ Hid (w2 = wr)) (fun _ j _ => p.length - (intOf j).toNat)
    case atStart => exact ⟨0, 0, rfl, Nat.zero_le _, rfl, Nat.le_refl _, Lib.hid rfl⟩
    case round =>
      obtain ⟨j, n, rfl, hj, rfl, hn, hw⟩ := hrel
      obtain rfl := hw.out
      by_cases hlt : j < p.length
      · obtain ⟨b, o', rfl, d0⟩ := HV2.out.at hlt
        have hdj : decide (j < p.length) = true := by simpa using hlt
        have hlti : (j : Int) < (p.length : Int) := by omega
        generalize p.getD j 0 = x at *
        by_cases hx : x = 2 * (k : Int) + 1
        · have hdx : (x == 2 * (k : Int) + 1) = true := by simpa using hx
          clear hx
          go_wp2_with fail
          go_roundw
          case rel => exact ⟨j + 1, n + 1, by go_num, by omega, by go_num, by omega, by first | exact Lib.hid rfl | exact Lib.hid trivial⟩
          case measure => simp [intOf]; omega
        · have hdx : (x == 2 * (k : Int) + 1) = false := by simpa using hx
          clear hx
          go_wp2_with fail
          go_roundw
          case rel => exact ⟨j + 1, n, by go_num, by omega, rfl, by omega, by first | exact Lib.hid rfl | exact Lib.hid trivial⟩
          case measure => simp [intOf]; omega
      · obtain rfl : j = p.length := by omega
        have hdj : decide (p.length < p.length) = false := by simp
        have hsz2 : bc + 1 ≤ w2.heap.size := by have h1 := HX2.out.size; have h2 := HS.out; omega
        go_wp2_with (first
          | (at_builtin; refine wpList_append_J1 rfl (.tmp 29) (.tmp 31) rfl (bc + 1) (bc + 1) w1 (HX2.out.alloc hsz2 _) (by simp; omega) (Nat.le_refl _) _ zs rfl (HO2.out.keep ((Below.refl _ _).alloc (Nat.le_refl _) _) (Nat.le_refl _)) w2.heap.size n rfl ((cell_new w2 #[.int .i64 n] 3 0).trans rfl) (by have := HK.out; omega) ?_))
        intro v3 w3 hv3 hB3
        have HV3 := Lib.hid hv3
        have HB3 := Lib.hid hB3
        clear hv3 hB3
        go_wp2_with fail
        go_roundw
        case rel => exact ⟨k + 1, zs ++ [(n : Int)], by go_num, by omega, by have := HK.out; simp; omega, HV3, Lib.hid (by
          intro z hz
          rcases List.mem_append.1 hz with hz | hz
          · exact HZ.out z hz
          · rw [List.mem_singleton.1 hz]; omega), HB3⟩
        case measure => simp [intOf]; omega
end Go.Proofs.YtckdgniecdfedaaGreatDoor
end
section
/- The walk of the reference's work: it ends, with a number. -/
namespace Go.Proofs.YtckdgniecdfedaaGreatDoor
open Go.RowKit

/-- some number was handed back -/
def SomeInt (w : World) (e : Ending) (w' : World) : Prop := ∃ z : Int, e = .returned (.int .i64 z) ∧ Below w.heap.size w w'

set_option maxRecDepth 100000 in
set_option maxHeartbeats 4000000 in
theorem work110 (w : World) (p : List Int) (a0 a1 a2 : Option Addr) (n0 n2 c0 c1 c2 : Nat) (hp : Nums w (.slice a1 p.length c1) p) (h0 : n0 ≤ 3000) (hl : p.length ≤ 3000) (hb : ∀ x ∈ p, x ≤ 100) :
    Calls Tryz.prog 110 #[.agg #[.slice a0 n0 c0, .slice a1 p.length c1, .slice a2 n2 c2]] w (SomeInt w) := by
  obtain ⟨w1, e1, hs1, hb1, hc1⟩ := game_box w #[.slice a0 n0 c0, .slice a1 p.length c1, .slice a2 n2 c2] 39
  have E1 := Lib.hid e1
  have HB := Lib.hid hb1
  have HS := Lib.hid hs1
  have HG := Lib.hid (bounds164 w1 p a0 a1 a2 n0 n2 c0 c1 c2 (hp.keep hb1) hl hb)
  have t0 := hc1 w1 (Below.refl _ _) 0
  have t1 := hc1 w1 (Below.refl _ _) 1
  have t2 := hc1 w1 (Below.refl _ _) 2
  simp only [List.getElem?_toArray, List.getElem?_cons_succ, List.getElem?_cons_zero] at t0 t1 t2
  rw [e1] at t0
  clear hc1 hp hb1 hs1 e1 hb
  go_enter Tryz.func110, Tryz.ntmps110
  go_upto_region 1 with fail
  rw [← E1.out] at t0 ⊢
  clear E1
  generalize Value.agg #[.slice a0 n0 c0, .slice a1 p.length c1, .slice a2 n2 c2] = v0
  generalize hbc : w.heap.size = bc at HS t0 t1 t2 ⊢
  have HBC := Lib.hid hbc
  clear hbc
  go_wp2_with fail
  refine HG.out.mono ?_
  rintro e w2 ⟨az, cz, zs, rfl, hN, hZ, hL, hB2⟩
  have HN := Lib.hid hN
  have HZ := Lib.hid hZ
  have HW : Hid (Below w.heap.size w w2) := Lib.hid (HB.out.trans (hB2.mono (by rw [HBC.out, HS.out]; omega)))
  clear hN hZ hB2 t0 t1 t2 HG
  go_wp2_with fail
  go_loopw [3, 5] (fun n i wr => ∃ (k m : Nat) (z : Int), n = .int .i64 z ∧ 0 ≤ z ∧ z ≤ 2000001 ∧ i = .int .i64 k ∧ k ≤ zs.length ∧ wr = w2.drewN m) (fun _ i _ => zs.length - (intOf i).toNat)
  case atStart => exact ⟨0, 0, n0, rfl, by omega, by omega, rfl, Nat.zero_le _, rfl⟩
  case round =>
    obtain ⟨k, m, z, rfl, z0, z1, rfl, hk, rfl⟩ := hrel
    by_cases hlt : k < zs.length
    · obtain ⟨b, o', rfl, d0⟩ := HN.out.at hlt
      have hx : 0 ≤ zs.getD k 0 ∧ zs.getD k 0 ≤ 3000 := HZ.out _ (by rw [List.getD_eq_getElem?_getD, List.getElem?_eq_getElem hlt]; exact List.getElem_mem _)
      have hd : decide (k < zs.length) = true := by simpa using hlt
      have hlti : (k : Int) < (zs.length : Int) := by omega
      generalize zs.getD k 0 = x at *
      obtain ⟨x0, x1⟩ := hx
      have u0 : (w2.drewN m).cell? ⟨b, o' + k, none⟩ = some (.int .i64 x) := d0
      have q : ∀ n, Calls Tryz.prog 165 #[] ((w2.drewN m).drewN n) fun e w' => e = .returned (.int .i64 2000000) ∧ ∃ m', w' = ((w2.drewN m).drewN n).drewN m' := fun n => (limit165 _).mono fun _ _ ⟨e, h⟩ => ⟨e, 0, by rw [h]; rfl⟩
      have HWX : Hid (∀ j, ∃ m', (w2.drewN m).drewN j = w2.drewN m') := Lib.hid fun j => ⟨m + j, by rw [World.drewN_drewN]⟩
      generalize w2.drewN m = wx at *
      clear d0
      have hm0 : 0 ≤ z * (x + 1) := Int.mul_nonneg z0 (by omega)
      have hm1 : z * (x + 1) ≤ 2000001 * 3001 := Int.le_trans (Int.mul_le_mul_of_nonneg_right z1 (by omega)) (Int.mul_le_mul_of_nonneg_left (by omega) (by omega))
      generalize hy : z * (x + 1) = y at *
      go_upto_region 6 with fail
      go_quiet ((go_at_call 165; with_reducible exact Calls.quiet_of (q _)))
      rename_i nq
      obtain ⟨m2, hm2⟩ := HWX.out nq
      rw [hm2]
      clear q u0 HWX hm2
      go_wp2_with fail
      go_roundw
      case rel => exact ⟨k + 1, m2, _, rfl, by split <;> omega, by split <;> omega, by go_num, by omega, by first | rfl | trivial⟩
      case measure => simp [intOf]; omega
    · obtain rfl : k = zs.length := by omega
      have hd : decide (zs.length < zs.length) = false := by simp
      go_wp2_with fail
      go_ret
      exact ⟨z, rfl, Below.drewN' HW.out m⟩
end Go.Proofs.YtckdgniecdfedaaGreatDoor
end
section
/- The walk of the reference's view of a game by the player 0, and of its Work. -/
namespace Go.Proofs.YtckdgniecdfedaaGreatDoor
open Go.RowKit

/-- a game of few positions and low priorities -/
def GameOut (w : World) (v : Value) : Prop := ∃ (a0 a1 a2 : Option Addr) (n0 n2 c0 c1 c2 : Nat) (p : List Int), v = .agg #[.slice a0 n0 c0, .slice a1 p.length c1, .slice a2 n2 c2] ∧ Nums w (.slice a1 p.length c1) p ∧ n0 ≤ 3000 ∧ p.length ≤ 3000 ∧ ∀ x ∈ p, x ≤ 100
theorem gameOut_keep {w w' : World} {v : Value} (h : GameOut w v) (hB : Below w.heap.size w w') : GameOut w' v := by
  obtain ⟨a0, a1, a2, n0, n2, c0, c1, c2, p, e, h1, h2⟩ := h
  exact ⟨a0, a1, a2, n0, n2, c0, c1, c2, p, e, h1.keep hB, h2⟩
theorem gameOut_none (w : World) : GameOut w (.agg #[.slice none 0 0, .slice none 0 0, .slice none 0 0]) := ⟨_, _, _, 0, 0, 0, 0, 0, [], rfl, ⟨none, 0, rfl, fun h => absurd rfl h⟩, by omega, by simp, by simp⟩
theorem stored3 {w wz : World} {bc : Nat} {a0 b0 c0 : Value} (a b c : Value) (hr : wz.heap[bc + 1]? = some (.cells #[a0, b0, c0] 39 (0, 0))) (hb : Below bc w wz) :
    (((wz.setCell ⟨bc + 1, 0, none⟩ a).setCell ⟨bc + 1, 1, none⟩ b).setCell ⟨bc + 1, 2, none⟩ c).cell? ⟨bc + 1, 0, none⟩ = some a ∧
    (((wz.setCell ⟨bc + 1, 0, none⟩ a).setCell ⟨bc + 1, 1, none⟩ b).setCell ⟨bc + 1, 2, none⟩ c).cell? ⟨bc + 1, 1, none⟩ = some b ∧
    (((wz.setCell ⟨bc + 1, 0, none⟩ a).setCell ⟨bc + 1, 1, none⟩ b).setCell ⟨bc + 1, 2, none⟩ c).cell? ⟨bc + 1, 2, none⟩ = some c ∧
    Below bc w (((wz.setCell ⟨bc + 1, 0, none⟩ a).setCell ⟨bc + 1, 1, none⟩ b).setCell ⟨bc + 1, 2, none⟩ c) ∧
    Below (bc + 1) wz (((wz.setCell ⟨bc + 1, 0, none⟩ a).setCell ⟨bc + 1, 1, none⟩ b).setCell ⟨bc + 1, 2, none⟩ c) := by
  have h1 := heap_setCell_same wz (bc + 1) 0 _ 39 a hr
  have h2 := heap_setCell_same _ (bc + 1) 1 _ 39 b h1
  have h3 := heap_setCell_same _ (bc + 1) 2 _ 39 c h2
  refine ⟨by simp [World.cell?, h3], by simp [World.cell?, h3], by simp [World.cell?, h3], ?_, ?_⟩
  · exact ((hb.setCell (by simp) a).setCell (by simp) b).setCell (by simp) c
  · exact (((Below.refl _ wz).setCell (by simp) a).setCell (by simp) b).setCell (by simp) c
theorem res109 {tmps : Array Value} {w : World} {g : Nat} {a b c u : Value} (hp : tmps.getD 4 undef = .pointer (some ⟨g, 0, none⟩)) (hu : tmps.getD 5 undef = u) (h0 : w.cell? ⟨g, 0, none⟩ = some a) (h1 : w.cell? ⟨g, 1, none⟩ = some b) (h2 : w.cell? ⟨g, 2, none⟩ = some c) :
    (results Tryz.f109 tmps).run Tryz.prog w = .ok (.tuple #[.agg #[a, b, c], u]) w := by
  rw [results_cell_tmp rfl, hp, hu]
  simp [asAddr, go_sem, h0, h1, h2]
theorem view_end {tmps : Array Value} {w : World} {g : Nat} {a b c u : Value} {R : Ending → World → Prop} (hp : tmps.getD 4 undef = .pointer (some ⟨g, 0, none⟩)) (hu : tmps.getD 5 undef = u) (h0 : w.cell? ⟨g, 0, none⟩ = some a) (h1 : w.cell? ⟨g, 1, none⟩ = some b) (h2 : w.cell? ⟨g, 2, none⟩ = some c)
    (hR : R (.returned (.tuple #[.agg #[a, b, c], u])) w) : bodyPost Tryz.prog Tryz.f109 R .ret { tmps := tmps, defers := [] } w := bodyPost_ret (res109 hp hu h0 h1 h2) rfl hR
/-- what view hands back -/
def Viewed (w : World) (e : Ending) (w' : World) : Prop := ∃ (v : Value) (c : Bool), e = .returned (.tuple #[v, .bool c]) ∧ GameOut w' v ∧ Below w.heap.size w w'

set_option maxRecDepth 100000 in
set_option maxHeartbeats 4000000 in
theorem view109_0 (w : World) (o p : List Int) (s : List (List Int)) (a0 a1 a2 : Option Addr) (c0 c1 c2 : Nat) (hno : Nums w (.slice a0 o.length c0) o) (hnp : Nums w (.slice a1 p.length c1) p) (ho : o.length ≤ 3000) (hp : p.length ≤ 3000) (hs : RowsC w (.slice a2 s.length c2) s) (hpb : ∀ x ∈ p, x ≤ 99) :
    Calls Tryz.prog 109 #[.agg #[.slice a0 o.length c0, .slice a1 p.length c1, .slice a2 s.length c2], .int .i64 0] w (Viewed w) := by
  obtain ⟨w1, e1, hs1, hb1, hc1⟩ := game_box w #[.slice a0 o.length c0, .slice a1 p.length c1, .slice a2 s.length c2] 39
  obtain ⟨w2, e2, hs2, hb2, hc2⟩ := game_box w1 #[.slice none 0 0, .slice none 0 0, .slice none 0 0] 39
  have hb12 : Below w.heap.size w w2 := hb1.trans (hb2.mono (by omega))
  have HV := Lib.hid (valid15 w2 o p s a0 a1 a2 c0 c1 c2 (hno.keep hb12) (hnp.keep hb12) (by omega) (by omega) (hs.keep hb12))
  have HP := Lib.hid (hnp.keep hb12)
  have HB := Lib.hid hb12
  have HS := Lib.hid (show w2.heap.size = w.heap.size + 1 + 1 by omega)
  have HPB := Lib.hid hpb
  have E1 := Lib.hid e1
  have E2 := Lib.hid e2
  have HC : Hid (∀ wr, Below (w.heap.size + 1 + 1) w2 wr → ∀ j, wr.cell? ⟨w.heap.size, j, none⟩ = #[Value.slice a0 o.length c0, .slice a1 p.length c1, .slice a2 s.length c2][j]?) := Lib.hid fun wr hB j =>
    hc1 wr ((hb2.mono (by omega)).trans (hB.mono (by omega))) j
  have HR : Hid (∀ wr, Below (w.heap.size + 1 + 1) w2 wr → wr.heap[w.heap.size + 1]? = some (.cells #[.slice none 0 0, .slice none 0 0, .slice none 0 0] 39 (0, 0))) := Lib.hid fun wr hB => by
    rw [hB.block _ (by omega), e2]
    have := heap_alloc_new w1 (.cells #[.slice none 0 0, .slice none 0 0, .slice none 0 0] 39)
    rw [hs1] at this
    exact this
  have HNP := Lib.hid hnp
  clear hno hnp hs hpb e1 hs1 hb1 hc1 e2 hs2 hb2 hc2 hb12
  go_enter Tryz.func109, Tryz.ntmps109
  go_upto_region 1 with fail
  rw [← E1.out, ← E2.out]
  clear E1 E2
  generalize Value.agg #[.slice a0 o.length c0, .slice a1 p.length c1, .slice a2 s.length c2] = v0
  generalize hbc : w.heap.size = bc at HC HR HS HB ⊢
  have HBC := Lib.hid hbc
  clear hbc
  have t0 := HC.out w2 (Below.refl _ _) 0
  have t1 := HC.out w2 (Below.refl _ _) 1
  have t2 := HC.out w2 (Below.refl _ _) 2
  simp only [List.getElem?_toArray, List.getElem?_cons_succ, List.getElem?_cons_zero] at t0 t1 t2
  go_wp2_with fail
  refine HV.out.mono ?_
  rintro e w3 ⟨b, rfl, hq, hB⟩
  have HX : Hid (Below (bc + 1 + 1) w2 w3) := Lib.hid (hB.mono (Nat.le_of_eq HS.out.symm))
  have HQ := Lib.hid hq
  clear hB hq t0 t1 t2
  have t0 := HC.out w3 HX.out 0
  have t1 := HC.out w3 HX.out 1
  have t2 := HC.out w3 HX.out 2
  simp only [List.getElem?_toArray, List.getElem?_cons_succ, List.getElem?_cons_zero] at t0 t1 t2
  by_cases hb : b = true
  case neg =>
    obtain rfl : b = false := by simpa using hb
    have r0 := HR.out w3 HX.out
    have hw : ∀ j, w3.frozen? ⟨bc + 1, j, none⟩ = false := fun j => by simp [World.frozen?, r0]
    have hc : ∀ j, j < 3 → w3.cell? ⟨bc + 1, j, none⟩ = some (.slice none 0 0) := fun j hj => by
      simp only [World.cell?, r0]
      match j, hj with
      | 0, _ => rfl
      | 1, _ => rfl
      | 2, _ => rfl
    have h0 := hw 0
    have h1 := hw 1
    have h2 := hw 2
    have i0 := hc 0 (by omega)
    have i1 := hc 1 (by omega)
    have i2 := hc 2 (by omega)
    clear hw hc hb
    have HR0 := Lib.hid r0
    clear r0
    have HBW : Hid (Below bc w w3) := Lib.hid (HB.out.trans (HX.out.mono (by omega)))
    go_wp2_with fail
    obtain ⟨e0, e1, e2, e3, -⟩ := stored3 (.slice none 0 0) (.slice none 0 0) (.slice none 0 0) HR0.out HBW.out
    exact view_end rfl rfl e0 e1 e2 ⟨_, false, rfl, gameOut_none _, by rw [HBC.out]; exact e3⟩
  subst hb
  obtain ⟨g, hg⟩ : ∃ g, greatF p = g := ⟨_, rfl⟩
  have hg1 : g ≤ 99 := by rw [← hg]; exact greatF_le (by omega) p HPB.out
  have hq := greatest50 w3 p a1 c1 (.slice a0 o.length c0) (.slice a2 s.length c2) (HP.out.keep (HX.out.mono (Nat.le_of_eq HS.out))) (by omega)
  rw [hg] at hq
  have hd : decide ((30000 : Int) ≤ g) = false := by simp; omega
  clear hg hg1
  go_wp2_with fail
  refine hq.mono ?_
  rintro e w4 ⟨rfl, hB⟩
  have HY : Hid (Below (bc + 1 + 1) w2 w4) := Lib.hid (HX.out.trans (hB.mono (by have h1 := HX.out.size; have h2 := HS.out; omega)))
  clear hB hq t0 t1 t2
  have t0 := HC.out w4 HY.out 0
  have t1 := HC.out w4 HY.out 1
  have t2 := HC.out w4 HY.out 2
  simp only [List.getElem?_toArray, List.getElem?_cons_succ, List.getElem?_cons_zero] at t0 t1 t2
  have r0 := HR.out w4 HY.out
  have hw : ∀ j, w4.frozen? ⟨bc + 1, j, none⟩ = false := fun j => by simp [World.frozen?, r0]
  have hc : ∀ j, j < 3 → w4.cell? ⟨bc + 1, j, none⟩ = some (.slice none 0 0) := fun j hj => by
    simp only [World.cell?, r0]
    match j, hj with
    | 0, _ => rfl
    | 1, _ => rfl
    | 2, _ => rfl
  have h0 := hw 0
  have h1 := hw 1
  have h2 := hw 2
  have i0 := hc 0 (by omega)
  have i1 := hc 1 (by omega)
  have i2 := hc 2 (by omega)
  clear hw hc
  have HR0 := Lib.hid r0
  clear r0
  have HBW : Hid (Below bc w w4) := Lib.hid (HB.out.trans (HY.out.mono (by omega)))
  go_wp2_with fail
  obtain ⟨e0, e1, e2, e3, -⟩ := stored3 (.slice a0 o.length c0) (.slice a1 p.length c1) (.slice a2 s.length c2) HR0.out HBW.out
  exact view_end rfl rfl e0 e1 e2 ⟨_, true, rfl, ⟨a0, a1, a2, _, _, c0, c1, c2, p, rfl, HNP.out.keep (by rw [HBC.out]; exact e3), ho, hp, fun x hx => by have := HPB.out x hx; omega⟩, by rw [HBC.out]; exact e3⟩
end Go.Proofs.YtckdgniecdfedaaGreatDoor
end
section
/- The walk of the reference's Work, given its view. -/
namespace Go.Proofs.YtckdgniecdfedaaGreatDoor
open Go.RowKit

set_option maxRecDepth 100000 in
set_option maxHeartbeats 4000000 in
theorem work51 (w : World) (pl : Int) (o p : List Int) (s : List (List Int)) (a0 a1 a2 : Option Addr) (c0 c1 c2 : Nat)
    (hview : ∀ wr, Below w.heap.size w wr → Calls Tryz.prog 109 #[.agg #[.slice a0 o.length c0, .slice a1 p.length c1, .slice a2 s.length c2], .int .i64 pl] wr (Viewed wr)) :
    Calls Tryz.prog 51 #[.agg #[.slice a0 o.length c0, .slice a1 p.length c1, .slice a2 s.length c2], .int .i64 pl] w (SomeInt w) := by
  obtain ⟨w1, e1, hs1, hb1, hc1⟩ := game_box w #[.slice a0 o.length c0, .slice a1 p.length c1, .slice a2 s.length c2] 39
  have HV := Lib.hid (hview w1 hb1)
  have HB := Lib.hid hb1
  have HS := Lib.hid hs1
  have E1 := Lib.hid e1
  have t0 := hc1 w1 (Below.refl _ _) 0
  have t1 := hc1 w1 (Below.refl _ _) 1
  have t2 := hc1 w1 (Below.refl _ _) 2
  simp only [List.getElem?_toArray, List.getElem?_cons_succ, List.getElem?_cons_zero] at t0 t1 t2
  clear hview e1 hs1 hb1 hc1
  go_enter Tryz.func51, Tryz.ntmps51
  go_upto_region 1 with fail
  rw [← E1.out]
  clear E1
  generalize Value.agg #[.slice a0 o.length c0, .slice a1 p.length c1, .slice a2 s.length c2] = v0
  generalize hbc : w.heap.size = bc at HS HB t0 t1 t2 ⊢
  have HBC := Lib.hid hbc
  clear hbc
  go_wp2_with fail
  refine HV.out.mono ?_
  rintro e w2 ⟨v, c, rfl, ⟨b0, b1, b2, n0, n2, d0, d1, d2, q, rfl, hq, q0, q1, q2⟩, hB2⟩
  have HW : Hid (Below bc w w2) := Lib.hid (HB.out.trans (hB2.mono (by rw [HS.out]; omega)))
  have HZ : Hid (bc ≤ w2.heap.size) := Lib.hid (by have h1 := HW.out.size; have h2 := HBC.out; omega)
  have HQ := Lib.hid hq
  clear hq hB2 t0 t1 t2 HV
  by_cases hc : c = true
  case neg =>
    obtain rfl : c = false := by simpa using hc
    go_wp2_with fail
    go_ret
    exact ⟨_, rfl, by rw [HBC.out]; exact HW.out.alloc HZ.out _⟩
  subst hc
  go_wp2_with fail
  refine (work110 _ q b0 b1 b2 n0 n2 d0 d1 d2 (HQ.out.keep ((Below.refl _ _).alloc (Nat.le_refl _) _)) q0 q1 q2).mono ?_
  rintro e w4 ⟨z, rfl, hB⟩
  have HF : Hid (Below bc w w4) := Lib.hid ((HW.out.alloc HZ.out _).trans (hB.mono (by have := HZ.out; simp; omega)))
  clear hB
  go_wp2_with fail
  go_ret
  exact ⟨z, rfl, by rw [HBC.out]; exact HF.out⟩
end Go.Proofs.YtckdgniecdfedaaGreatDoor
end
section
/- A block whose cells are rows that a call builds by append. -/
namespace Go.Proofs.YtckdgniecdfedaaGreatDoor
open Go.RowKit

theorem OwnN.of_block {w w' : World} {B : Nat} {v : Value} {A : List Int} (h : OwnN w B v A) (hb : ∀ g, v.ownBlock = some g → w'.heap[g]? = w.heap[g]?) : OwnN w' B v A := by
  obtain ⟨h1, h2⟩ := h
  refine ⟨h1, ?_⟩
  rcases h2 with h2 | ⟨g, cap, cur, rfl, h3, hh, h4⟩
  · exact .inl h2
  · exact .inr ⟨g, cap, cur, rfl, h3, (hb g rfl).trans hh, h4⟩

/-- a block whose first cells are rows, each of one's own, no two in one block -/
structure Fam (w : World) (b : Nat) (t : TypeId) (base : Nat) (cs : List Value) (L : List (List Int)) : Prop where
  blk : w.heap[b]? = some (.cells cs.toArray t (0, 0))
  own : ∀ j, j < L.length → OwnN w base (cs.getD j undef) (L.getD j [])
  apart : ∀ i j, i < L.length → j < L.length → i ≠ j → (cs.getD i undef).ownBlock = none ∨ (cs.getD i undef).ownBlock ≠ (cs.getD j undef).ownBlock

theorem Fam.drawn {w : World} {b : Nat} {t : TypeId} {base : Nat} {cs : List Value} {L : List (List Int)} (h : Fam w b t base cs L) (n : Nat) : Fam (w.drewN n) b t base cs L := ⟨h.blk, h.own, h.apart⟩
theorem Fam.drew {w : World} {b : Nat} {t : TypeId} {base : Nat} {cs : List Value} {L : List (List Int)} (h : Fam w b t base cs L) : Fam w.drew b t base cs L := ⟨h.blk, h.own, h.apart⟩
theorem Fam.lt {w : World} {b : Nat} {t : TypeId} {base : Nat} {cs : List Value} {L : List (List Int)} (h : Fam w b t base cs L) : b < w.heap.size := (Array.getElem?_eq_some_iff.1 h.blk).1
theorem Fam.alloc {w : World} {b : Nat} {t : TypeId} {base : Nat} {cs : List Value} {L : List (List Int)} (h : Fam w b t base cs L) (o : Obj) : Fam (w.alloc o) b t base cs L := by
  refine ⟨(heap_alloc_old w o h.lt).trans h.blk, fun j hj => (h.own j hj).of_block fun g hg => ?_, h.apart⟩
  exact heap_alloc_old w o (World.ownsRow.lt (h.own j hj) g hg).2
theorem Fam.cell {w : World} {b : Nat} {t : TypeId} {base : Nat} {cs : List Value} {L : List (List Int)} (h : Fam w b t base cs L) {j : Nat} (hj : j < cs.length) : w.cell? ⟨b, j, none⟩ = some (cs.getD j undef) := by
  simp [World.cell?, h.blk, hj]
theorem Fam.frozen {w : World} {b : Nat} {t : TypeId} {base : Nat} {cs : List Value} {L : List (List Int)} (h : Fam w b t base cs L) (j : Nat) : w.frozen? ⟨b, j, none⟩ = false := by
  simp [World.frozen?, h.blk]
theorem Fam.same {w w2 : World} {b : Nat} {t : TypeId} {base : Nat} {cs : List Value} {L : List (List Int)} (h : Fam w b t base cs L) {B : Nat} (hB : Below B w w2) (hs : w.heap.size ≤ B) : Fam w2 b t base cs L := by
  refine ⟨(hB.block b (Nat.lt_of_lt_of_le h.lt hs)).trans h.blk, fun j hj => (h.own j hj).of_block fun g hg => ?_, h.apart⟩
  exact hB.block g (Nat.lt_of_lt_of_le (World.ownsRow.lt (h.own j hj) g hg).2 hs)

theorem Fam.append {w w2 : World} {b : Nat} {t : TypeId} {base : Nat} {cs : List Value} {L : List (List Int)} (h : Fam w b t base cs L) {j : Nat} (hj : j < L.length) (hcs : L.length ≤ cs.length) (hb : b < base)
    {g n cap : Nat} {xs : List Int} (hown : OwnN w2 base (.slice (some ⟨g, 0, none⟩) n cap) xs) (hg : w.grownBy w2 (cs.getD j undef).ownBlock) (hat : (cs.getD j undef).ownBlock = some g ∨ g = w.heap.size) :
    Fam (w2.setCell ⟨b, j, none⟩ (.slice (some ⟨g, 0, none⟩) n cap)) b t base (cs.set j (.slice (some ⟨g, 0, none⟩) n cap)) (L.set j xs) := by
  have hbo : some b ≠ (cs.getD j undef).ownBlock := fun e => by have := (World.ownsRow.lt (h.own j hj) b e.symm).1; omega
  have hblk : w2.heap[b]? = some (.cells cs.toArray t (0, 0)) := (hg.block b h.lt hbo).trans h.blk
  have hgb : base ≤ g := (World.ownsRow.lt hown g rfl).1
  have hjc : j < cs.length := Nat.lt_of_lt_of_le hj hcs
  have hself : (cs.set j (.slice (some ⟨g, 0, none⟩) n cap)).getD j undef = .slice (some ⟨g, 0, none⟩) n cap := by
    simp [List.getD_eq_getElem?_getD, hjc]
  have hoth : ∀ i, i ≠ j → (cs.set j (.slice (some ⟨g, 0, none⟩) n cap)).getD i undef = cs.getD i undef := fun i hi => by
    rw [List.getD_eq_getElem?_getD, List.getD_eq_getElem?_getD, List.getElem?_set_ne (Ne.symm hi)]
  have hnew : ∀ i, i < L.length → i ≠ j → (cs.getD i undef).ownBlock ≠ some g := fun i hi hne e => by
    rcases hat with hat | hat
    · rcases h.apart i j hi hj hne with h1 | h1
      · rw [h1] at e; cases e
      · exact h1 (e.trans hat.symm)
    · have := (World.ownsRow.lt (h.own i hi) g e).2
      omega
  refine ⟨?_, ?_, ?_⟩
  · rw [heap_setCell_same w2 b j _ t _ hblk]
    simp
  · intro i hi
    rw [List.length_set] at hi
    by_cases hij : i = j
    · subst hij
      rw [hself, List.getD_eq_getElem?_getD, List.getElem?_set_self hi]
      refine hown.of_block fun k hk => heap_setCell_other _ _ _ _ ?_
      have := (World.ownsRow.lt hown k hk).1
      show k ≠ b
      omega
    · have eL : (L.set j xs).getD i [] = L.getD i [] := by
        rw [List.getD_eq_getElem?_getD, List.getD_eq_getElem?_getD, List.getElem?_set_ne (Ne.symm hij)]
      rw [hoth i hij, eL]
      refine (h.own i hi).of_block fun k hk => ?_
      have h1 := World.ownsRow.lt (h.own i hi) k hk
      rw [heap_setCell_other _ _ _ _ (show k ≠ b by omega)]
      refine hg.block k h1.2 fun e => ?_
      rcases h.apart i j hi hj hij with h2 | h2
      · rw [h2] at hk; cases hk
      · exact h2 (hk.trans e)
  · intro i k hi hk hik
    rw [List.length_set] at hi hk
    by_cases hij : i = j
    · subst hij
      rw [hself, hoth k (Ne.symm hik)]
      right
      exact fun e => hnew k hk (Ne.symm hik) e.symm
    · rw [hoth i hij]
      by_cases hkj : k = j
      · subst hkj
        rw [hself]
        exact .inr (hnew i hi hij)
      · rw [hoth k hkj]
        exact h.apart i k hi hk hik

/-- append onto a row of such a block, as a step of a region that draws its order -/
theorem step_append_fam {w : World} {ops : Array Oper} {o : Oper} {a : Act} {K : Act → World → Prop} {Q : Exit → Act → World → Prop} {E : Prop} (hgd : o.guard = none) (s x : Operand)
    (ho : o.op = .call { callee := .builtin .append, args := #[s, x], argTypes := #[25, 25] }) {b : Nat} {t : TypeId} {base : Nat} {cs : List Value} {L : List (List Int)} (h : Fam w b t base cs L) (j : Nat) (hj : j < L.length) (hcs : L.length ≤ cs.length) (hb : b < base) (hbs : base ≤ w.heap.size)
    (c : Value) (hc : cs.getD j undef = c) (hs : a.eval s = c) (A : List Int) (hA : L.getD j [] = A) (N : Nat) (hN : A.length = N) (g0 : Nat) (n : Int) (hx : a.eval x = .slice (some ⟨g0, 0, none⟩) 1 1) (hcell : w.cell? ⟨g0, 0, none⟩ = some (.int .i64 n)) (hl : A.length + 1 ≤ 1000000)
    (hK : ∀ (g cap : Nat) (w2 : World), w2.cell? ⟨b, j, none⟩ = some c → w2.frozen? ⟨b, j, none⟩ = false →
      Hid (Fam (w2.setCell ⟨b, j, none⟩ (.slice (some ⟨g, 0, none⟩) (N + 1) cap)) b t base (cs.set j (.slice (some ⟨g, 0, none⟩) (N + 1) cap)) (L.set j (A ++ [n]))) →
      Hid (∀ (B0 : Nat) (w0 : World), Below B0 w0 w → B0 ≤ b → Below B0 w0 (w2.setCell ⟨b, j, none⟩ (.slice (some ⟨g, 0, none⟩) (N + 1) cap))) →
      K (a.put o.dst (.slice (some ⟨g, 0, none⟩) (N + 1) cap)) w2) :
    if Region.wanted o (yielded ops a.tmps) = true then Oper.wp Tryz.prog o a w K Q else E := by
  subst hN
  obtain ⟨i0, hi, hz0, hz1, hz2⟩ := info_parts Tryz.info3
  have ow := h.own j hj
  rw [hc, hA] at ow
  have hap : ∀ (g cap : Nat) (w2 : World), OwnN w2 base (.slice (some ⟨g, 0, none⟩) (A.length + 1) cap) (A ++ [n]) → w.grownBy w2 c.ownBlock → (c.ownBlock = some g ∨ g = w.heap.size) → Fam (w2.setCell ⟨b, j, none⟩ (.slice (some ⟨g, 0, none⟩) (A.length + 1) cap)) b t base (cs.set j (.slice (some ⟨g, 0, none⟩) (A.length + 1) cap)) (L.set j (A ++ [n])) := fun g cap w2 h1 h2 h3 => by
    rw [← hc] at h2 h3
    exact h.append hj hcs hb h1 h2 h3
  have hblk := h.blk
  refine step_append_lies w hgd s x 25 ho base 3 i0 (.int .i64 0) 1 8 Tryz.underlying25 hi hz0 hz1 hz2 rfl (by decide) c A.length (A.map (Value.int .i64)) hs ow ⟨g0, 0, none⟩ 1 1 [.int .i64 n] hx rfl ?_ ?_ (by decide) (by unfold maxLen; omega) (by omega) hbs w.heap.size rfl ?_
  · intro i u hu
    match i, hu with
    | 0, hu =>
      obtain rfl : Value.int .i64 n = u := by simpa using hu
      simpa [Addr.add] using hcell
  · intro u hu
    simp at hu
    subst hu
    rfl
  · intro g cap w2 h1 h2 h3 _
    have h1' : OwnN w2 base (.slice (some ⟨g, 0, none⟩) (A.length + 1) cap) (A ++ [n]) := by unfold OwnN; simpa using h1
    have hne : some b ≠ c.ownBlock := fun e => by have := (World.ownsRow.lt ow b e.symm).1; omega
    have hbl : w2.heap[b]? = some (.cells cs.toArray t (0, 0)) := (h2.block b h.lt hne).trans hblk
    have hjc : j < cs.length := Nat.lt_of_lt_of_le hj hcs
    refine hK g cap w2 ?_ ?_ (Lib.hid (hap g cap w2 h1' h2 h3)) (Lib.hid fun B0 w0 hB0 hle => ?_)
    · have := hc
      rw [List.getD_eq_getElem?_getD, List.getElem?_eq_getElem hjc] at this
      simp only [Option.getD_some] at this
      simp [World.cell?, hbl, hjc, this]
    · simp [World.frozen?, hbl]
    · refine (hB0.grown h2 (by omega) fun k hk => ?_).setCell hle _
      have := (World.ownsRow.lt ow k hk).1
      omega
end Go.Proofs.YtckdgniecdfedaaGreatDoor
end
