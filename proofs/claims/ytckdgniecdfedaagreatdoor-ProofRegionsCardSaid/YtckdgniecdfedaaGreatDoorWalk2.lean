/- The walk of the law ProofSeal: it hands back true, whatever the two lists, the position and the other number are, if head does. -/
import Derived.Test.YtckdgniecdfedaaGreatDoorWalk1
import Derived.Deep.QuietTactic
import Derived.BigQuiet
import Derived.Laws.OwnMore
namespace Go.Proofs.YtckdgniecdfedaaGreatDoor
open Go.RowKit

/-- a slice of words that can be read -/
def Words (w : World) (v : Value) (zs : List Int) : Prop :=
  (∀ j, j < zs.length → 0 ≤ zs.getD j 0 ∧ zs.getD j 0 < 65536) ∧
  ((zs = [] ∧ ∃ a cap, v = .slice a 0 cap) ∨ ∃ b off cap, v = .slice (some ⟨b, off, none⟩) zs.length cap ∧ b < w.heap.size ∧ ∀ j, j < zs.length → w.cell? ⟨b, off + j, none⟩ = some (.int .u16 (zs.getD j 0)))
theorem Words.keep {w w' : World} {v : Value} {zs : List Int} (h : Words w v zs) (hB : Below w.heap.size w w') : Words w' v zs := by
  rcases h with ⟨h0, h | ⟨b, off, cap, e, hb, hc⟩⟩
  · exact ⟨h0, .inl h⟩
  · exact ⟨h0, .inr ⟨b, off, cap, e, Nat.lt_of_lt_of_le hb hB.size, fun j hj => (hB.cell (p := ⟨b, off + j, none⟩) hb).trans (hc j hj)⟩⟩

/-- a slice of the call's own that is not nil -/
def Own (w : World) (base : Nat) (v : Value) (xs : List Int) : Prop := w.ownsRow base 3 1 v xs.length (xs.map (Value.int .i64)) ∧ ∃ g cap, v = .slice (some ⟨g, 0, none⟩) xs.length cap ∧ base ≤ g ∧ g < w.heap.size
theorem Own.keep {w w' : World} {base : Nat} {v : Value} {xs : List Int} (h : Own w base v xs) {B : Nat} (hB : Below B w w') (hs : w.heap.size ≤ B) : Own w' base v xs := by
  obtain ⟨⟨h1, h2⟩, g, cap, e, hg, hl⟩ := h
  refine ⟨⟨h1, ?_⟩, g, cap, e, hg, Nat.lt_of_lt_of_le hl hB.size⟩
  rcases h2 with h2 | ⟨g', cap', cur, e', hb, hh, h3⟩
  · exact .inl h2
  · refine .inr ⟨g', cap', cur, e', hb, ?_, h3⟩
    have : g' = g := by rw [e] at e'; have := e'.symm; simp at this; exact this.1
    subst this
    rw [hB.block _ (by omega)]
    exact hh
theorem Own.free {w : World} {base g n c : Nat} {xs : List Int} (h : Own w base (.slice (some ⟨g, 0, none⟩) n c) xs) : ∀ j, w.frozen? ⟨g, j, none⟩ = false := fun j => by
  rcases h.1.2 with ⟨e, _⟩ | ⟨g', cap', cur, e', hb, hh, _⟩
  · cases e
  · have : g' = g := by have := e'.symm; simp at this; exact this.1
    subst this
    simp [World.frozen?, hh]
theorem Own.cells {w : World} {base : Nat} {v : Value} {xs : List Int} (h : Own w base v xs) : ∃ g cap, v = .slice (some ⟨g, 0, none⟩) xs.length cap ∧ base ≤ g ∧ g < w.heap.size ∧ ∀ j, j < xs.length → w.cell? ⟨g, j, none⟩ = some (.int .i64 (xs.getD j 0)) := by
  obtain ⟨h1, g, cap, rfl, hg, hl⟩ := h
  refine ⟨g, cap, rfl, hg, hl, fun j hj => ?_⟩
  have := h1.cells (g := g) rfl j (.int .i64 (xs.getD j 0)) (by simp [hj])
  rcases Nat.eq_zero_or_pos j with rfl | h0
  · simpa [Addr.add] using this
  · simpa [Addr.add, Nat.pos_iff_ne_zero.1 h0] using this

theorem Own.set {w : World} {base g n c : Nat} {xs : List Int} (h : Own w base (.slice (some ⟨g, 0, none⟩) n c) xs) (i : Nat) (v : Int) :
    Own (w.setCell ⟨g, i, none⟩ (.int .i64 v)) base (.slice (some ⟨g, 0, none⟩) n c) (xs.set i v) := by
  obtain ⟨h1, g', c', e, hb, hl⟩ := h
  simp only [Value.slice.injEq, Option.some.injEq, Addr.mk.injEq, and_true] at e
  obtain ⟨rfl, rfl, rfl⟩ := e
  refine ⟨?_, g, c, by simp, hb, by simpa [World.setCell] using hl⟩
  have := h1.stored i (.int .i64 v)
  rw [List.length_set, List.map_set]
  simpa using this.1
theorem below_drawn {B : Nat} {a w : World} (h : Below B a w) (n : Nat) : Below B a (w.drewN n) := ⟨h.os, h.tape, h.output, h.size, h.block⟩
theorem seal_drawn {w : World} {base : Nat} {v : Value} {zs : List Int} (h : Own w base v zs) (hl : zs.length ≤ 1000000) (hz : ∀ j, j < zs.length → 0 ≤ zs.getD j 0 ∧ zs.getD j 0 < 65520) (n : Nat) :
    Calls Tryz.prog 10 #[v] (w.drewN n) fun e w' => e = .returned (.int .i64 (Sl.sl zs)) ∧ w' = w.drewN n :=
  (seal_own (base := base) zs (w.drewN n) h.1 hl hz).mono fun _ _ ⟨he, hw⟩ => ⟨he, hw.symm⟩
theorem set_bd {X : List Int} (hX : ∀ j, j < X.length → 0 ≤ X.getD j 0 ∧ X.getD j 0 < 65520) (i : Nat) {v : Int} (hv : 0 ≤ v ∧ v < 65520) : ∀ j, j < (X.set i v).length → 0 ≤ (X.set i v).getD j 0 ∧ (X.set i v).getD j 0 < 65520 := fun j hj => by
  rw [List.length_set] at hj
  have := hX j hj
  simp only [List.getD_eq_getElem?_getD, List.getElem?_set] at this ⊢
  split
  · split
    · simpa using hv
    · omega
  · exact this
theorem numbers_empty (a : Option Addr) (cap : Nat) (w : World) : Calls Tryz.prog 9 #[.slice a 0 cap] w fun e w' => ∃ v, e = .returned v ∧ Own w' w.heap.size v [] ∧ Below w.heap.size w w' := by
  go_enter Tryz.func9, Tryz.ntmps9
  go_wp2
  refine wp_loop_rounds 1 ?_
  rw [rounds_succ]
  go_wp2
  go_ret
  exact ⟨_, rfl, ⟨World.ownsRow_made _ _ _ (Nat.le_refl _) (by decide) rfl, _, _, rfl, Nat.le_refl _, by simp⟩, (Below.refl _ _).alloc (Nat.le_refl _) _⟩

/-- what numbers makes of words -/
def nums (zs : List Int) : List Int := zs.map (· % 65520)
theorem nums_len (zs : List Int) : (nums zs).length = zs.length := by simp [nums]
theorem nums_bd (zs : List Int) : ∀ j, j < (nums zs).length → 0 ≤ (nums zs).getD j 0 ∧ (nums zs).getD j 0 < 65520 := fun j hj => by
  have hj' : j < zs.length := by rw [nums_len] at hj; exact hj
  have : (nums zs).getD j 0 = zs[j] % 65520 := by
    rw [List.getD_eq_getElem?_getD, List.getElem?_eq_getElem hj, Option.getD_some]
    exact List.getElem_map _
  rw [this]
  omega
theorem numbers_any {v : Value} {zs : List Int} (w : World) (h : Words w v zs) (hl : zs.length ≤ 1000000) : Calls Tryz.prog 9 #[v] w fun e w' => ∃ v, e = .returned v ∧ Own w' w.heap.size v (nums zs) ∧ Below w.heap.size w w' := by
  obtain ⟨hz, ⟨rfl, a, cap, rfl⟩ | ⟨b, off, cap, rfl, hb, hc⟩⟩ := h
  · exact numbers_empty a cap w
  · refine (numbers_cells b off cap zs w hl hb hz hc).mono fun e w' ⟨v, he, hown, hnn, hB⟩ => ⟨v, he, ⟨?_, ?_⟩, hB⟩
    · rw [nums_len]
      simpa [nums, Nm] using hown
    · rcases hown.2 with ⟨h, _⟩ | ⟨g, c, cur, e', hg, hh, _⟩
      · exact absurd h hnn
      · refine ⟨g, c, by rw [nums_len]; exact e', hg, ?_⟩
        rcases Nat.lt_or_ge g w'.heap.size with h' | h'
        · exact h'
        · rw [Array.getElem?_eq_none h'] at hh; cases hh

theorem app_bd {X Y : List Int} (hX : ∀ j, j < X.length → 0 ≤ X.getD j 0 ∧ X.getD j 0 < 65520) (hY : ∀ j, j < Y.length → 0 ≤ Y.getD j 0 ∧ Y.getD j 0 < 65520) : ∀ j, j < (X ++ Y).length → 0 ≤ (X ++ Y).getD j 0 ∧ (X ++ Y).getD j 0 < 65520 := fun j hj => by
  rw [List.length_append] at hj
  simp only [List.getD_eq_getElem?_getD] at hX hY ⊢
  rcases Nat.lt_or_ge j X.length with h | h
  · rw [List.getElem?_append_left h]; exact hX j h
  · rw [List.getElem?_append_right h]; exact hY _ (by omega)
/-- append onto a slice of the call's own, of numbers that can be read -/
theorem wpList_append_I {w : World} {ops : Array Oper} {rest : List Oper} {o : Oper} {a : Act} {Q : Exit → Act → World → Prop} (hgd : o.guard = none) (s x : Operand)
    (ho : o.op = .call { callee := .builtin .append, args := #[s, x], argTypes := #[25, 25] }) (B : Nat) (w0 : World) (hB : Below B w0 w) (hBs : B ≤ w.heap.size)
    (v : Value) (A : List Int) (hs : a.eval s = v) (hown : Own w B v A) (g c : Nat) (N : List Int) (hx : a.eval x = .slice (some ⟨g, 0, none⟩) N.length c)
    (hc : ∀ j, j < N.length → w.cell? ⟨g, j, none⟩ = some (.int .i64 (N.getD j 0))) (hl : A.length + N.length ≤ 1000000)
    (h : ∀ v' w', Own w' B v' (A ++ N) → Below B w0 w' → wpList Tryz.prog ops Q rest (a.put o.dst v') w') : wpList Tryz.prog ops Q (o :: rest) a w := by
  obtain ⟨i0, hi, hz0, hz1, hz2⟩ := info_parts Tryz.info3
  refine wpList_append_own _ hgd s x 25 ho B 3 i0 (.int .i64 0) 1 8 Tryz.underlying25 hi hz0 hz1 hz2 rfl (by decide) v A.length (A.map (Value.int .i64)) hs hown.1 ⟨g, 0, none⟩ N.length c (N.map (Value.int .i64)) hx (by simp) ?_ ?_ ?_ ?_ hBs ?_
  · intro j u hj
    simp only [List.getElem?_map, Option.map_eq_some_iff] at hj
    obtain ⟨n, hn, rfl⟩ := hj
    have hlt : j < N.length := by
      rcases Nat.lt_or_ge j N.length with h' | h'
      · exact h'
      · rw [List.getElem?_eq_none h'] at hn; cases hn
    have := hc j hlt
    rw [List.getD_eq_getElem?_getD, hn, Option.getD_some] at this
    rcases Nat.eq_zero_or_pos j with rfl | h0
    · simpa [Addr.add] using this
    · simpa [Addr.add, Nat.pos_iff_ne_zero.1 h0] using this
  · intro u hu
    obtain ⟨n, _, rfl⟩ := List.mem_map.1 hu
    rfl
  · unfold maxLen; omega
  · omega
  · intro v' w' h1 h2 h3
    have hnn : v' ≠ .slice none 0 0 := fun e => by
      obtain ⟨_, g', c', e', _⟩ := hown
      rw [(h3.1 e).1] at e'; cases e'
    refine h v' w' ⟨by simpa using h1, ?_⟩ (hB.grown h2 hBs fun k hk => (hown.1.lt k hk).1)
    rcases h1.2 with ⟨e, _⟩ | ⟨g', cap', cur, e', hb, hh, _⟩
    · exact absurd e hnn
    · refine ⟨g', cap', by simpa using e', hb, ?_⟩
      rcases Nat.lt_or_ge g' w'.heap.size with h' | h'
      · exact h'
      · rw [Array.getElem?_eq_none h'] at hh; cases hh
theorem Own.made (w : World) : Own (w.alloc (.cells #[] 3)) w.heap.size (.slice (some ⟨w.heap.size, 0, none⟩) 0 0) [] :=
  ⟨World.ownsRow_made _ _ _ (Nat.le_refl _) (by decide) rfl, _, _, rfl, Nat.le_refl _, by simp⟩

/-- what head is asked for -/
def HeadAt (w : World) : Prop := Calls Tryz.prog 8 #[] w fun e w' => e = .returned (.bool true) ∧ Below w.heap.size w w'

/-- what a law hands back -/
def Yes (w : World) (e : Ending) (w' : World) : Prop := e = .returned (.bool true) ∧ Below w.heap.size w w'

set_option maxHeartbeats 1600000 in
theorem seal_long (w : World) (hh : HeadAt w) (a b : Option Addr) (n m c d : Nat) (x y : Int) (h : 200 < n ∨ 200 < m) :
    Calls Tryz.prog 3 #[.slice a n c, .slice b m d, .int .u16 x, .int .u16 y] w (Yes w) := by
  go_enter Tryz.func3, Tryz.ntmps3
  by_cases hna : 200 < n
  · go_wp2_with (first | (go_at_call 8; refine hh.mono ?_; rintro e w' ⟨rfl, hB⟩))
    go_ret
    exact ⟨rfl, hB⟩
  · have hmb : 200 < m := by omega
    go_wp2_with (first | (go_at_call 8; refine hh.mono ?_; rintro e w' ⟨rfl, hB⟩))
    go_ret
    exact ⟨rfl, hB⟩

set_option maxRecDepth 100000 in
set_option maxHeartbeats 1600000 in
theorem seal_short (w : World) (hh : HeadAt w) (a b : Option Addr) (c d : Nat) (xs ys : List Int) (x y : Int) (hA : Words w (.slice a xs.length c) xs) (hB : Words w (.slice b ys.length d) ys)
    (lx : xs.length ≤ 200) (ly : ys.length ≤ 200) (x0 : 0 ≤ x) (x1 : x < 65536) (y0 : 0 ≤ y) (y1 : y < 65536) :
    Calls Tryz.prog 3 #[.slice a xs.length c, .slice b ys.length d, .int .u16 x, .int .u16 y] w (Yes w) := by
  go_enter Tryz.func3, Tryz.ntmps3
  go_wp2_with fail
  refine hh.mono ?_; rintro e w1 ⟨rfl, hB1⟩
  have hA1 := hA.keep hB1
  have hB1' := hB.keep hB1
  have hz1 := hB1.size
  go_wp2_with fail
  refine (numbers_any w1 hA1 (by omega)).mono ?_; rintro e w2 ⟨vx, rfl, hX2, hB2⟩
  have hY2 := hB1'.keep hB2
  have hz2 := hB2.size
  go_wp2_with fail
  refine (numbers_any w2 hY2 (by omega)).mono ?_; rintro e w3 ⟨vy, rfl, hY3, hB3⟩
  have hX3 := hX2.keep hB3 (Nat.le_refl _)
  have hz3 := hB3.size
  obtain ⟨gx, cx, rfl, hgx, hgx', hcx⟩ := hX3.cells
  obtain ⟨gy, cy, rfl, hgy, hgy', hcy⟩ := hY3.cells
  have lX : (nums xs).length ≤ 200 := by rw [nums_len]; exact lx
  have lY : (nums ys).length ≤ 200 := by rw [nums_len]; exact ly
  have bX := nums_bd xs
  have bY := nums_bd ys
  have HX := Lib.hid hX3
  have HY := Lib.hid hY3
  have HcX := Lib.hid hcx
  have HcY := Lib.hid hcy
  have HbX := Lib.hid bX
  have HbY := Lib.hid bY
  clear hX2 hY2 hA hA1 hB hB1' hX3 hY3 hcx hcy bX bY
  generalize nums xs = X at *
  generalize nums ys = Y at *
  go_wp2_with fail
  go_loop [12, 13] (fun p i => ∃ k : Nat, k ≤ X.length ∧ i = .int .i64 k ∧ p = .int .i64 (Sl.pw k)) (fun _ i => X.length - (intOf i).toNat)
  case atStart => exact ⟨0, Nat.zero_le _, rfl, rfl⟩
  case round =>
    obtain ⟨k, hk, rfl, rfl⟩ := hrel
    by_cases hlt : k < X.length
    · obtain ⟨p0, p1⟩ := Sl.pw_bd k
      have H := Lib.hid (show Sl.pw (k + 1) = Sl.pw k * 3 % 65521 from rfl)
      go_wp2_with fail
      go_round
      case rel => exact ⟨k + 1, by omega, by go_num, by rw [H.out]⟩
      case measure => simp [intOf]; omega
    · obtain rfl : k = X.length := by omega
      go_wp2_with (first
        | (at_builtin; refine wpList_append_I rfl (.tmp 39) (.tmp 40) rfl w3.heap.size w3 ((Below.refl _ _).alloc (Nat.le_refl _) _) (by simp) _ [] rfl (Own.made w3) gx cx X rfl (fun j hj => (World.cell?_alloc_past _ _ _ hgx').trans (HcX.out j hj)) (by simp; omega) ?_))
      intro v4 w4 hv4 hB4
      have hz4 := hB4.size
      have hx4 := HX.out.keep hB4 (Nat.le_refl _)
      have hy4 := HY.out.keep hB4 (Nat.le_refl _)
      have HV4 := Lib.hid hv4
      have Hx4 := Lib.hid hx4
      have Hy4 := Lib.hid hy4
      clear hv4 hx4 hy4
      go_wp2_with (first
        | (at_builtin; refine wpList_append_I rfl (.tmp 41) (.tmp 42) rfl w3.heap.size w3 hB4 hz4 _ X rfl HV4.out gy cy Y rfl (fun j hj => (hB4.cell (p := ⟨gy, j, none⟩) hgy').trans (HcY.out j hj)) (by omega) ?_))
      intro v5 w5 hv5 hB5
      have hz5 := hB5.size
      have lXY : (X ++ Y).length ≤ 400 := by rw [List.length_append]; omega
      have E := Sl.sl_append X Y
      have HE := Lib.hid E
      have hx5 := HX.out.keep hB5 (Nat.le_refl _)
      have hy5 := HY.out.keep hB5 (Nat.le_refl _)
      have hs5 := (seal_own (X ++ Y) w5 hv5.1 (by omega) (app_bd HbX.out HbY.out))
      rw [E] at hs5
      clear E
      have HV5 := Lib.hid hv5
      have Hx5 := Lib.hid hx5
      have Hy5 := Lib.hid hy5
      clear hv5 hx5 hy5
      obtain ⟨q0, q1⟩ := Sl.pw_bd X.length
      obtain ⟨s0, s1⟩ := Sl.sl_bd X
      obtain ⟨t0, t1⟩ := Sl.sl_bd Y
      have m0 : 0 ≤ Sl.pw X.length * Sl.sl Y := Int.mul_nonneg q0 t0
      have m1 : Sl.pw X.length * Sl.sl Y ≤ 65521 * 65521 := Int.mul_le_mul (by omega) (by omega) t0 (by omega)
      go_wp2_with fail
      refine hs5.mono ?_; rintro e w' ⟨rfl, rfl⟩
      go_wp2_with fail
      refine (seal_own X w5 Hx5.out.1 (by omega) HbX.out).mono ?_; rintro e w' ⟨rfl, rfl⟩
      go_wp2_with fail
      refine (seal_own Y w5 Hy5.out.1 (by omega) HbY.out).mono ?_; rintro e w' ⟨rfl, rfl⟩
      by_cases hX0 : X = []
      · have hx0 : ((X.length : Int) == 0) = true := by rw [hX0]; rfl
        have hs0 := seal_own X w5 Hx5.out.1 (by omega) HbX.out
        rw [show Sl.sl X = 0 by rw [hX0]; rfl] at hs0
        clear hX0
        go_wp2_with fail
        refine hs0.mono ?_; rintro e w' ⟨rfl, rfl⟩
        go_wp2_with fail
        go_ret
        exact ⟨rfl, hB1.trans ((hB2.mono hz1).trans ((hB3.mono (by omega)).trans (hB5.mono (by omega))))⟩
      · have hl0 : 0 < X.length := List.length_pos_iff.2 hX0
        have hx0 : ((X.length : Int) == 0) = false := by rw [beq_eq_false_iff_ne]; omega
        obtain ⟨i, hi, hil⟩ : ∃ i : Nat, x % (X.length : Int) = (i : Int) ∧ i < X.length := ⟨(x % (X.length : Int)).toNat, by have := Int.emod_nonneg x (show (X.length : Int) ≠ 0 by omega); omega, by have := Int.emod_lt_of_pos x (show (0 : Int) < X.length by omega); have := Int.emod_nonneg x (show (X.length : Int) ≠ 0 by omega); omega⟩
        go_wp2_with (first
          | (at_builtin; refine wpList_append_I rfl (.tmp 63) (.tmp 64) rfl w5.heap.size w5 ((Below.refl _ _).alloc (Nat.le_refl _) _) (by simp) _ [] rfl (Own.made w5) gx cx X rfl (fun j hj => (World.cell?_alloc_past _ _ _ (by omega)).trans ((hB5.cell (p := ⟨gx, j, none⟩) hgx').trans (HcX.out j hj))) (by simp; omega) ?_))
        intro v6 w6 hv6 hB6
        have hz6 := hB6.size
        have hx6 := Hx5.out.keep hB6 (Nat.le_refl _)
        obtain ⟨gz, cz, rfl, hgz, hgz', hcz⟩ := hv6.cells
        have hczi := hcz i hil
        have hfz := Own.free hv6
        have HX6 := Lib.hid hx6
        have HZ6 := Lib.hid hv6
        have HcZ := Lib.hid hcz
        clear hx6 hv6 hcz
        go_wp2_with fail
        have hv : 0 ≤ y % 65520 ∧ y % 65520 < 65520 := by omega
        have hB7 := hB6.setCell (show w5.heap.size ≤ (⟨gz, i, none⟩ : Addr).block from hgz) (.int .i64 (y % 65520))
        have hX7 := Hx5.out.keep hB7 (Nat.le_refl _)
        have hZ7 := HZ6.out.set i (y % 65520)
        generalize w6.setCell ⟨gz, i, none⟩ (.int .i64 (y % 65520)) = W7 at *
        have hc1 : W7.cell? ⟨gz, i, none⟩ = some (.int .i64 (y % 65520)) := by
          obtain ⟨g', c', e, _, _, hc⟩ := hZ7.cells
          simp only [Value.slice.injEq, Option.some.injEq, Addr.mk.injEq, and_true] at e
          obtain ⟨rfl, _, _⟩ := e
          have := hc i (by rw [List.length_set]; exact hil)
          rw [this]; simp [List.getD_eq_getElem?_getD, hil]
        have hc2 : W7.cell? ⟨gx, i, none⟩ = some (.int .i64 (X.getD i 0)) := by
          obtain ⟨g', c', e, _, _, hc⟩ := hX7.cells
          simp only [Value.slice.injEq, Option.some.injEq, Addr.mk.injEq, and_true] at e
          obtain ⟨rfl, _, _⟩ := e
          exact hc i hil
        have qz := fun n => seal_drawn hZ7 (by rw [List.length_set]; omega) (set_bd HbX.out i hv) n
        have qx := fun n => seal_drawn hX7 (by omega) HbX.out n
        have hset := Sl.sl_set X i (y % 65520) hil (fun n hn => by
          obtain ⟨j, hj, rfl⟩ := List.getElem_of_mem hn
          have := HbX.out j hj
          rw [List.getD_eq_getElem?_getD, List.getElem?_eq_getElem hj, Option.getD_some] at this
          exact this) hv
        have ex : X.getD i 0 = X[i] := by rw [List.getD_eq_getElem?_getD, List.getElem?_eq_getElem hil, Option.getD_some]
        rw [ex] at hc2
        generalize X[i] = n at *
        generalize Sl.sl (X.set i (y % 65520)) = S1 at *
        generalize y % 65520 = v at *
        generalize Sl.sl X = S2 at *
        clear HX HY HcX HcY HbX HbY HV4 Hx4 Hy4 HV5 Hx5 Hy5 HX6 HZ6 HcZ hX7 hZ7 hs5 ex
        rw [hi]
        have hi0 : (0 : Int) ≤ (i : Int) := by omega
        have hi1 : decide (i < X.length) = true := by simpa using hil
        have hBW : Below w.heap.size w W7 := hB1.trans ((hB2.mono hz1).trans ((hB3.mono (by omega)).trans ((hB5.mono (by omega)).trans (hB7.mono (by omega)))))
        by_cases hvn : v = n
        · have e1 : (S1 == S2) = true := by rw [beq_iff_eq]; exact hset.2 hvn
          have e2 : (v == n) = true := by rw [beq_iff_eq]; exact hvn
          clear hset hvn hi hB5 hB6 hB7
          go_quiet ((go_at_call 10; first | (with_reducible exact Calls.quiet_of_same (qz _)) | (with_reducible exact Calls.quiet_of_same (qx _))))
          go_wp2_with fail
          go_ret
          exact ⟨rfl, below_drawn hBW _⟩
        · have e1 : (S1 == S2) = false := by rw [beq_eq_false_iff_ne]; exact fun e => hvn (hset.1 e)
          have e2 : (v == n) = false := by rw [beq_eq_false_iff_ne]; exact hvn
          clear hset hvn hi hB5 hB6 hB7
          go_quiet ((go_at_call 10; first | (with_reducible exact Calls.quiet_of_same (qz _)) | (with_reducible exact Calls.quiet_of_same (qx _))))
          go_wp2_with fail
          go_ret
          exact ⟨rfl, below_drawn hBW _⟩
end Go.Proofs.YtckdgniecdfedaaGreatDoor
