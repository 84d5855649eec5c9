/- The beginning of a climb, and its walk. -/
import Derived.Test.YtckdgniecdfedaaGreatDoorRnF
import Derived.Test.YtckdgniecdfedaaGreatDoorRnD
import Derived.Deep.RegionHeld3
import Derived.Deep.RegionLaw
import Derived.Deep.AppendLies
import Derived.Deep.Cut
import Derived.StillTailTactics
import Derived.BigQuiet
section
/- What the beginning of a climb holds, as plain functions; a light game is such as the climb takes for granted. -/
namespace Go.Proofs.YtckdgniecdfedaaGreatDoor

/-- the numbers of measures with the same first numbers -/
def unitF : List Int → List Int
  | [] => [1]
  | x :: xs => (unitF xs).headD 0 * (x + 1) :: unitF xs
theorem unitF_len : ∀ xs : List Int, (unitF xs).length = xs.length + 1
  | [] => rfl
  | x :: xs => by simp [unitF, unitF_len xs]
theorem headD_getD (l : List Int) : l.headD 0 = l.getD 0 0 := by cases l <;> rfl
theorem tot_nonneg : ∀ l : List Int, (∀ x ∈ l, 0 ≤ x) → 0 ≤ tot l
  | [], _ => Int.le_refl _
  | x :: l, h => by
    have h1 := tot_nonneg l (fun y hy => h y (by simp [hy]))
    have h2 := h x (by simp)
    simp only [tot]
    omega
theorem pow_mul {a b : Int} {t k : Nat} (a0 : 0 ≤ a) (ha : a ≤ 2 ^ t) (b0 : 0 ≤ b) (hb : b ≤ 2 ^ k) : a * b ≤ 2 ^ (t + k) := by
  rw [Int.pow_add]
  exact Int.le_trans (Int.mul_le_mul_of_nonneg_right ha b0) (Int.mul_le_mul_of_nonneg_left hb (by omega))
theorem succ_le_pow' (k : Nat) : (k : Int) + 1 ≤ 2 ^ k := by
  have := succ_le_pow k
  exact_mod_cast this
theorem unit_head : ∀ (xs : List Int), (∀ x ∈ xs, 0 ≤ x) → ∀ t : Nat, tot xs ≤ t → 0 < (unitF xs).headD 0 ∧ (unitF xs).headD 0 ≤ 2 ^ t
  | [], _, t, _ => by
    have := succ_le_pow' t
    simp only [unitF, List.headD_cons]
    omega
  | x :: xs, h, t, ht => by
    have hx := h x (by simp)
    have h0 := tot_nonneg xs (fun y hy => h y (by simp [hy]))
    simp only [tot] at ht
    obtain ⟨k, rfl⟩ : ∃ k : Nat, x = k := ⟨x.toNat, by omega⟩
    obtain ⟨t', rfl⟩ : ∃ t' : Nat, t = t' + k := ⟨t - k, by omega⟩
    obtain ⟨h1, h2⟩ := unit_head xs (fun y hy => h y (by simp [hy])) t' (by omega)
    simp only [unitF, List.headD_cons]
    exact ⟨Int.mul_pos h1 (by omega), pow_mul (by omega) h2 (by omega) (succ_le_pow' k)⟩
theorem unit_all : ∀ (xs : List Int), (∀ x ∈ xs, 0 ≤ x) → ∀ t : Nat, tot xs ≤ t → ∀ u ∈ unitF xs, 0 < u ∧ u ≤ 2 ^ t
  | [], h, t, ht, u, hu => by
    have e : u = (unitF []).headD 0 := by simpa [unitF] using hu
    rw [e]
    exact unit_head [] h t ht
  | x :: xs, h, t, ht, u, hu => by
    rcases List.mem_cons.1 (show u ∈ (unitF xs).headD 0 * (x + 1) :: unitF xs from hu) with e | hu
    · rw [e]
      exact unit_head (x :: xs) h t ht
    · have hx := h x (by simp)
      simp only [tot] at ht
      exact unit_all xs (fun y hy => h y (by simp [hy])) t (by omega) u hu
theorem unit_dvd : ∀ (xs : List Int) (j : Nat), j < (unitF xs).length → (unitF xs).getD j 0 ∣ (unitF xs).getD 0 0
  | [], j, hj => by
    have : j = 0 := by simp [unitF] at hj; exact hj
    subst this
    exact Int.dvd_refl _
  | x :: xs, 0, _ => Int.dvd_refl _
  | x :: xs, j + 1, hj => by
    have h := unit_dvd xs j (by simpa [unitF] using hj)
    simp only [unitF, List.getD_cons_succ, List.getD_cons_zero]
    rw [headD_getD]
    exact Int.dvd_mul_of_dvd_left h

theorem prod_le : ∀ (cs : List Int) (n : Int), 0 ≤ n → (∀ c ∈ cs, 0 ≤ c) → ∀ t : Nat, tot cs ≤ t → prodF n cs ≤ n * 2 ^ t
  | [], n, h0, _, t, _ => by
    have := succ_le_pow' t
    have h := Int.mul_le_mul_of_nonneg_left (show (1 : Int) ≤ 2 ^ t by omega) h0
    simpa [prodF] using h
  | c :: cs, n, h0, h, t, ht => by
    have hc := h c (by simp)
    have h1 := tot_nonneg cs (fun y hy => h y (by simp [hy]))
    simp only [tot] at ht
    obtain ⟨k, rfl⟩ : ∃ k : Nat, c = k := ⟨c.toNat, by omega⟩
    obtain ⟨t', rfl⟩ : ∃ t' : Nat, t = t' + k := ⟨t - k, by omega⟩
    have h2 := prod_le cs (n * (k + 1)) (Int.mul_nonneg h0 (by omega)) (fun y hy => h y (by simp [hy])) t' (by omega)
    have e : prodF n ((k : Int) :: cs) = prodF (n * (k + 1)) cs := rfl
    rw [e]
    refine Int.le_trans h2 ?_
    rw [Int.mul_assoc]
    refine Int.mul_le_mul_of_nonneg_left ?_ h0
    have h3 := pow_mul (show (0 : Int) ≤ 2 ^ t' by have := succ_le_pow' t'; omega) (Int.le_refl _) (show (0 : Int) ≤ k + 1 by omega) (succ_le_pow' k)
    rw [Int.mul_comm]
    exact h3
theorem tot_take : ∀ (cs : List Int) (k : Nat), (∀ c ∈ cs, 0 ≤ c) → tot (cs.take k) ≤ tot cs
  | [], k, _ => by simp
  | c :: cs, 0, h => by simpa [tot] using tot_nonneg _ h
  | c :: cs, k + 1, h => by
    have := tot_take cs k (fun y hy => h y (by simp [hy]))
    simp only [List.take_succ_cons, tot]
    omega
theorem tot_cnt (m : Nat) (p : List Int) : tot (cntF m p) ≤ p.length := by
  have h : ∀ (p : List Int) (cs : List Int), tot (p.foldl cntStep cs) ≤ tot cs + p.length := by
    intro p
    induction p with
    | nil => intro cs; simp
    | cons x p ih =>
      intro cs
      have h1 := ih (cntStep cs x)
      have h2 : tot (cntStep cs x) ≤ tot cs + 1 := by
        unfold cntStep
        split
        · by_cases hl : (x / 2).toNat < cs.length
          · rw [tot_set _ _ _ hl]; omega
          · rw [List.set_eq_of_length_le (by omega)]; omega
        · omega
      simp only [List.foldl_cons, List.length_cons]
      omega
  have := h p (List.replicate m 0)
  rw [tot_zero] at this
  unfold cntF
  omega

/-- the positions ahead of positions -/
def beRow (be : List (List Int)) (v : Int) (r : List Int) : List (List Int) := r.foldl (fun be u => be.set u.toNat (be.getD u.toNat [] ++ [v])) be
def beN (n : Nat) (s : List (List Int)) : Nat → List (List Int)
  | 0 => List.replicate n []
  | k + 1 => beRow (beN n s k) k (s.getD k [])
theorem beRow_snoc (be : List (List Int)) (v u : Int) (r : List Int) : beRow be v (r ++ [u]) = (beRow be v r).set u.toNat ((beRow be v r).getD u.toNat [] ++ [v]) := by
  unfold beRow
  rw [List.foldl_append]
  rfl
theorem beRow_len (v : Int) : ∀ (r : List Int) (be : List (List Int)), (beRow be v r).length = be.length
  | [], _ => rfl
  | u :: r, be => by
    have e : beRow be v (u :: r) = beRow (be.set u.toNat (be.getD u.toNat [] ++ [v])) v r := rfl
    rw [e, beRow_len v r, List.length_set]
theorem beN_len (n : Nat) (s : List (List Int)) : ∀ k, (beN n s k).length = n
  | 0 => by simp [beN]
  | k + 1 => by rw [beN, beRow_len, beN_len n s k]
theorem getD_set_rows (be : List (List Int)) (i j : Nat) (x : List Int) : (be.set i x).getD j [] = if i = j ∧ j < be.length then x else be.getD j [] := by
  by_cases h : i = j
  · subst h
    by_cases hl : i < be.length
    · rw [if_pos ⟨rfl, hl⟩, List.getD_eq_getElem?_getD, List.getElem?_set_self hl]
      rfl
    · rw [if_neg (fun h => hl h.2), List.set_eq_of_length_le (by omega)]
  · rw [if_neg (fun h' => h h'.1), List.getD_eq_getElem?_getD, List.getElem?_set_ne h, ← List.getD_eq_getElem?_getD]
theorem beRow_bd {n : Nat} {v : Int} (hv : 0 ≤ v ∧ v < n) {b : Nat} : ∀ (r : List Int) (be : List (List Int)), (∀ j, (be.getD j []).length ≤ b ∧ ∀ x ∈ be.getD j [], 0 ≤ x ∧ x < n) → ∀ j, ((beRow be v r).getD j []).length ≤ b + r.length ∧ ∀ x ∈ (beRow be v r).getD j [], 0 ≤ x ∧ x < n := by
  intro r
  induction r generalizing b with
  | nil => intro be h j; exact h j
  | cons u r ih =>
    intro be h j
    have e : beRow be v (u :: r) = beRow (be.set u.toNat (be.getD u.toNat [] ++ [v])) v r := rfl
    rw [e]
    have := ih (b := b + 1) (be.set u.toNat (be.getD u.toNat [] ++ [v])) (fun i => by
      rw [getD_set_rows]
      split
      · obtain ⟨h1, h2⟩ := h u.toNat
        refine ⟨by rw [List.length_append, List.length_singleton]; omega, fun x hx => ?_⟩
        rcases List.mem_append.1 hx with hx | hx
        · exact h2 x hx
        · rw [List.mem_singleton.1 hx]; exact hv
      · obtain ⟨h1, h2⟩ := h i
        exact ⟨by omega, h2⟩) j
    refine ⟨by simp only [List.length_cons]; omega, this.2⟩
theorem beN_bd (n b : Nat) (s : List (List Int)) (hs : ∀ r ∈ s, r.length ≤ b) : ∀ k, k ≤ n → ∀ j, ((beN n s k).getD j []).length ≤ k * b ∧ ∀ x ∈ (beN n s k).getD j [], 0 ≤ x ∧ x < n
  | 0, _, j => by
    have e : (beN n s 0).getD j [] = [] := by
      unfold beN
      rw [List.getD_eq_getElem?_getD, List.getElem?_replicate]
      split <;> rfl
    rw [e]
    simp
  | k + 1, hk, j => by
    have h1 := beN_bd n b s hs k (by omega)
    have h2 := beRow_bd (n := n) (v := (k : Int)) (by omega) (s.getD k []) _ h1 j
    have h3 : (s.getD k []).length ≤ b := by
      by_cases hl : k < s.length
      · exact hs _ (mem_getD [] hl)
      · rw [List.getD_eq_getElem?_getD, List.getElem?_eq_none (by omega)]
        simp
    refine ⟨?_, h2.2⟩
    rw [Nat.add_mul, Nat.one_mul]
    have := h2.1
    show ((beRow (beN n s k) k (s.getD k [])).getD j []).length ≤ _
    omega

theorem lite_cond {o p : List Int} {s : List (List Int)} (hg : Good o p s) (hl : o.length ≤ 12) (h20 : ∀ r ∈ s, r.length ≤ 20) {m : Nat} (hm : (greatF p + 1) / 2 = m) :
    Cond o p s (unitF (cntF m p)) (beN o.length s o.length) o.length 240 ∧ (∀ x ∈ unitF (cntF m p), 0 < x ∧ x ≤ 4096) := by
  obtain ⟨g1, g2, g3, g4, g5, g6⟩ := hg
  have hcn : ∀ c ∈ cntF m p, 0 ≤ c := fun c hc => (cntF_bd m p c hc).1
  have hall := unit_all (cntF m p) hcn 12 (by have := tot_cnt m p; omega)
  have h4096 : (2 : Int) ^ 12 = 4096 := by decide
  rw [h4096] at hall
  refine ⟨⟨rfl, g2, g3, beN_len _ _ _, ?_, ?_, fun x hx => by have := hall x hx; omega, unit_dvd _, by rw [unitF_len]; omega, ?_⟩, hall⟩
  · intro v hv
    have h := g6 (s.getD v []) (mem_getD [] (by omega))
    cases hr : s.getD v [] with
    | nil => exact absurd hr h.1
    | cons x r => exact ⟨x, r, rfl, by rw [hr] at h; exact h.2⟩
  · intro v hv
    have hm' : p.getD v 0 ∈ p := mem_getD 0 (by omega)
    have h := g5 _ hm'
    have h2 := (greatF_max p).2 _ hm'
    refine ⟨h.1, h.2, ?_⟩
    rw [unitF_len, cntF_len]
    omega
  · intro u hu
    have h := beN_bd o.length 20 s h20 o.length (Nat.le_refl _) u
    refine ⟨by have := h.1; omega, h.2⟩
theorem lite_work {o p : List Int} {s : List (List Int)} (hg : Good o p s) (hl : o.length ≤ 12) (m : Nat) : ∀ k, k ≤ (cntF m p).length → 0 ≤ prodF o.length ((cntF m p).take k) ∧ prodF o.length ((cntF m p).take k) ≤ 2000000 := by
  intro k _
  have hcn : ∀ c ∈ cntF m p, 0 ≤ c := fun c hc => (cntF_bd m p c hc).1
  have hct : ∀ c ∈ (cntF m p).take k, 0 ≤ c := fun c hc => hcn c (List.mem_of_mem_take hc)
  refine ⟨prodF_nonneg (by omega) _ hct, ?_⟩
  have h1 := tot_cnt m p
  have h2 := tot_take (cntF m p) k hcn
  have h3 := hg.2.1
  have h4 := prod_le ((cntF m p).take k) o.length (by omega) hct 12 (by omega)
  have h4096 : (2 : Int) ^ 12 = 4096 := by decide
  rw [h4096] at h4
  omega
end Go.Proofs.YtckdgniecdfedaaGreatDoor
end
section
/- The beginning of a climb, as it lies in a world while it is made. -/
namespace Go.Proofs.YtckdgniecdfedaaGreatDoor
open Go.RowKit

/-- what a new climb is made of: its block, its unit's, its measures', its lists' -/
structure Nw (w1 wx : World) (cb ub cab bb : Nat) (s0 s1 s2 s3 : Value) (d n : Nat) (un : List Int) (gr : List Value) : Prop where
  blk : wx.heap[cb]? = some (.cells #[s0, s1, s2, s3, .slice (some ⟨ub, 0, none⟩) (d + 1) (d + 1), .slice (some ⟨cab, 0, none⟩) n n, .slice (some ⟨bb, 0, none⟩) n n] 116 (0, 0))
  un : RowT wx ub 3 un
  ca : RowT wx cab 117 (List.replicate n 0)
  gr : wx.heap[bb]? = some (.cells gr.toArray 25 (0, 0))
  ne : cb ≠ ub ∧ cb ≠ cab ∧ cb ≠ bb ∧ ub ≠ cab ∧ ub ≠ bb ∧ cab ≠ bb
  ge : w1.heap.size ≤ cb ∧ w1.heap.size ≤ ub ∧ w1.heap.size ≤ cab ∧ w1.heap.size ≤ bb
  below : Below w1.heap.size w1 wx
section
variable {w1 wx : World} {cb ub cab bb : Nat} {s0 s1 s2 s3 : Value} {d n : Nat} {un : List Int} {gr : List Value}
theorem Nw.drawn (h : Nw w1 wx cb ub cab bb s0 s1 s2 s3 d n un gr) (m : Nat) : Nw w1 (wx.drewN m) cb ub cab bb s0 s1 s2 s3 d n un gr := ⟨h.blk, h.un, h.ca, h.gr, h.ne, h.ge, ⟨h.below.os, h.below.tape, h.below.output, h.below.size, h.below.block⟩⟩
theorem Nw.cells (h : Nw w1 wx cb ub cab bb s0 s1 s2 s3 d n un gr) :
    wx.cell? ⟨cb, 0, none⟩ = some s0 ∧ wx.cell? ⟨cb, 1, none⟩ = some s1 ∧ wx.cell? ⟨cb, 2, none⟩ = some s2 ∧ wx.cell? ⟨cb, 3, none⟩ = some s3 ∧
    wx.cell? ⟨cb, 4, none⟩ = some (.slice (some ⟨ub, 0, none⟩) (d + 1) (d + 1)) ∧ wx.cell? ⟨cb, 5, none⟩ = some (.slice (some ⟨cab, 0, none⟩) n n) ∧ wx.cell? ⟨cb, 6, none⟩ = some (.slice (some ⟨bb, 0, none⟩) n n) := by
  refine ⟨?_, ?_, ?_, ?_, ?_, ?_, ?_⟩ <;> simp [World.cell?, h.blk]
theorem Nw.set (h : Nw w1 wx cb ub cab bb s0 s1 s2 s3 d n un gr) (j : Nat) (x : Int) : Nw w1 (wx.setCell ⟨ub, j, none⟩ (.int .i64 x)) cb ub cab bb s0 s1 s2 s3 d n (un.set j x) gr := by
  obtain ⟨n1, n2, n3, n4, n5, n6⟩ := h.ne
  obtain ⟨g1, g2, g3, g4⟩ := h.ge
  exact ⟨(heap_setCell_other _ _ _ _ n1).trans h.blk, h.un.set j x, h.ca.of_block (heap_setCell_other _ _ _ _ (Ne.symm n4)), (heap_setCell_other _ _ _ _ (Ne.symm n5)).trans h.gr, h.ne, h.ge, h.below.setCell g2 _⟩
/-- the lists, at a later world -/
theorem Nw.fam (h : Nw w1 wx cb ub cab bb s0 s1 s2 s3 d n un (List.replicate n (.slice none 0 0))) : Fam wx bb 25 wx.heap.size (List.replicate n (.slice none 0 0)) (List.replicate n []) := by
  refine ⟨h.gr, fun j hj => ?_, fun i j hi hj _ => .inl ?_⟩
  · simp only [List.length_replicate] at hj
    simp [List.getD_eq_getElem?_getD, hj]
    exact OwnN.nil _ _
  · simp only [List.length_replicate] at hi
    simp [List.getD_eq_getElem?_getD, hi, Value.ownBlock]
end

theorem Fam.rowsV {w : World} {bb base : Nat} {cs : List Value} {L : List (List Int)} (h : Fam w bb 25 base cs L) (hl : cs.length = L.length) (hm : L.length ≤ 9223372036854775807) : RowsV w (.slice (some ⟨bb, 0, none⟩) L.length L.length) L := by
  refine ⟨_, _, rfl, hm, fun _ => ⟨bb, 0, rfl, h.lt, fun j hj => ?_⟩⟩
  have ho := h.own j hj
  have e : L.getD j [] = L[j] := by simp [hj]
  rw [e] at ho
  obtain ⟨a, c, ev, h1, h2⟩ := ho.cap
  refine ⟨by omega, a, c, ?_, ?_⟩
  · rw [Nat.zero_add, h.cell (by omega), ev]
  · rw [← ev]; exact ho.nums
theorem Fam.dimmed {w : World} {bb base cab : Nat} {cs : List Value} {L : List (List Int)} (h : Fam w bb 25 base cs L) (hne : cab ≠ bb) (hb : cab < base) : Fam (dim (only cab) w) bb 25 base cs L := by
  have e : ∀ k, k ≠ cab → (dim (only cab) w).heap[k]? = w.heap[k]? := fun k hk => by
    rw [dim_get]
    have : only cab k = false := by simpa [only] using hk
    rw [this]
    cases w.heap[k]? <;> rfl
  refine ⟨(e bb (Ne.symm hne)).trans h.blk, fun j hj => (h.own j hj).of_block fun g hg => e g ?_, h.apart⟩
  have := (World.ownsRow.lt (h.own j hj) g hg).1
  omega
theorem below_dim {B cab : Nat} {w w' : World} (h : Below B w w') (hc : B ≤ cab) : Below B w (dim (only cab) w') := by
  refine ⟨h.os, h.tape, h.output, by rw [dim_size]; exact h.size, fun k hk => ?_⟩
  rw [← h.block k hk, dim_get]
  have : only cab k = false := by simp [only]; omega
  rw [this]
  cases w'.heap[k]? <;> rfl
/-- what newClimb hands back -/
def NewC (w : World) (o p : List Int) (s : List (List Int)) (mo : List Int) (n : Nat) (e : Ending) (w' : World) : Prop :=
  ∃ cb cab, e = .returned (.pointer (some ⟨cb, 0, none⟩)) ∧ ClbS (dim (only cab) w') cb o p s mo (unitF mo) cab n (beN n s n) ∧ RowT w' cab 117 (List.replicate n 0) ∧ w.heap.size ≤ cab ∧ w.heap.size ≤ cb ∧ Below w.heap.size w w'

theorem newC_end {w w0 w1 wr : World} {cb ub cab bb : Nat} {a0 a1 a2 a3 : Option Addr} {c0 c1 c2 c3 : Nat} {o p : List Int} {s : List (List Int)} {mo : List Int} {n : Nat} {gr cs : List Value}
    (hno : Nums w (.slice a0 o.length c0) o) (hnp : Nums w (.slice a1 p.length c1) p) (hs : RowsC w (.slice a2 s.length c2) s) (hm : Nums w (.slice a3 mo.length c3) mo)
    (hB1 : Below w.heap.size w w1) (h : Nw w1 w0 cb ub cab bb (.slice a0 o.length c0) (.slice a1 p.length c1) (.slice a2 s.length c2) (.slice a3 mo.length c3) mo.length n (unitF mo) gr)
    (hF : Fam wr bb 25 w0.heap.size cs (beN n s n)) (hcl : cs.length = n) (hn : n ≤ 3000) (hfr : Fr (only bb) w0.heap.size w0 wr) :
    ClbS (dim (only cab) wr) cb o p s mo (unitF mo) cab n (beN n s n) ∧ RowT wr cab 117 (List.replicate n 0) ∧ w.heap.size ≤ cab ∧ w.heap.size ≤ cb ∧ Below w.heap.size w wr := by
  obtain ⟨n1, n2, n3, n4, n5, n6⟩ := h.ne
  obtain ⟨g1, g2, g3, g4⟩ := h.ge
  have hw1 := hB1.size
  have l1 : cb < w0.heap.size := (Array.getElem?_eq_some_iff.1 h.blk).1
  have l2 := h.un.lt
  have l3 := h.ca.lt
  have l4 : bb < w0.heap.size := (Array.getElem?_eq_some_iff.1 h.gr).1
  have hbk : ∀ k, k < w0.heap.size → k ≠ bb → wr.heap[k]? = w0.heap[k]? := fun k hk hne => hfr.block k hk (by simpa [only] using hne)
  have hBw : Below w.heap.size w wr := by
    have hB0 := hB1.trans (h.below.mono hw1)
    refine ⟨hfr.os.trans hB0.os, hfr.tape.trans hB0.tape, hfr.output.trans hB0.output, Nat.le_trans hB0.size hfr.size, fun k hk => ?_⟩
    rw [hbk k (by omega) (by omega)]
    exact hB0.block k hk
  have hd := below_dim (cab := cab) hBw (by omega)
  have hcell : ∀ j u, w0.cell? ⟨cb, j, none⟩ = some u → (dim (only cab) wr).cell? ⟨cb, j, none⟩ = some u := fun j u hu => by
    rw [dim_cell_of (by simpa [only] using n2), World.cell?_of_block (hbk cb l1 n3), hu]
  obtain ⟨e0, e1, e2, e3, e4, e5, e6⟩ := h.cells
  have hun : RowT (dim (only cab) wr) ub 3 (unitF mo) := h.un.of_block (by
    rw [dim_get]
    have : only cab ub = false := by simpa [only] using n4
    rw [this, hbk ub l2 n5]
    cases w0.heap[ub]? <;> rfl)
  have hun' := hun.nums (mo.length + 1)
  have hul := unitF_len mo
  refine ⟨⟨by rw [dim_size]; exact Nat.lt_of_lt_of_le l1 hfr.size, ⟨_, _, hcell 0 _ e0, hno.keep hd⟩, ⟨_, _, hcell 1 _ e1, hnp.keep hd⟩, ⟨_, _, hcell 2 _ e2, hs.keep hd⟩, ⟨_, _, hcell 3 _ e3, hm.keep hd⟩,
    ⟨some ⟨ub, 0, none⟩, mo.length + 1, by rw [hcell 4 _ e4, hul], hun'⟩, hcell 5 _ e5, ⟨some ⟨bb, 0, none⟩, n, by rw [hcell 6 _ e6, beN_len], ?_⟩⟩,
    h.ca.of_block (hbk cab l3 n6), by omega, by omega, hBw⟩
  have hv := (hF.dimmed n6 l3).rowsV (by rw [hcl, beN_len]) (by rw [beN_len]; omega)
  rw [beN_len] at hv ⊢
  exact hv
/-- append onto a row of such a block, as a step of a region that draws its order; what else it leaves -/
theorem step_append_famF {w : World} {ops : Array Oper} {o : Oper} {a : Act} {K : Act → World → Prop} {Q : Exit → Act → World → Prop} {E : Prop} (hgd : o.guard = none) (s x : Operand)
    (ho : o.op = .call { callee := .builtin .append, args := #[s, x], argTypes := #[25, 25] }) {b : Nat} {t : TypeId} {base : Nat} {cs : List Value} {L : List (List Int)} (h : Fam w b t base cs L) (j : Nat) (hj : j < L.length) (hcs : L.length ≤ cs.length) (hb : b < base) (hbs : base ≤ w.heap.size)
    (c : Value) (hc : cs.getD j undef = c) (hs : a.eval s = c) (A : List Int) (hA : L.getD j [] = A) (N : Nat) (hN : A.length = N) (g0 : Nat) (n : Int) (hx : a.eval x = .slice (some ⟨g0, 0, none⟩) 1 1) (hcell : w.cell? ⟨g0, 0, none⟩ = some (.int .i64 n)) (hl : A.length + 1 ≤ 1000000)
    (hK : ∀ (g cap : Nat) (w2 : World), w2.cell? ⟨b, j, none⟩ = some c → w2.frozen? ⟨b, j, none⟩ = false →
      Hid (Fam (w2.setCell ⟨b, j, none⟩ (.slice (some ⟨g, 0, none⟩) (N + 1) cap)) b t base (cs.set j (.slice (some ⟨g, 0, none⟩) (N + 1) cap)) (L.set j (A ++ [n]))) →
      Hid (∀ (B0 : Nat) (w0 : World), Below B0 w0 w → B0 ≤ b → Below B0 w0 (w2.setCell ⟨b, j, none⟩ (.slice (some ⟨g, 0, none⟩) (N + 1) cap))) →
      Hid (∀ (B0 : Nat) (w0 : World), Fr (only b) B0 w0 w → B0 ≤ base → Fr (only b) B0 w0 (w2.setCell ⟨b, j, none⟩ (.slice (some ⟨g, 0, none⟩) (N + 1) cap))) →
      Hid (∀ (B0 : Nat) (w0 : World), Fr (only b) B0 w0 w → B0 ≤ base → Fr (only b) B0 w0 w2) →
      K (a.put o.dst (.slice (some ⟨g, 0, none⟩) (N + 1) cap)) w2) :
    if Region.wanted o (yielded ops a.tmps) = true then Oper.wp Tryz.prog o a w K Q else E := by
  subst hN
  obtain ⟨i0, hi, hz0, hz1, hz2⟩ := info_parts Tryz.info3
  have ow := h.own j hj
  rw [hc, hA] at ow
  have hap : ∀ (g cap : Nat) (w2 : World), OwnN w2 base (.slice (some ⟨g, 0, none⟩) (A.length + 1) cap) (A ++ [n]) → w.grownBy w2 c.ownBlock → (c.ownBlock = some g ∨ g = w.heap.size) → Fam (w2.setCell ⟨b, j, none⟩ (.slice (some ⟨g, 0, none⟩) (A.length + 1) cap)) b t base (cs.set j (.slice (some ⟨g, 0, none⟩) (A.length + 1) cap)) (L.set j (A ++ [n])) := fun g cap w2 h1 h2 h3 => by
    rw [← hc] at h2 h3
    exact h.append hj hcs hb h1 h2 h3
  have hblk := h.blk
  refine step_append_lies w hgd s x 25 ho base 3 i0 (.int .i64 0) 1 8 Tryz.underlying25 hi hz0 hz1 hz2 rfl (by decide) c A.length (A.map (Value.int .i64)) hs ow ⟨g0, 0, none⟩ 1 1 [.int .i64 n] hx rfl ?_ ?_ (by decide) (by unfold maxLen; omega) (by omega) hbs w.heap.size rfl ?_
  · intro i u hu
    match i, hu with
    | 0, hu =>
      obtain rfl : Value.int .i64 n = u := by simpa using hu
      simpa [Addr.add] using hcell
  · intro u hu
    simp at hu
    subst hu
    rfl
  · intro g cap w2 h1 h2 h3 _
    have h1' : OwnN w2 base (.slice (some ⟨g, 0, none⟩) (A.length + 1) cap) (A ++ [n]) := by unfold OwnN; simpa using h1
    have hne : some b ≠ c.ownBlock := fun e => by have := (World.ownsRow.lt ow b e.symm).1; omega
    have hbl : w2.heap[b]? = some (.cells cs.toArray t (0, 0)) := (h2.block b h.lt hne).trans hblk
    have hjc : j < cs.length := Nat.lt_of_lt_of_le hj hcs
    refine hK g cap w2 ?_ ?_ (Lib.hid (hap g cap w2 h1' h2 h3)) (Lib.hid fun B0 w0 hB0 hle => ?_) (Lib.hid fun B0 w0 hF hle => ?_) (Lib.hid fun B0 w0 hF hle => ?_)
    · have := hc
      rw [List.getD_eq_getElem?_getD, List.getElem?_eq_getElem hjc] at this
      simp only [Option.getD_some] at this
      simp [World.cell?, hbl, hjc, this]
    · simp [World.frozen?, hbl]
    · refine (hB0.grown h2 (by omega) fun k hk => ?_).setCell hle _
      have := (World.ownsRow.lt ow k hk).1
      omega
    · refine (hF.grown h2 (by omega) fun k hk => .inr ?_).setCell (.inl (by simp [only])) _
      have := (World.ownsRow.lt ow k hk).1
      omega
    · refine hF.grown h2 (by omega) fun k hk => .inr ?_
      have := (World.ownsRow.lt ow k hk).1
      omega
end Go.Proofs.YtckdgniecdfedaaGreatDoor
end
section
/- The walk of newClimb. -/
namespace Go.Proofs.YtckdgniecdfedaaGreatDoor
open Go.RowKit

theorem Tryz.info117r : (Tryz.prog.info? 117).map (fun i => (i.zero, i.size, i.bytes)) = some (some (.int .i64 0), 1, 8) := by kernel_rfl
theorem Tryz.info25r : (Tryz.prog.info? 25).map (fun i => (i.zero, i.size, i.bytes)) = some (some (.slice none 0 0), 1, 24) := by kernel_rfl
theorem unitF_drop : ∀ (xs : List Int) (k : Nat), k ≤ xs.length → unitF (xs.drop k) = (unitF xs).drop k
  | _, 0, _ => rfl
  | x :: xs, k + 1, h => by
    simp only [List.drop_succ_cons, unitF]
    exact unitF_drop xs k (by simpa using h)

theorem unit_next {mo : List Int} {k : Nat} (h : k < mo.length) : unitF (mo.drop k) = (unitF (mo.drop (k + 1))).getD 0 0 * (mo.getD k 0 + 1) :: unitF (mo.drop (k + 1)) := by
  rw [List.drop_eq_getElem_cons h]
  have e : mo.getD k 0 = mo[k] := by rw [List.getD_eq_getElem?_getD, List.getElem?_eq_getElem h]; rfl
  rw [e]
  show (unitF (mo.drop (k + 1))).headD 0 * (mo[k] + 1) :: unitF (mo.drop (k + 1)) = _
  rw [headD_getD]
theorem made_int (n : Nat) : madeCells #[Value.int .i64 0] n = ((List.replicate n (0 : Int)).map (Value.int .i64)).toArray := by
  apply Array.toList_inj.1
  rw [toList_madeCells_one]
  simp
theorem made_nil (n : Nat) : madeCells #[Value.slice none 0 0] n = (List.replicate n (Value.slice none 0 0)).toArray := by
  apply Array.toList_inj.1
  rw [toList_madeCells_one]
theorem alloc4 (w : World) (A B C D : Obj) : ((((w.alloc A).alloc B).alloc C).alloc D).drew.heap[w.heap.size]? = some A ∧ ((((w.alloc A).alloc B).alloc C).alloc D).drew.heap[w.heap.size + 1]? = some B ∧
    ((((w.alloc A).alloc B).alloc C).alloc D).drew.heap[w.heap.size + 1 + 1]? = some C ∧ ((((w.alloc A).alloc B).alloc C).alloc D).drew.heap[w.heap.size + 1 + 1 + 1]? = some D ∧ Below w.heap.size w ((((w.alloc A).alloc B).alloc C).alloc D).drew := by
  have h1 := heap_alloc_new w A
  have h2 := heap_alloc_new (w.alloc A) B
  have h3 := heap_alloc_new ((w.alloc A).alloc B) C
  have h4 := heap_alloc_new (((w.alloc A).alloc B).alloc C) D
  simp only [World.size_alloc] at h2 h3 h4
  refine ⟨?_, ?_, ?_, h4, ?_⟩
  · exact (heap_alloc_old _ D (by simp; omega)).trans ((heap_alloc_old _ C (by simp; try omega)).trans ((heap_alloc_old _ B (by simp)).trans h1))
  · exact (heap_alloc_old _ D (by simp; try omega)).trans ((heap_alloc_old _ C (by simp)).trans h2)
  · exact (heap_alloc_old _ D (by simp)).trans h3
  · exact (((((Below.refl _ w).alloc (Nat.le_refl _) _).alloc (by simp) _).alloc (by simp; try omega) _).alloc (by simp; try omega) _).drew

set_option maxRecDepth 100000 in
set_option maxHeartbeats 8000000 in
theorem newClimb55 (w : World) (o p : List Int) (s : List (List Int)) (mo : List Int) (a0 a1 a2 a3 : Option Addr) (c0 c1 c2 c3 n d : Nat) (hno : Nums w (.slice a0 o.length c0) o) (hnp : Nums w (.slice a1 p.length c1) p) (hs : RowsC w (.slice a2 s.length c2) s) (hm : Nums w (.slice a3 mo.length c3) mo)
    (hol : o.length = n) (hpl : p.length = n) (hsl : s.length = n) (hdl : mo.length = d) (hn : n ≤ 3000) (hd : d ≤ 3000) (hmo : ∀ x ∈ mo, 0 ≤ x ∧ x ≤ 3000) (hu : ∀ x ∈ unitF mo, 0 < x ∧ x ≤ 2000000) (hsu : ∀ r ∈ s, r.length ≤ 20 ∧ ∀ u ∈ r, 0 ≤ u ∧ u < n) :
    Calls Tryz.prog 55 #[.agg #[.slice a0 n c0, .slice a1 n c1, .slice a2 n c2, .slice a3 d c3]] w (NewC w o p s mo n) := by
  obtain ⟨w1, e1, hs1, hb1, hc1⟩ := game_box w #[.slice a0 n c0, .slice a1 n c1, .slice a2 n c2, .slice a3 d c3] 109
  have HB := Lib.hid hb1
  have HS := Lib.hid hs1
  have E1 := Lib.hid e1
  have HIN := Lib.hid (And.intro hno (And.intro hnp (And.intro hs hm)))
  have HL := Lib.hid (And.intro hol (And.intro hpl (And.intro hsl hdl)))
  have HU := Lib.hid hu
  have HMO := Lib.hid hmo
  have HSU := Lib.hid hsu
  have HC := Lib.hid hc1
  have t0 := hc1 w1 (Below.refl _ _) 0
  have t1 := hc1 w1 (Below.refl _ _) 1
  have t2 := hc1 w1 (Below.refl _ _) 2
  have t3 := hc1 w1 (Below.refl _ _) 3
  simp only [List.getElem?_toArray, List.getElem?_cons_succ, List.getElem?_cons_zero] at t0 t1 t2 t3
  clear hno hnp hs hm hol hpl hsl hdl hmo hu hsu e1 hs1 hb1 hc1
  go_enter Tryz.func55, Tryz.ntmps55
  go_upto_region 1 with fail
  rw [← E1.out]
  clear E1
  generalize Value.agg #[.slice a0 n c0, .slice a1 n c1, .slice a2 n c2, .slice a3 d c3] = v0
  generalize hbc : w.heap.size = bc at HB HS HC t0 t1 t2 t3 ⊢
  have HBC := Lib.hid hbc
  clear hbc
  go_quiet (fail)
  rename_i nq
  have hwd : IntKind.i64.wrap ((d : Int) + 1) = ((d + 1 : Nat) : Int) := by rw [IntKind.wrap_i64]; omega
  have hmk3 := run_make_row' (P := Tryz.prog) 25 3 (.int .i64 0) 8 Tryz.underlying25 Tryz.info3r rfl .i64 .i64 (d + 1) (by omega) (by omega)
  simp only [Int.natCast_add, Int.natCast_one] at hmk3
  have hmk117 := run_make_row' (P := Tryz.prog) 114 117 (.int .i64 0) 8 Tryz.underlying114 Tryz.info117r rfl .i64 .i64 n (by omega) (by omega)
  have hmk25 := run_make_row' (P := Tryz.prog) 37 25 (.slice none 0 0) 24 Tryz.underlying37 Tryz.info25r rfl .i64 .i64 n (by omega) (by omega)
  have u0 : (w1.drewN nq).cell? ⟨bc, 0, none⟩ = some (.slice a0 n c0) := t0
  have u1 : (w1.drewN nq).cell? ⟨bc, 1, none⟩ = some (.slice a1 n c1) := t1
  have u2 : (w1.drewN nq).cell? ⟨bc, 2, none⟩ = some (.slice a2 n c2) := t2
  have u3 : (w1.drewN nq).cell? ⟨bc, 3, none⟩ = some (.slice a3 d c3) := t3
  have HBN : Hid (Below bc w (w1.drewN nq)) := Lib.hid (Below.drewN' HB.out nq)
  have HSN : Hid ((w1.drewN nq).heap.size = bc + 1) := Lib.hid HS.out
  have HCN : Hid (∀ wr, Below (bc + 1) (w1.drewN nq) wr → ∀ j, wr.cell? ⟨bc, j, none⟩ = #[Value.slice a0 n c0, .slice a1 n c1, .slice a2 n c2, .slice a3 d c3][j]?) := Lib.hid fun wr h j => HC.out wr ⟨h.os, h.tape, h.output, h.size, h.block⟩ j
  clear t0 t1 t2 t3 HB HS HC
  generalize w1.drewN nq = w2 at *
  go_upto_region 2 with fail
  go_cut [5] from 18 (fun t wx => ∃ cb ub cab bb, t = .pointer (some ⟨cb, 0, none⟩) ∧ Nw w2 wx cb ub cab bb (.slice a0 n c0) (.slice a1 n c1) (.slice a2 n c2) (.slice a3 d c3) d n (List.replicate (d + 1) 0) (List.replicate n (.slice none 0 0)))
  case first =>
    have HCK : Hid (∀ w', Below (bc + 1) w2 w' → w'.cell? ⟨bc, 0, none⟩ = some (.slice a0 n c0) ∧ w'.cell? ⟨bc, 1, none⟩ = some (.slice a1 n c1) ∧ w'.cell? ⟨bc, 2, none⟩ = some (.slice a2 n c2) ∧ w'.cell? ⟨bc, 3, none⟩ = some (.slice a3 d c3)) := Lib.hid fun w' h => ⟨HCN.out w' h 0, HCN.out w' h 1, HCN.out w' h 2, HCN.out w' h 3⟩
    have hsz : bc + 1 ≤ w2.heap.size := Nat.le_of_eq HSN.out.symm
    go_region_held3 (fun w' => w'.cell? ⟨bc, 0, none⟩ = some (.slice a0 n c0) ∧ w'.cell? ⟨bc, 1, none⟩ = some (.slice a1 n c1) ∧ w'.cell? ⟨bc, 2, none⟩ = some (.slice a2 n c2) ∧ w'.cell? ⟨bc, 3, none⟩ = some (.slice a3 d c3)) ((refine HCK.out _ ?_; repeat' (first | exact Below.refl _ _ | refine Below.drew ?_ | refine Below.alloc ?_ (by first | omega | (simp; omega)) _))) (fail)
    all_goals (go_wp2_with fail; go_meet)
    all_goals
      rw [made_int, made_int, made_nil]
      obtain ⟨hA, hB, hC, hD, hBl⟩ := alloc4 w2 _ _ _ _
      exact ⟨_, _, _, _, rfl, ⟨hD, by first | exact hA | exact hB | exact hC, by first | exact hA | exact hB | exact hC, by first | exact hA | exact hB | exact hC, by omega, by omega, hBl⟩⟩
  case rest =>
    obtain ⟨cb, ub, cab, bb, rfl, hnw⟩ := hcut
    have HNW : Hid (Nw w2 wc cb ub cab bb (.slice a0 n c0) (.slice a1 n c1) (.slice a2 n c2) (.slice a3 d c3) d n (List.replicate (d + 1) 0) (List.replicate n (.slice none 0 0))) := Lib.hid hnw
    obtain ⟨e0, e1, e2, e3, e4, e5, e6⟩ := hnw.cells
    have x1 := hnw.un.cell (j := d) (by simp)
    have x2 := hnw.un.frozen d
    have HX3 := Lib.hid (hnw.set d 1)
    have hdi : (d : Int) < (d : Int) + 1 := by omega
    generalize (List.replicate (d + 1) (0 : Int)).getD d 0 = old at x1
    clear hnw u0 u1 u2 u3 hmk3 hmk117 hmk25 e0 e1 e2 e3 e5 e6
    go_upto_region 4 with fail
    clear x1 x2 e4
    generalize wc.setCell ⟨ub, d, none⟩ (.int .i64 1) = w5 at *
    have HSTEP : Hid ((List.replicate (d + 1) (0 : Int)).set d 1 = List.replicate d 0 ++ unitF (mo.drop d)) := Lib.hid (by
      rw [List.drop_of_length_le (by have := HL.out.2.2.2; omega), List.replicate_succ', List.set_append_right _ _ (by simp)]
      simp [unitF])
    rw [HSTEP.out] at HX3
    have HBL := Lib.hid (And.intro HX3.out.below HX3.out.ne)
    clear HSTEP HNW
    go_wp2_with fail
    go_loopw [6] (fun i wr => ∃ k : Nat, k ≤ d ∧ i = .int .i64 ((k : Int) - 1) ∧ Hid (Nw w2 wr cb ub cab bb (.slice a0 n c0) (.slice a1 n c1) (.slice a2 n c2) (.slice a3 d c3) d n (List.replicate k 0 ++ unitF (mo.drop k)) (List.replicate n (.slice none 0 0)))) (fun i _ => (intOf i + 1).toNat)
    case atStart => exact ⟨d, Nat.le_refl _, rfl, HX3⟩
    case round =>
      obtain ⟨k, hk, rfl, HNK⟩ := hrel
      cases k with
      | zero =>
        have HNZ : Hid (Nw w2 wr cb ub cab bb (.slice a0 n c0) (.slice a1 n c1) (.slice a2 n c2) (.slice a3 d c3) d n (unitF mo) (List.replicate n (.slice none 0 0))) := Lib.hid (by simpa using HNK.out)
        clear HNK
        obtain ⟨wo, rfl⟩ : ∃ wo : World, wo = wr := ⟨_, rfl⟩
        have HLC : Hid (cb < wo.heap.size ∧ bb < wo.heap.size ∧ cb ≠ bb ∧ w2.heap.size ≤ bb) := Lib.hid ⟨(Array.getElem?_eq_some_iff.1 HNZ.out.blk).1, (Array.getElem?_eq_some_iff.1 HNZ.out.gr).1, HNZ.out.ne.2.2.1, HNZ.out.ge.2.2.2⟩
        have HB2 : Hid (∀ wr, Fr (only bb) wo.heap.size wo wr → Below (bc + 1) w2 wr) := Lib.hid fun wr h => by
          have h0 := HNZ.out.below
          have hz := HSN.out
          refine ⟨h.os.trans h0.os, h.tape.trans h0.tape, h.output.trans h0.output, Nat.le_trans h0.size h.size, fun k hk => ?_⟩
          have h1 := HLC.out.2.2.2
          have h2 := h0.size
          rw [h.block k (by omega) (by simp [only]; omega)]
          exact h0.block k (by omega)
        have HBW : Hid (∀ wr, Fr (only bb) wo.heap.size wo wr → Below w.heap.size w wr) := Lib.hid fun wr h => by
          rw [HBC.out]
          exact HBN.out.trans ((HB2.out wr h).mono (by omega))
        have HC6 : Hid (∀ wr, Fr (only bb) wo.heap.size wo wr → wr.cell? ⟨cb, 6, none⟩ = some (.slice (some ⟨bb, 0, none⟩) n n)) := Lib.hid fun wr h => by
          rw [h.cell (a := ⟨cb, 6, none⟩) HLC.out.1 (by simpa [only] using HLC.out.2.2.1)]
          exact HNZ.out.cells.2.2.2.2.2.2
        have HRW : Hid (∀ wr, Fr (only bb) wo.heap.size wo wr → RowsC wr (.slice a2 s.length c2) s) := Lib.hid fun wr h => HIN.out.2.2.1.keep (HBW.out wr h)
        have HF0 := Lib.hid HNZ.out.fam
        have t2 := HCN.out wo (HB2.out wo (Fr.refl _ _ _)) 2
        simp only [List.getElem?_toArray, List.getElem?_cons_succ, List.getElem?_cons_zero] at t2
        go_wp2_with fail
        clear t2
        go_loopw [7, 8, 10, 65] (fun _ _ _ i wr => ∃ (k : Nat) (cs : List Value), i = .int .i64 k ∧ k ≤ n ∧ cs.length = n ∧ Hid (Fam wr bb 25 wo.heap.size cs (beN n s k)) ∧ Hid (Fr (only bb) wo.heap.size wo wr)) (fun _ _ _ i _ => n - (intOf i).toNat)
        case atStart => exact ⟨0, _, rfl, Nat.zero_le _, List.length_replicate, HF0, Lib.hid (Fr.refl _ _ _)⟩
        case round =>
          obtain ⟨k, cs, rfl, hk, hcl, HFA, HFR⟩ := hrel
          clear HF0
          by_cases hlt : k < n
          · have hd1 : decide (k < n) = true := by simpa using hlt
            have hki : (k : Int) < (n : Int) := by omega
            have hks : k < s.length := by rw [HL.out.2.2.1]; exact hlt
            obtain ⟨bs, os, ar, cr, rfl, g0, _, _, hr⟩ := HIN.out.2.2.1.at hks
            have r0 := ((HBW.out wr HFR.out).cell (p := ⟨bs, os + k, none⟩) (World.block_lt_of_cell? _ _ g0)).trans g0
            have hsr := HSU.out _ (mem_getD [] hks)
            have HBE : Hid (beN n s (k + 1) = beRow (beN n s k) k (s.getD k [])) := Lib.hid rfl
            have HRR : Hid (∀ wr, Fr (only bb) wo.heap.size wo wr → Nums wr (.slice ar (s.getD k []).length cr) (s.getD k [])) := Lib.hid fun w' h => hr.keep (HBW.out w' h)
            clear g0
            have HBL := Lib.hid (beN_len n s k)
            have HLB : Hid (∀ j i, ((beRow (beN n s k) k ((s.getD k []).take j)).getD i []).length ≤ k * 20 + (s.getD k []).length) := Lib.hid fun j i => by
              have h1 := (beRow_bd (n := n) (v := (k : Int)) (by omega) ((s.getD k []).take j) _ (beN_bd n 20 s (fun r hr => (HSU.out r hr).1) k hk) i).1
              have h2 : ((s.getD k []).take j).length ≤ (s.getD k []).length := by rw [List.length_take]; omega
              omega
            generalize s.getD k [] = r at *
            generalize beN n s k = bk at *
            obtain ⟨hrl, hru⟩ := hsr
            have HRU := Lib.hid hru
            clear hr hru hks
            go_wp2_with fail
            clear r0
            obtain ⟨wi, rfl⟩ : ∃ wi : World, wi = wr := ⟨_, rfl⟩
            have HFA0 : Hid (Fam wi bb 25 wo.heap.size cs (beRow bk k (r.take 0))) := HFA
            have HFR0 := Lib.hid HFR.out
            go_loopw [10, 72] (fun _ i wr => ∃ (j : Nat) (cs : List Value), i = .int .i64 j ∧ j ≤ r.length ∧ cs.length = n ∧ Hid (Fam wr bb 25 wo.heap.size cs (beRow bk k (r.take j))) ∧ Hid (Fr (only bb) wo.heap.size wo wr)) (fun _ i _ => r.length - (intOf i).toNat)
            case atStart => exact ⟨0, cs, rfl, Nat.zero_le _, hcl, HFA0, HFR0⟩
            case round =>
              obtain ⟨j, cs, rfl, hj, hcl, HFA, HFR⟩ := hrel
              clear HFA0 HFR0
              by_cases hlt2 : j < r.length
              · have hd2 : decide (j < r.length) = true := by simpa using hlt2
                have hji : (j : Int) < (r.length : Int) := by omega
                obtain ⟨br, orr, rfl, y0⟩ := (HRR.out wr HFR.out).at hlt2
                have hu := HRU.out _ (getD_mem hlt2)
                have HBS : Hid (beRow bk k (r.take (j + 1)) = (beRow bk k (r.take j)).set (r.getD j 0).toNat ((beRow bk k (r.take j)).getD (r.getD j 0).toNat [] ++ [(k : Int)])) := Lib.hid (by
                  have e : r.getD j 0 = r[j] := by rw [List.getD_eq_getElem?_getD, List.getElem?_eq_getElem hlt2]; rfl
                  rw [e, List.take_succ_eq_append_getElem hlt2, beRow_snoc])
                have HLJ : Hid (∀ i, ((beRow bk k (r.take j)).getD i []).length ≤ k * 20 + r.length) := Lib.hid (HLB.out j)
                have HLL : Hid ((beRow bk k (r.take j)).length = n) := Lib.hid (by rw [beRow_len, HBL.out])
                obtain ⟨u, hue⟩ : ∃ u : Nat, r.getD j 0 = u := ⟨(r.getD j 0).toNat, by omega⟩
                rw [hue] at y0 hu
                simp only [hue, Int.toNat_natCast] at HBS
                have hun : u < n := by omega
                have huni : (u : Int) < (n : Int) := by omega
                clear hue hu
                generalize beRow bk k (r.take j) = L at *
                have hLu : u < L.length := by rw [HLL.out]; exact hun
                obtain ⟨au, cu, hcu⟩ := (HFA.out.own u hLu).form
                have hNl : ∃ N, (L.getD u []).length = N := ⟨_, rfl⟩
                obtain ⟨N, hN⟩ := hNl
                rw [hN] at hcu
                have HN := Lib.hid hN
                have HCU := Lib.hid hcu
                have HCL := Lib.hid hcl
                have ebu := HFA.out.cell (j := u) (by rw [hcl]; exact hun)
                rw [hcu] at ebu
                have e6 := HC6.out wr HFR.out
                have e6a : ∀ ob, (wr.alloc ob).cell? ⟨cb, 6, none⟩ = some (.slice (some ⟨bb, 0, none⟩) n n) := fun ob => HC6.out _ (HFR.out.alloc HFR.out.size ob)
                have eba : ∀ ob, (wr.alloc ob).cell? ⟨bb, u, none⟩ = some (.slice au N cu) := fun ob => by
                  have h := (HFA.out.alloc ob).cell (j := u) (by rw [HCL.out]; exact hun)
                  rw [HCU.out] at h
                  exact h
                have HFM : Hid (∀ ob, Fam (wr.alloc ob).drew bb 25 wo.heap.size cs L) := Lib.hid fun ob => (HFA.out.alloc ob).drew
                have HFRA : Hid (∀ ob, Fr (only bb) wo.heap.size wo (wr.alloc ob).drew) := Lib.hid fun ob => by
                  have h := HFR.out.alloc HFR.out.size ob
                  exact ⟨h.os, h.tape, h.output, h.size, h.block⟩
                have HSZ : Hid (wo.heap.size ≤ wr.heap.size) := Lib.hid HFR.out.size
                have HNB : Hid (N + 1 ≤ 1000000) := Lib.hid (by have h := HLJ.out u; rw [HN.out] at h; omega)
                clear hcl hN hcu HFA HFR
                go_upto_region 14 with fail
                go_region_law ((refine step_append_famF rfl (.tmp 87) (.tmp 89) rfl (HFM.out _) u hLu (by rw [HLL.out, HCL.out]; exact Nat.le_refl _) HLC.out.2.1 (by have := HSZ.out; simp; omega) (.slice au N cu) HCU.out rfl (L.getD u []) rfl N HN.out _ _ rfl (by first | exact cell_new _ _ _ 0 | simp) (by rw [HN.out]; exact HNB.out) ?_; intro g cap w5 hc5 hf5 HF HBX HFX HFY; have h65 := HC6.out w5 (HFY.out _ _ (HFRA.out _) (Nat.le_refl _))))
                all_goals
                  go_wp2_with fail
                  go_roundw
                  · first
                    | exact ⟨j + 1, cs.set u (.slice (some ⟨g, 0, none⟩) (N + 1) cap), by go_num, by omega, (List.length_set).trans HCL.out, Lib.hid (by rw [HBS.out]; exact HF.out), Lib.hid (HFX.out _ _ (HFRA.out _) (Nat.le_refl _))⟩
                    | ((repeat apply Exists.intro); (refine ⟨?_, rfl⟩); exact ⟨j + 1, cs.set u (.slice (some ⟨g, 0, none⟩) (N + 1) cap), by go_num, by omega, (List.length_set).trans HCL.out, Lib.hid (by rw [HBS.out]; exact HF.out), Lib.hid (HFX.out _ _ (HFRA.out _) (Nat.le_refl _))⟩)
                  · simp [intOf]; omega
              · obtain rfl : j = r.length := by omega
                have hd2 : decide (r.length < r.length) = false := by simp
                rw [List.take_length] at HFA
                go_wp2_with fail
                go_roundw
                case rel => exact ⟨k + 1, cs, by go_num, by omega, hcl, Lib.hid (by rw [HBE.out]; exact HFA.out), HFR⟩
                case measure => simp [intOf]; omega
          · obtain rfl : k = n := by omega
            have hd1 : decide (k < k) = false := by simp
            go_wp2_with fail
            go_ret
            refine ⟨cb, cab, rfl, ?_⟩
            have h := newC_end (w := w) (w0 := wo) (w1 := w2) (wr := wr) (cb := cb) (ub := ub) (cab := cab) (bb := bb) (a0 := a0) (a1 := a1) (a2 := a2) (a3 := a3) (c0 := c0) (c1 := c1) (c2 := c2) (c3 := c3) (o := o) (p := p) (s := s) (mo := mo) (n := k) HIN.out.1 HIN.out.2.1 HIN.out.2.2.1 HIN.out.2.2.2 (by rw [HBC.out]; exact HBN.out)
              (by rw [HL.out.1, HL.out.2.1, HL.out.2.2.1, HL.out.2.2.2]; exact HNZ.out) HFA.out hcl hn HFR.out
            exact h
      | succ k =>
        have hkd : k < mo.length := by have := HL.out.2.2.2; omega
        have HUN := Lib.hid (unit_next hkd)
        have hx := HMO.out _ (getD_mem hkd)
        have hmem : (unitF (mo.drop (k + 1))).getD 0 0 ∈ unitF mo := by
          rw [unitF_drop mo (k + 1) (by omega)]
          exact List.mem_of_mem_drop (i := k + 1) (getD_mem (by rw [List.length_drop, unitF_len]; omega))
        have hmem2 : (unitF (mo.drop k)).getD 0 0 ∈ unitF mo := by
          rw [unitF_drop mo k (by omega)]
          exact List.mem_of_mem_drop (i := k) (getD_mem (by rw [List.length_drop, unitF_len]; omega))
        have hh := HU.out _ hmem
        have hh2 := HU.out _ hmem2
        rw [HUN.out, List.getD_cons_zero] at hh2
        obtain ⟨e0, e1, e2, e3, e4, e5, e6⟩ := HNK.out.cells
        have hlen : (List.replicate (k + 1) (0 : Int) ++ unitF (mo.drop (k + 1))).length = d + 1 := by
          rw [List.length_append, List.length_replicate, unitF_len, List.length_drop]
          have := HL.out.2.2.2
          omega
        have x1 := HNK.out.un.cell (j := k + 1) (by rw [hlen]; omega)
        have x0 := HNK.out.un.cell (j := k) (by rw [hlen]; omega)
        have x2 := HNK.out.un.frozen k
        have ex : (List.replicate (k + 1) (0 : Int) ++ unitF (mo.drop (k + 1))).getD (k + 1) 0 = (unitF (mo.drop (k + 1))).getD 0 0 := by
          rw [List.getD_eq_getElem?_getD, List.getElem?_append_right (by simp), List.getD_eq_getElem?_getD]
          simp
        rw [ex] at x1
        have HXW := Lib.hid (HNK.out.set k ((unitF (mo.drop (k + 1))).getD 0 0 * (mo.getD k 0 + 1)))
        have HST : Hid ((List.replicate (k + 1) (0 : Int) ++ unitF (mo.drop (k + 1))).set k ((unitF (mo.drop (k + 1))).getD 0 0 * (mo.getD k 0 + 1)) = List.replicate k 0 ++ unitF (mo.drop k)) := Lib.hid (by
          rw [HUN.out, List.replicate_succ', List.append_assoc, List.set_append_right _ _ (by simp)]
          simp)
        rw [HST.out] at HXW
        have hB2 : Below (bc + 1) w2 wr := HNK.out.below.mono (Nat.le_of_eq HSN.out.symm)
        have t3 := HCN.out wr hB2 3
        simp only [List.getElem?_toArray, List.getElem?_cons_succ, List.getElem?_cons_zero] at t3
        have hBW : Below w.heap.size w wr := by rw [HBC.out]; exact HBN.out.trans (hB2.mono (by omega))
        obtain ⟨bm, om, rfl, y0⟩ := (HIN.out.2.2.2.keep hBW).at hkd
        generalize (unitF (mo.drop (k + 1))).getD 0 0 = hd1 at *
        generalize mo.getD k 0 = x at *
        generalize (List.replicate (k + 1) (0 : Int) ++ unitF (mo.drop (k + 1))).getD k 0 = old at *
        have hkdi : (k : Int) < (d : Int) := by omega
        have hkdj : (k : Int) + 1 < (d : Int) + 1 := by omega
        obtain ⟨hh3, hh4⟩ := hh2
        obtain ⟨hh5, hh6⟩ := hh
        obtain ⟨hx1, hx2⟩ := hx
        obtain ⟨pr, hpr⟩ : ∃ pr, hd1 * (x + 1) = pr := ⟨_, rfl⟩
        rw [hpr] at hh3 hh4 HXW
        have hw1 : IntKind.i64.wrap (hd1 * (x + 1)) = pr := by rw [hpr, IntKind.wrap_i64]; omega
        have hw2 : IntKind.i64.wrap ((k : Int) + 1) = (k : Int) + 1 := by rw [IntKind.wrap_i64]; omega
        have hw3 : IntKind.i64.wrap (x + 1) = x + 1 := by rw [IntKind.wrap_i64]; omega
        have hk4 : (k : Int) < (d : Int) + 1 := by omega
        have hk1 : (0 : Int) ≤ (k : Int) + 1 := by omega
        clear hmem hmem2 hlen ex hB2 hBW HNK e0 e1 e2 e3 e5 e6
        go_upto_region 7 with fail
        go_still_tail 21, (by kernel_rfl)
        change wpList _ _ _ _ _ wr.drew
        have HXD : Hid (Nw w2 (wr.drew.setCell ⟨ub, k, none⟩ (.int .i64 pr)) cb ub cab bb (.slice a0 n c0) (.slice a1 n c1) (.slice a2 n c2) (.slice (some ⟨bm, om, none⟩) d c3) d n (List.replicate k 0 ++ unitF (mo.drop k)) (List.replicate n (.slice none 0 0))) := Lib.hid (HXW.out.drawn 1)
        have x0 : wr.drew.cell? ⟨ub, k, none⟩ = some (.int .i64 old) := x0
        have x2 : wr.drew.frozen? ⟨ub, k, none⟩ = false := x2
        generalize wr.drew = wd at *
        clear HXW e4 x1 t3 y0
        go_wp2_with fail
        go_roundw
        · exact ⟨k, by omega, rfl, HXD⟩
        · show ((k : Int) - 1 + 1).toNat < (((k + 1 : Nat) : Int) - 1 + 1).toNat
          omega
end Go.Proofs.YtckdgniecdfedaaGreatDoor
end
