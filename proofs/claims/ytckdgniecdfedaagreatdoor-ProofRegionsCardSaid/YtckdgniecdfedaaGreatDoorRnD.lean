/- The walks of Valid, of work, of look, and of Light. -/
import Derived.Test.YtckdgniecdfedaaGreatDoorRnC
import Derived.Deep.RegionHeld3
import Derived.Deep.Cut
section
/- The walk of arena's test of games, where a game is good. -/
namespace Go.Proofs.YtckdgniecdfedaaGreatDoor
open Go.RowKit

/-- a list of one row that was just made -/
theorem RowsV.one {w : World} {a : Option Addr} {c : Nat} {l : List Int} (h : Nums w (.slice a l.length c) l) (hl : l.length ≤ 9223372036854775807) : RowsV (w.alloc (.cells #[.slice a l.length c] 25)) (.slice (some ⟨w.heap.size, 0, none⟩) 1 1) [l] := by
  refine ⟨_, 1, rfl, by simp, fun _ => ⟨w.heap.size, 0, rfl, by simp, fun j hj => ?_⟩⟩
  have : j = 0 := by simp at hj; exact hj
  subst this
  refine ⟨hl, a, c, cell_new w _ 25 0, ?_⟩
  exact h.keep ((Below.refl _ _).alloc (Nat.le_refl _) _)

set_option maxRecDepth 100000 in
set_option maxHeartbeats 4000000 in
theorem valid111 (w : World) (o p : List Int) (s : List (List Int)) (a0 a1 a2 : Option Addr) (c0 c1 c2 : Nat) (hno : Nums w (.slice a0 o.length c0) o) (hnp : Nums w (.slice a1 p.length c1) p) (hs : RowsC w (.slice a2 s.length c2) s) (hg : Good o p s) :
    Calls Tryz.prog 111 #[.agg #[.slice a0 o.length c0, .slice a1 p.length c1, .slice a2 s.length c2]] w (fun e w' => e = .returned (.bool true) ∧ Below w.heap.size w w') := by
  obtain ⟨w1, e1, hs1, hb1, hc1⟩ := game_box w #[.slice a0 o.length c0, .slice a1 p.length c1, .slice a2 s.length c2] 39
  obtain ⟨g0, g1, g2, g3, g4, g5⟩ := hg
  have G3 : Hid (∀ r ∈ [o], ∀ x ∈ r, 0 ≤ x ∧ x ≤ (1 : Int)) := Lib.hid fun r hr x hx => by
    rw [List.mem_singleton.1 hr] at hx
    have := g3 x hx
    omega
  have G4 : Hid (∀ r ∈ [p], ∀ x ∈ r, 0 ≤ x ∧ x ≤ (30000 : Int)) := Lib.hid fun r hr x hx => by
    rw [List.mem_singleton.1 hr] at hx
    exact g4 x hx
  have G5 : Hid (∀ r ∈ s, ∀ x ∈ r, 0 ≤ x ∧ x ≤ (o.length : Int) - 1) := Lib.hid fun r hr x hx => by
    have := (g5 r hr).2 x hx
    omega
  have G6 : Hid (∀ k, k < s.length → s.getD k [] ≠ []) := Lib.hid fun k hk => by
    have e : s.getD k [] = s[k] := by rw [List.getD_eq_getElem?_getD, List.getElem?_eq_getElem hk]; rfl
    rw [e]
    exact (g5 _ (List.getElem_mem hk)).1
  have HO := Lib.hid (hno.keep hb1)
  have HP := Lib.hid (hnp.keep hb1)
  have HV := Lib.hid (hs.keep hb1)
  have HB := Lib.hid hb1
  have HC := Lib.hid hc1
  have HS := Lib.hid hs1
  have E1 := Lib.hid e1
  have g1' : p.length ≤ 3000 := by omega
  have g2' : s.length ≤ 3000 := by omega
  have t0 := hc1 w1 (Below.refl _ _) 0
  have t1 := hc1 w1 (Below.refl _ _) 1
  have t2 := hc1 w1 (Below.refl _ _) 2
  simp only [List.getElem?_toArray, List.getElem?_cons_succ, List.getElem?_cons_zero] at t0 t1 t2
  have d1 : ((p.length : Int) == (o.length : Int)) = true := by simp; omega
  have d1' : ((p.length : Int) != (o.length : Int)) = false := by simp; omega
  have d2 : ((s.length : Int) == (o.length : Int)) = true := by simp; omega
  have d2' : ((s.length : Int) != (o.length : Int)) = false := by simp; omega
  have d3 : decide ((3000 : Int) < (o.length : Int)) = false := by simp; omega
  have k1 : (p.length : Int) = (o.length : Int) := by omega
  have k2 : (s.length : Int) = (o.length : Int) := by omega
  clear hno hnp hs e1 hs1 hb1 hc1 g1 g2 g3 g4 g5
  go_enter Tryz.func111, Tryz.ntmps111
  go_upto_region 1 with fail
  rw [← E1.out]
  clear E1
  generalize Value.agg #[.slice a0 o.length c0, .slice a1 p.length c1, .slice a2 s.length c2] = v0
  generalize hbc : w.heap.size = bc at HS HB HC t0 t1 t2 ⊢
  have HBC := Lib.hid hbc
  clear hbc
  go_wp2_with fail
  have HL2 : Hid (s.length = o.length) := Lib.hid (by omega)
  clear k1 k2 d1 d1' d2 d2' d3
  go_loopw [5, 28] (fun _ i wr => ∃ k : Nat, k ≤ o.length ∧ i = .int .i64 k ∧ w1 = wr) (fun _ i _ => o.length - (intOf i).toNat)
  case atStart => exact ⟨0, Nat.zero_le _, rfl, rfl⟩
  case round =>
    obtain ⟨k, hk, rfl, rfl⟩ := hrel
    by_cases hlt : k < o.length
    · have ks : k < s.length := by rw [HL2.out]; exact hlt
      obtain ⟨b, o', au, cu, rfl, x0, x1, x2, x3⟩ := HV.out.at ks
      have hne := List.length_pos_iff.2 (G6.out k ks)
      have hd : decide (k < o.length) = true := by simpa using hlt
      have hki : (k : Int) < (s.length : Int) := by omega
      clear x3
      generalize s.getD k [] = r at *
      have hz : ((r.length : Int) == 0) = false := by rw [beq_eq_false_iff_ne]; omega
      have hz' : ¬ ((r.length : Int) = 0) := by omega
      clear hne
      go_wp2_with fail
      go_roundw
      case rel => exact ⟨k + 1, by omega, by go_num, by first | rfl | trivial⟩
      case measure => simp [intOf]; omega
    · obtain rfl : k = o.length := by omega
      have hd : decide (o.length < o.length) = false := by simp
      have HR1 := Lib.hid (RowsV.one HO.out (by omega))
      have HB2 : Hid (Below w1.heap.size w1 (w1.alloc (.cells #[.slice a0 o.length c0] 25))) := Lib.hid ((Below.refl _ _).alloc (Nat.le_refl _) _)
      have T : ∀ w', Below w1.heap.size w1 w' → w'.cell? ⟨bc, 1, none⟩ = some (.slice a1 p.length c1) ∧ w'.cell? ⟨bc, 2, none⟩ = some (.slice a2 s.length c2) := fun w' hB => by
        have u1 := HC.out w' (hB.mono (Nat.le_of_eq HS.out.symm)) 1
        have u2 := HC.out w' (hB.mono (Nat.le_of_eq HS.out.symm)) 2
        simp only [List.getElem?_toArray, List.getElem?_cons_succ, List.getElem?_cons_zero] at u1 u2
        exact ⟨u1, u2⟩
      have HT := Lib.hid T
      clear T
      go_wp2_with fail
      refine (within166 _ 1 HR1.out G3.out).mono ?_
      rintro e w2 ⟨rfl, hw⟩
      have HE := Lib.hid hw
      rw [← HE.out] at HR1 HB2
      clear hw
      have u1 := (HT.out w2 HB2.out).1
      have HP2 := Lib.hid (HP.out.keep HB2.out)
      have HR2 := Lib.hid (RowsV.one HP2.out (by omega))
      have HB3 : Hid (Below w1.heap.size w1 (w2.alloc (.cells #[.slice a1 p.length c1] 25))) := Lib.hid (HB2.out.alloc HB2.out.size _)
      clear t0 t1 t2
      go_wp2_with fail
      refine (within166 _ 30000 HR2.out G4.out).mono ?_
      rintro e w3 ⟨rfl, hw⟩
      have HE3 := Lib.hid hw
      rw [← HE3.out] at HB3
      clear hw u1
      have u2 := (HT.out w3 HB3.out).2
      have HV3 := Lib.hid (HV.out.keep HB3.out).rows
      go_wp2_with fail
      refine (within166 _ _ HV3.out G5.out).mono ?_
      rintro e w4 ⟨rfl, hw⟩
      subst hw
      go_wp2_with fail
      go_ret
      exact ⟨rfl, by rw [HBC.out]; exact HB.out.trans (HB3.out.mono (by rw [HS.out]; omega))⟩
end Go.Proofs.YtckdgniecdfedaaGreatDoor
end
section
/- The walk of rank's work: the number of measures of a view. -/
namespace Go.Proofs.YtckdgniecdfedaaGreatDoor
open Go.RowKit

/-- a number times the successors of others -/
def prodF (n : Int) (cs : List Int) : Int := cs.foldl (fun n c => n * (c + 1)) n
theorem prodF_snoc (n c : Int) (cs : List Int) : prodF n (cs ++ [c]) = prodF n cs * (c + 1) := by
  unfold prodF
  rw [List.foldl_append]
  rfl
theorem prodF_nonneg {n : Int} (h0 : 0 ≤ n) : ∀ cs : List Int, (∀ c ∈ cs, 0 ≤ c) → 0 ≤ prodF n cs := by
  intro cs
  induction cs generalizing n with
  | nil => intro _; exact h0
  | cons c cs ih =>
    intro h
    have hc := h c (by simp)
    exact ih (n := n * (c + 1)) (Int.mul_nonneg h0 (by omega)) (fun x hx => h x (by simp [hx]))
theorem succ_le_pow (k : Nat) : k + 1 ≤ 2 ^ k := Nat.lt_two_pow_self
/-- it is small where the numbers are few together -/
theorem prodF_le : ∀ (ks : List Nat) (n : Nat), prodF n (ks.map (fun k : Nat => (k : Int))) ≤ ((n * 2 ^ ks.sum : Nat) : Int) := by
  intro ks
  induction ks with
  | nil => intro n; simp [prodF]
  | cons k ks ih =>
    intro n
    have h1 := ih (n * (k + 1))
    have e : prodF (n : Int) ((k :: ks).map (fun k : Nat => (k : Int))) = prodF ((n * (k + 1) : Nat) : Int) (ks.map (fun k : Nat => (k : Int))) := by
      simp [prodF]
    rw [e]
    refine Int.le_trans h1 ?_
    have h2 : n * (k + 1) * 2 ^ ks.sum ≤ n * 2 ^ (k :: ks).sum := by
      rw [List.sum_cons, Nat.pow_add, ← Nat.mul_assoc]
      exact Nat.mul_le_mul_right _ (Nat.mul_le_mul_left n (succ_le_pow k))
    exact_mod_cast h2

set_option maxRecDepth 100000 in
set_option maxHeartbeats 4000000 in
theorem work54 (w : World) (n0 n1 n2 : Nat) (cs : List Int) (a0 a1 a2 a3 : Option Addr) (c0 c1 c2 c3 : Nat) (_hn : n0 ≤ 3000) (hcs : Nums w (.slice a3 cs.length c3) cs) (_hl : cs.length ≤ 30000) (h : ∀ k, k ≤ cs.length → 0 ≤ prodF n0 (cs.take k) ∧ prodF n0 (cs.take k) ≤ 2000000) (hc : ∀ c ∈ cs, 0 ≤ c ∧ c ≤ 3000) :
    Calls Tryz.prog 54 #[.agg #[.slice a0 n0 c0, .slice a1 n1 c1, .slice a2 n2 c2, .slice a3 cs.length c3]] w (fun e w' => e = .returned (.int .i64 (prodF n0 cs)) ∧ Below w.heap.size w w') := by
  obtain ⟨w1, e1, hs1, hb1, hc1⟩ := game_box w #[.slice a0 n0 c0, .slice a1 n1 c1, .slice a2 n2 c2, .slice a3 cs.length c3] 109
  have HN := Lib.hid (hcs.keep hb1)
  have HB := Lib.hid hb1
  have HH := Lib.hid h
  have HCC := Lib.hid hc
  have E1 := Lib.hid e1
  have t0 := hc1 w1 (Below.refl _ _) 0
  have t1 := hc1 w1 (Below.refl _ _) 1
  have t2 := hc1 w1 (Below.refl _ _) 2
  have t3 := hc1 w1 (Below.refl _ _) 3
  simp only [List.getElem?_toArray, List.getElem?_cons_succ, List.getElem?_cons_zero] at t0 t1 t2 t3
  clear hcs e1 hs1 hb1 hc1 h hc
  go_enter Tryz.func54, Tryz.ntmps54
  go_upto_region 1 with fail
  rw [← E1.out]
  clear E1
  generalize Value.agg #[.slice a0 n0 c0, .slice a1 n1 c1, .slice a2 n2 c2, .slice a3 cs.length c3] = v0
  generalize hbc : w.heap.size = bc at HB t0 t1 t2 t3 ⊢
  have HBC := Lib.hid hbc
  clear hbc
  go_wp2_with fail
  go_loopw [3, 5, 13] (fun n _ i wr => ∃ (k : Nat), n = .int .i64 (prodF n0 (cs.take k)) ∧ i = .int .i64 k ∧ k ≤ cs.length ∧ w1 = wr) (fun _ _ i _ => cs.length - (intOf i).toNat)
  case atStart => exact ⟨0, rfl, rfl, Nat.zero_le _, rfl⟩
  case round =>
    obtain ⟨k, rfl, rfl, hk, rfl⟩ := hrel
    by_cases hlt : k < cs.length
    · obtain ⟨b, o', rfl, d0⟩ := HN.out.at hlt
      obtain ⟨x0, x1⟩ := HCC.out (cs.getD k 0) (by rw [List.getD_eq_getElem?_getD, List.getElem?_eq_getElem hlt]; exact List.getElem_mem _)
      obtain ⟨y0, y1⟩ := HH.out k hk
      obtain ⟨z0, z1⟩ := HH.out (k + 1) hlt
      have hd : decide (k < cs.length) = true := by simpa using hlt
      have hlti : (k : Int) < (cs.length : Int) := by omega
      have hst : prodF n0 (cs.take (k + 1)) = prodF n0 (cs.take k) * (cs.getD k 0 + 1) := by
        have e : cs.getD k 0 = cs[k] := by rw [List.getD_eq_getElem?_getD, List.getElem?_eq_getElem hlt]; rfl
        rw [e, List.take_succ_eq_append_getElem hlt, prodF_snoc]
      rw [hst] at z0 z1
      have HST := Lib.hid hst
      clear hst
      generalize cs.getD k 0 = x at *
      generalize prodF n0 (cs.take k) = y at *
      obtain ⟨z, hz⟩ : ∃ z, y * (x + 1) = z := ⟨_, rfl⟩
      rw [hz] at z0 z1
      have hd2 : decide ((2000000 : Int) < z) = false := by simp; omega
      go_wp2_with fail
      go_roundw
      case rel => exact ⟨k + 1, by rw [HST.out, hz], by go_num, by omega, by first | rfl | trivial⟩
      case measure => simp [intOf]; omega
    · obtain rfl : k = cs.length := by omega
      have hd : decide (cs.length < cs.length) = false := by simp
      go_wp2_with fail
      go_ret
      exact ⟨by simp, by rw [HBC.out]; exact HB.out⟩
end Go.Proofs.YtckdgniecdfedaaGreatDoor
end
section
/- The walk of rank's look, for the player 0. -/
namespace Go.Proofs.YtckdgniecdfedaaGreatDoor
open Go.RowKit

/-- one more of a number, where it is odd -/
def cntStep (cs : List Int) (x : Int) : List Int := if x % 2 = 1 then cs.set (x / 2).toNat (cs.getD (x / 2).toNat 0 + 1) else cs
/-- how often the odd numbers come -/
def cntF (m : Nat) (p : List Int) : List Int := p.foldl cntStep (List.replicate m 0)
theorem cntF_snoc (m : Nat) (p : List Int) (x : Int) : cntF m (p ++ [x]) = cntStep (cntF m p) x := by
  unfold cntF
  rw [List.foldl_append]
  rfl
theorem cntStep_len (cs : List Int) (x : Int) : (cntStep cs x).length = cs.length := by
  unfold cntStep
  split
  · simp
  · rfl
theorem cntF_bd (m : Nat) (p : List Int) : ∀ c ∈ cntF m p, 0 ≤ c ∧ c ≤ p.length := by
  have h : ∀ (p : List Int) (cs : List Int) (b : Int), 0 ≤ b → (∀ c ∈ cs, 0 ≤ c ∧ c ≤ b) → ∀ c ∈ p.foldl cntStep cs, 0 ≤ c ∧ c ≤ b + p.length := by
    intro p
    induction p with
    | nil => intro cs b _ h c hc; simpa using h c hc
    | cons x p ih =>
      intro cs b hb h c hc
      have := ih (cntStep cs x) (b + 1) (by omega) (fun c hc => by
        unfold cntStep at hc
        split at hc
        · rcases List.mem_or_eq_of_mem_set hc with hc | rfl
          · have := h c hc; omega
          · have : 0 ≤ cs.getD (x / 2).toNat 0 ∧ cs.getD (x / 2).toNat 0 ≤ b := by
              rcases Nat.lt_or_ge (x / 2).toNat cs.length with hl | hl
              · rw [List.getD_eq_getElem?_getD, List.getElem?_eq_getElem hl]
                exact h _ (List.getElem_mem _)
              · rw [List.getD_eq_getElem?_getD, List.getElem?_eq_none hl]
                exact ⟨Int.le_refl _, hb⟩
            omega
        · have := h c hc; omega) c hc
      simp only [List.length_cons]
      omega
  intro c hc
  have := h p (List.replicate m 0) 0 (Int.le_refl _) (fun c hc => by rw [(List.mem_replicate.1 hc).2]; omega) c hc
  omega
theorem cntF_len (m : Nat) (p : List Int) : (cntF m p).length = m := by
  have h : ∀ (p : List Int) (cs : List Int), (p.foldl cntStep cs).length = cs.length := by
    intro p
    induction p with
    | nil => intro cs; rfl
    | cons x p ih => intro cs; rw [List.foldl_cons, ih, cntStep_len]
  unfold cntF
  rw [h]
  simp

/-- four cells stored into a result's block -/
theorem stored4 {w wz : World} {bc rb : Nat} {a0 b0 c0 d0 : Value} {zs : List Int} (a b c d : Value) (hr : wz.heap[bc + 1]? = some (.cells #[a0, b0, c0, d0] 109 (0, 0))) (hb : Below bc w wz) (hz : RowB wz rb zs) (hne : rb ≠ bc + 1) :
    ((((wz.setCell ⟨bc + 1, 0, none⟩ a).setCell ⟨bc + 1, 1, none⟩ b).setCell ⟨bc + 1, 2, none⟩ c).setCell ⟨bc + 1, 3, none⟩ d).heap[bc + 1]? = some (.cells #[a, b, c, d] 109 (0, 0)) ∧
    Below bc w ((((wz.setCell ⟨bc + 1, 0, none⟩ a).setCell ⟨bc + 1, 1, none⟩ b).setCell ⟨bc + 1, 2, none⟩ c).setCell ⟨bc + 1, 3, none⟩ d) ∧
    RowB ((((wz.setCell ⟨bc + 1, 0, none⟩ a).setCell ⟨bc + 1, 1, none⟩ b).setCell ⟨bc + 1, 2, none⟩ c).setCell ⟨bc + 1, 3, none⟩ d) rb zs := by
  have h1 := heap_setCell_same wz (bc + 1) 0 _ 109 a hr
  have h2 := heap_setCell_same _ (bc + 1) 1 _ 109 b h1
  have h3 := heap_setCell_same _ (bc + 1) 2 _ 109 c h2
  have h4 := heap_setCell_same _ (bc + 1) 3 _ 109 d h3
  refine ⟨h4, ?_, ?_⟩
  · exact (((hb.setCell (by simp) a).setCell (by simp) b).setCell (by simp) c).setCell (by simp) d
  · unfold RowB at hz ⊢
    rw [heap_setCell_other _ _ _ _ hne, heap_setCell_other _ _ _ _ hne, heap_setCell_other _ _ _ _ hne, heap_setCell_other _ _ _ _ hne]
    exact hz
theorem res53 {tmps : Array Value} {w : World} {g : Nat} {a b c d u : Value} (hp : tmps.getD 4 undef = .pointer (some ⟨g, 0, none⟩)) (hu : tmps.getD 5 undef = u) (h : w.heap[g]? = some (.cells #[a, b, c, d] 109 (0, 0))) :
    (results Tryz.f53 tmps).run Tryz.prog w = .ok (.tuple #[.agg #[a, b, c, d], u]) w := by
  have h0 : w.cell? ⟨g, 0, none⟩ = some a := by simp [World.cell?, h]
  have h1 : w.cell? ⟨g, 1, none⟩ = some b := by simp [World.cell?, h]
  have h2 : w.cell? ⟨g, 2, none⟩ = some c := by simp [World.cell?, h]
  have h3 : w.cell? ⟨g, 3, none⟩ = some d := by simp [World.cell?, h]
  rw [results_cell_tmp rfl, hp, hu]
  simp [asAddr, go_sem, h0, h1, h2, h3]
theorem look_end {tmps : Array Value} {w : World} {g : Nat} {a b c d u : Value} {R : Ending → World → Prop} (hp : tmps.getD 4 undef = .pointer (some ⟨g, 0, none⟩)) (hu : tmps.getD 5 undef = u) (h : w.heap[g]? = some (.cells #[a, b, c, d] 109 (0, 0)))
    (hR : R (.returned (.tuple #[.agg #[a, b, c, d], u])) w) : bodyPost Tryz.prog Tryz.f53 R .ret { tmps := tmps, defers := [] } w := bodyPost_ret (res53 hp hu h) rfl hR
/-- what look hands back -/
def Looked (w : World) (s0 s1 s2 : Value) (p : List Int) (e : Ending) (w' : World) : Prop := ∃ rb m : Nat, (greatF p + 1) / 2 = m ∧ e = .returned (.tuple #[.agg #[s0, s1, s2, .slice (some ⟨rb, 0, none⟩) m m], .bool true]) ∧ RowB w' rb (cntF m p) ∧ w.heap.size ≤ rb ∧ Below w.heap.size w w'
/-- a view that look made, with its numbers so far -/
def LookAt (w3 wx : World) (s0 s1 s2 : Value) (m : Nat) (t : Value) (cs : List Int) : Prop :=
  ∃ vb rb, t = .pointer (some ⟨vb, 0, none⟩) ∧ vb ≠ rb ∧ w3.heap.size ≤ vb ∧ w3.heap.size ≤ rb ∧ wx.heap[vb]? = some (.cells #[s0, s1, s2, .slice (some ⟨rb, 0, none⟩) m m] 109 (0, 0)) ∧ RowB wx rb cs ∧ Below w3.heap.size w3 wx

theorem LookAt.first (w3 : World) (s0 s1 s2 : Value) (m : Nat) : LookAt w3 ((w3.alloc (.cells (madeCells #[.int .i64 0] m) 3)).alloc (.cells #[s0, s1, s2, .slice (some ⟨w3.heap.size, 0, none⟩) m m] 109)).drew s0 s1 s2 m (.pointer (some ⟨w3.heap.size + 1, 0, none⟩)) (List.replicate m 0) := by
  refine ⟨w3.heap.size + 1, w3.heap.size, rfl, by omega, by omega, Nat.le_refl _, ?_, ?_, ?_⟩
  · have := heap_alloc_new (w3.alloc (.cells (madeCells #[.int .i64 0] m) 3)) (.cells #[s0, s1, s2, .slice (some ⟨w3.heap.size, 0, none⟩) m m] 109)
    rw [World.size_alloc] at this
    exact this
  · have h := RowB.made w3 m
    unfold RowB at h ⊢
    rw [← h]
    exact heap_alloc_old _ _ (by simp)
  · exact (((Below.refl _ _).alloc (Nat.le_refl _) _).alloc (by simp) _).drew
theorem LookAt.second (w3 : World) (s0 s1 s2 : Value) (m : Nat) : LookAt w3 ((w3.alloc (.cells #[s0, s1, s2, .slice (some ⟨w3.heap.size + 1, 0, none⟩) m m] 109)).alloc (.cells (madeCells #[.int .i64 0] m) 3)).drew s0 s1 s2 m (.pointer (some ⟨w3.heap.size, 0, none⟩)) (List.replicate m 0) := by
  refine ⟨w3.heap.size, w3.heap.size + 1, rfl, by omega, Nat.le_refl _, by omega, ?_, ?_, ?_⟩
  · have := heap_alloc_new w3 (.cells #[s0, s1, s2, .slice (some ⟨w3.heap.size + 1, 0, none⟩) m m] 109)
    rw [← this]
    exact heap_alloc_old _ _ (by simp)
  · have h := RowB.made (w3.alloc (.cells #[s0, s1, s2, .slice (some ⟨w3.heap.size + 1, 0, none⟩) m m] 109)) m
    rw [World.size_alloc] at h
    exact h
  · exact (((Below.refl _ _).alloc (Nat.le_refl _) _).alloc (by simp) _).drew

set_option maxRecDepth 100000 in
set_option maxHeartbeats 4000000 in
theorem look53 (w : World) (o p : List Int) (s : List (List Int)) (a0 a1 a2 : Option Addr) (c0 c1 c2 : Nat) (hno : Nums w (.slice a0 o.length c0) o) (hnp : Nums w (.slice a1 p.length c1) p) (hs : RowsC w (.slice a2 s.length c2) s) (hg : Good o p s) (hpb : ∀ x ∈ p, x ≤ 100) :
    Calls Tryz.prog 53 #[.agg #[.slice a0 o.length c0, .slice a1 p.length c1, .slice a2 s.length c2], .int .i64 0] w (Looked w (.slice a0 o.length c0) (.slice a1 p.length c1) (.slice a2 s.length c2) p) := by
  obtain ⟨w1, e1, hs1, hb1, hc1⟩ := game_box w #[.slice a0 o.length c0, .slice a1 p.length c1, .slice a2 s.length c2] 39
  obtain ⟨w2, e2, hs2, hb2, hc2⟩ := game_box w1 #[.slice none 0 0, .slice none 0 0, .slice none 0 0, .slice none 0 0] 109
  have hb12 : Below w.heap.size w w2 := hb1.trans (hb2.mono (by omega))
  have HV := Lib.hid (valid111 w2 o p s a0 a1 a2 c0 c1 c2 (hno.keep hb12) (hnp.keep hb12) (hs.keep hb12) hg)
  have HP := Lib.hid (hnp.keep hb12)
  have HB := Lib.hid hb12
  have HS := Lib.hid (show w2.heap.size = w.heap.size + 1 + 1 by omega)
  have HPB := Lib.hid (fun x (hx : x ∈ p) => And.intro (hg.2.2.2.2.1 x hx).1 (hpb x hx))
  have hpl : p.length ≤ 3000 := by have h1 := hg.1; have h2 := hg.2.1; omega
  have E1 := Lib.hid e1
  have E2 := Lib.hid e2
  have HC : Hid (∀ wr, Below (w.heap.size + 1 + 1) w2 wr → ∀ j, wr.cell? ⟨w.heap.size, j, none⟩ = #[Value.slice a0 o.length c0, .slice a1 p.length c1, .slice a2 s.length c2][j]?) := Lib.hid fun wr hB j =>
    hc1 wr ((hb2.mono (by omega)).trans (hB.mono (by omega))) j
  have HR : Hid (∀ wr, Below (w.heap.size + 1 + 1) w2 wr → wr.heap[w.heap.size + 1]? = some (.cells #[.slice none 0 0, .slice none 0 0, .slice none 0 0, .slice none 0 0] 109 (0, 0))) := Lib.hid fun wr hB => by
    rw [hB.block _ (by omega), e2]
    have := heap_alloc_new w1 (.cells #[.slice none 0 0, .slice none 0 0, .slice none 0 0, .slice none 0 0] 109)
    rw [hs1] at this
    exact this
  have HNP := Lib.hid hnp
  clear hno hnp hs hpb e1 hs1 hb1 hc1 e2 hs2 hb2 hc2 hb12 hg
  go_enter Tryz.func53, Tryz.ntmps53
  go_upto_region 1 with fail
  rw [← E1.out, ← E2.out]
  clear E1 E2
  generalize Value.agg #[.slice a0 o.length c0, .slice a1 p.length c1, .slice a2 s.length c2] = v0
  generalize hbc : w.heap.size = bc at HC HR HS HB ⊢
  have HBC := Lib.hid hbc
  clear hbc
  have t0 := HC.out w2 (Below.refl _ _) 0
  have t1 := HC.out w2 (Below.refl _ _) 1
  have t2 := HC.out w2 (Below.refl _ _) 2
  simp only [List.getElem?_toArray, List.getElem?_cons_succ, List.getElem?_cons_zero] at t0 t1 t2
  go_wp2_with fail
  refine HV.out.mono ?_
  rintro e w3 ⟨rfl, hB⟩
  have HX : Hid (Below (bc + 1 + 1) w2 w3) := Lib.hid (hB.mono (Nat.le_of_eq HS.out.symm))
  clear hB t0 t1 t2 HV
  have t1 := HC.out w3 HX.out 1
  simp only [List.getElem?_toArray, List.getElem?_cons_succ, List.getElem?_cons_zero] at t1
  have HP3 := Lib.hid (HP.out.keep (HX.out.mono (Nat.le_of_eq HS.out)))
  go_wp2_with fail
  go_loopw [6, 8, 27] (fun y _ i wr => ∃ k : Nat, y = .int .i64 (greatF (p.take k)) ∧ i = .int .i64 k ∧ k ≤ p.length ∧ w3 = wr) (fun _ _ i _ => p.length - (intOf i).toNat)
  case atStart => exact ⟨0, rfl, rfl, Nat.zero_le _, rfl⟩
  case round =>
    obtain ⟨k, rfl, rfl, hk, rfl⟩ := hrel
    by_cases hlt : k < p.length
    · obtain ⟨b, o', rfl, d0⟩ := HP3.out.at hlt
      have hd : decide (k < p.length) = true := by simpa using hlt
      have hlti : (k : Int) < (p.length : Int) := by omega
      have HST : Hid (greatF (p.take (k + 1)) = if greatF (p.take k) < p.getD k 0 then p.getD k 0 else greatF (p.take k)) := Lib.hid (by
        have e : p.getD k 0 = p[k] := by rw [List.getD_eq_getElem?_getD, List.getElem?_eq_getElem hlt]; rfl
        rw [e, List.take_succ_eq_append_getElem hlt, greatF_snoc])
      generalize p.getD k 0 = x at *
      generalize greatF (p.take k) = m at *
      go_wp2_with fail
      go_roundw
      case rel => exact ⟨k + 1, by rw [HST.out], by go_num, by omega, by first | rfl | trivial⟩
      case measure => simp [intOf]; omega
    · obtain rfl : k = p.length := by omega
      have hd : decide (p.length < p.length) = false := by simp
      rw [List.take_length]
      obtain ⟨g, hg⟩ : ∃ g, greatF p = g := ⟨_, rfl⟩
      have g0 : 0 ≤ g := by rw [← hg]; exact (greatF_max p).1
      have g1 : g ≤ 100 := by rw [← hg]; exact greatF_le (by omega) p (fun x hx => (HPB.out x hx).2)
      rw [hg]
      have HG := Lib.hid hg
      have hd2 : (g == 30000) = false := by rw [beq_eq_false_iff_ne]; omega
      have hd2' : ¬ (g = 30000) := by omega
      clear hg
      go_upto_region 14 with fail
      obtain ⟨m, hm⟩ : ∃ m : Nat, (g + 1) / 2 = m := ⟨((g + 1) / 2).toNat, by omega⟩
      have hm1 : m ≤ 50 := by omega
      have hmk := run_make_row' (P := Tryz.prog) 25 3 (.int .i64 0) 8 Tryz.underlying25 Tryz.info3r rfl .i64 .i64 m (by omega) (by omega)
      have HQ : Hid (∀ wr : World, Calls Tryz.prog 113 #[.int .i64 g] wr (fun e w' => e = .returned (.int .i64 m) ∧ w' = wr)) := Lib.hid fun wr => (part113 wr g g0 (by omega)).mono fun _ _ ⟨e, h⟩ => ⟨by rw [e, hm], h⟩
      have t0 := HC.out w3 HX.out 0
      have t1 := HC.out w3 HX.out 1
      have t2 := HC.out w3 HX.out 2
      simp only [List.getElem?_toArray, List.getElem?_cons_succ, List.getElem?_cons_zero] at t0 t1 t2
      have HM := Lib.hid hm
      clear hm
      go_cut [9] from 50 (fun t wx => LookAt w3 wx (.slice a0 o.length c0) (.slice a1 p.length c1) (.slice a2 s.length c2) m t (List.replicate m 0))
      case first =>
        go_region_held3 (fun w' => w'.cell? ⟨bc, 0, none⟩ = some (.slice a0 o.length c0) ∧ w'.cell? ⟨bc, 1, none⟩ = some (.slice a1 p.length c1) ∧ w'.cell? ⟨bc, 2, none⟩ = some (.slice a2 s.length c2)) (go_keep) (first | (go_at_call 113; refine (HQ.out _).mono ?_; rintro e ww ⟨rfl, rfl⟩))
        all_goals (go_wp2_with fail; go_meet)
        · exact LookAt.first _ _ _ _ _
        · exact LookAt.second _ _ _ _ _
        · exact LookAt.second _ _ _ _ _
      case rest =>
        obtain ⟨vb, rb, rfl, hne, hvb, hrb, hh, hrow, hbel⟩ := hcut
        have hl0 : Hid (RowB wc rb (cntF m (p.take 0))) := Lib.hid hrow
        have HH := Lib.hid hh
        have HBC3 := Lib.hid hbel
        have HPG : Hid (∀ x ∈ p, 0 ≤ x ∧ x ≤ g) := Lib.hid fun x hx => ⟨(HPB.out x hx).1, by rw [← HG.out]; exact (greatF_max p).2 x hx⟩
        clear hh hrow hbel hmk t0 t2 HQ
        have t1 := (HBC3.out.cell (p := ⟨bc, 1, none⟩) (show bc < w3.heap.size by have h1 := HX.out.size; have h2 := HS.out; omega)).trans t1
        go_wp2_with fail
        clear t1 hd hd2 hd2'
        go_loopw [11, 58] (fun _ i wr => ∃ k : Nat, i = .int .i64 k ∧ k ≤ p.length ∧ Hid (wr.heap[vb]? = some (.cells #[.slice a0 o.length c0, .slice a1 p.length c1, .slice a2 s.length c2, .slice (some ⟨rb, 0, none⟩) m m] 109 (0, 0))) ∧ Hid (RowB wr rb (cntF m (p.take k))) ∧ Hid (Below w3.heap.size w3 wr)) (fun _ i _ => p.length - (intOf i).toNat)
        case atStart => exact ⟨0, rfl, Nat.zero_le _, HH, hl0, HBC3⟩
        case round =>
          obtain ⟨k, rfl, hk, HHR, HRW, HBR⟩ := hrel
          by_cases hlt : k < p.length
          · have HP4 := Lib.hid (HP3.out.keep HBR.out)
            obtain ⟨b, o', rfl, d0⟩ := HP4.out.at hlt
            have hd : decide (k < p.length) = true := by simpa using hlt
            have hlti : (k : Int) < (p.length : Int) := by omega
            obtain ⟨x0, x1⟩ := HPG.out (p.getD k 0) (by rw [List.getD_eq_getElem?_getD, List.getElem?_eq_getElem hlt]; exact List.getElem_mem _)
            have HST : Hid (cntF m (p.take (k + 1)) = cntStep (cntF m (p.take k)) (p.getD k 0)) := Lib.hid (by
              have e : p.getD k 0 = p[k] := by rw [List.getD_eq_getElem?_getD, List.getElem?_eq_getElem hlt]; rfl
              rw [e, List.take_succ_eq_append_getElem hlt, cntF_snoc])
            have HCL : Hid ((cntF m (p.take k)).length = m) := Lib.hid (cntF_len _ _)
            have HCB : Hid (∀ c ∈ cntF m (p.take k), 0 ≤ c ∧ c ≤ 3000) := Lib.hid fun c hc => by
              have h1 := cntF_bd m (p.take k) c hc
              have h2 : (p.take k).length ≤ p.length := by rw [List.length_take]; omega
              omega
            generalize p.getD k 0 = x at *
            generalize cntF m (p.take k) = cs at *
            by_cases hx : x % 2 = 1
            · have ho : (x % 2 == 1) = true := by simpa using hx
              obtain ⟨j, hj⟩ : ∃ j : Nat, x / 2 = j := ⟨(x / 2).toNat, by omega⟩
              have hjm : j < m := by have := HM.out; omega
              have hji : (j : Int) < (m : Int) := by omega
              have hjc : j < cs.length := by rw [HCL.out]; exact hjm
              obtain ⟨y0, y1⟩ := HCB.out (cs.getD j 0) (by rw [List.getD_eq_getElem?_getD, List.getElem?_eq_getElem hjc]; exact List.getElem_mem _)
              have r1 := HRW.out.cell hjc
              have r2 := HRW.out.frozen j
              have e3 : wr.cell? ⟨vb, 3, none⟩ = some (.slice (some ⟨rb, 0, none⟩) m m) := by simp [World.cell?, HHR.out]
              have HNW := Lib.hid (HRW.out.set j (cs.getD j 0 + 1))
              have HNH := Lib.hid ((heap_setCell_other wr ⟨rb, j, none⟩ vb (.int .i64 (cs.getD j 0 + 1)) hne).trans HHR.out)
              have HNB : Hid (Below w3.heap.size w3 (wr.setCell ⟨rb, j, none⟩ (.int .i64 (cs.getD j 0 + 1)))) := Lib.hid (HBR.out.setCell hrb _)
              have HS2 : Hid (cntStep cs x = cs.set j (cs.getD j 0 + 1)) := Lib.hid (by
                unfold cntStep
                rw [if_pos hx, hj]
                rfl)
              generalize cs.getD j 0 = y at *
              clear hx hjc
              go_wp2_with fail
              go_roundw
              case rel => exact ⟨k + 1, by go_num, by omega, HNH, Lib.hid (by rw [HST.out, HS2.out]; exact HNW.out), HNB⟩
              case measure => simp [intOf]; omega
            · have ho : (x % 2 == 1) = false := by simpa using hx
              have HS2 : Hid (cntStep cs x = cs) := Lib.hid (by unfold cntStep; rw [if_neg hx])
              clear hx
              go_wp2_with fail
              go_roundw
              case rel => exact ⟨k + 1, by go_num, by omega, HHR, Lib.hid (by rw [HST.out, HS2.out]; exact HRW.out), HBR⟩
              case measure => simp [intOf]; omega
          · obtain rfl : k = p.length := by omega
            have hd : decide (p.length < p.length) = false := by simp
            rw [List.take_length] at HRW
            have HX4 : Hid (Below (bc + 1 + 1) w2 wr) := Lib.hid (HX.out.trans (HBR.out.mono (by have h1 := HX.out.size; have h2 := HS.out; omega)))
            have r0 := HR.out wr HX4.out
            have hw : ∀ j, wr.frozen? ⟨bc + 1, j, none⟩ = false := fun j => by simp [World.frozen?, r0]
            have hc : ∀ j, j < 4 → wr.cell? ⟨bc + 1, j, none⟩ = some (.slice none 0 0) := fun j hj => by
              simp only [World.cell?, r0]
              match j, hj with
              | 0, _ => rfl
              | 1, _ => rfl
              | 2, _ => rfl
              | 3, _ => rfl
            have h0 := hw 0
            have h1 := hw 1
            have h2 := hw 2
            have h3 := hw 3
            have i0 := hc 0 (by omega)
            have i1 := hc 1 (by omega)
            have i2 := hc 2 (by omega)
            have i3 := hc 3 (by omega)
            have f0 : wr.cell? ⟨vb, 0, none⟩ = some (.slice a0 o.length c0) := by simp [World.cell?, HHR.out]
            have f1 : wr.cell? ⟨vb, 1, none⟩ = some (.slice a1 p.length c1) := by simp [World.cell?, HHR.out]
            have f2 : wr.cell? ⟨vb, 2, none⟩ = some (.slice a2 s.length c2) := by simp [World.cell?, HHR.out]
            have f3 : wr.cell? ⟨vb, 3, none⟩ = some (.slice (some ⟨rb, 0, none⟩) m m) := by simp [World.cell?, HHR.out]
            have HR0 := Lib.hid r0
            have HNE : Hid (rb ≠ bc + 1 ∧ bc ≤ rb) := Lib.hid (by have h1 := HX.out.size; have h2 := HS.out; omega)
            have HBW : Hid (Below bc w wr) := Lib.hid (HB.out.trans (HX4.out.mono (by omega)))
            clear hw hc r0
            go_wp2_with fail
            obtain ⟨e0, e1, e2⟩ := stored4 (.slice a0 o.length c0) (.slice a1 p.length c1) (.slice a2 s.length c2) (.slice (some ⟨rb, 0, none⟩) m m) HR0.out HBW.out HRW.out HNE.out.1
            exact look_end rfl rfl e0 ⟨rb, m, by rw [HG.out]; exact HM.out, rfl, e2, by rw [HBC.out]; exact HNE.out.2, by rw [HBC.out]; exact e1⟩
end Go.Proofs.YtckdgniecdfedaaGreatDoor
end
section
/- The walk of the reference's Light, given the view of the player 1. -/
namespace Go.Proofs.YtckdgniecdfedaaGreatDoor
open Go.RowKit

/-- a game that is light, if it is good -/
def Lite (o p : List Int) (s : List (List Int)) : Prop := o.length ≤ 12 ∧ (∀ r ∈ s, r.length ≤ 20) ∧ (Good o p s → greatF p ≤ 12)

set_option maxRecDepth 100000 in
set_option maxHeartbeats 4000000 in
theorem light14 (w : World) (o p : List Int) (s : List (List Int)) (a0 a1 a2 : Option Addr) (c0 c1 c2 : Nat) (hno : Nums w (.slice a0 o.length c0) o) (hnp : Nums w (.slice a1 p.length c1) p) (ho : o.length ≤ 9223372036854775807) (hp : p.length ≤ 9223372036854775807) (hs : RowsC w (.slice a2 s.length c2) s)
    (hview : Good o p s → (∀ x ∈ p, x ≤ 12) → ∀ wr, Below w.heap.size w wr → Calls Tryz.prog 109 #[.agg #[.slice a0 o.length c0, .slice a1 p.length c1, .slice a2 s.length c2], .int .i64 1] wr (Viewed wr)) :
    Calls Tryz.prog 14 #[.agg #[.slice a0 o.length c0, .slice a1 p.length c1, .slice a2 s.length c2]] w (ToldQ w (Lite o p s)) := by
  obtain ⟨w1, e1, hs1, hb1, hc1⟩ := game_box w #[.slice a0 o.length c0, .slice a1 p.length c1, .slice a2 s.length c2] 39
  have HV := Lib.hid (small49 w1 o p s a0 a1 a2 c0 c1 c2 ho hp (hs.keep hb1))
  have HA := Lib.hid (And.intro hno (And.intro hnp hs))
  have HVW := Lib.hid hview
  have HB := Lib.hid hb1
  have HS := Lib.hid hs1
  have HC := Lib.hid hc1
  have E1 := Lib.hid e1
  have t0 := hc1 w1 (Below.refl _ _) 0
  have t1 := hc1 w1 (Below.refl _ _) 1
  have t2 := hc1 w1 (Below.refl _ _) 2
  simp only [List.getElem?_toArray, List.getElem?_cons_succ, List.getElem?_cons_zero] at t0 t1 t2
  have HL := Lib.hid (And.intro ho hp)
  clear hview e1 hs1 hb1 hc1 hno hnp hs
  go_enter Tryz.func14, Tryz.ntmps14
  go_upto_region 1 with fail
  rw [← E1.out]
  clear E1
  generalize Value.agg #[.slice a0 o.length c0, .slice a1 p.length c1, .slice a2 s.length c2] = v0
  generalize hbc : w.heap.size = bc at HS HB HC t0 t1 t2 ⊢
  have HBC := Lib.hid hbc
  clear hbc
  go_wp2_with fail
  refine HV.out.mono ?_
  rintro e w2 ⟨c, rfl, hq, hB2⟩
  have HW : Hid (Below w.heap.size w w2) := Lib.hid (by rw [HBC.out]; exact HB.out.trans (hB2.mono (by rw [HS.out]; omega)))
  have HX : Hid (Below (bc + 1) w1 w2) := Lib.hid (hB2.mono (by rw [HS.out]; omega))
  have HQ := Lib.hid hq
  clear hq hB2 t0 t1 t2 HV
  by_cases hc : c = true
  case neg =>
    obtain rfl : c = false := by simpa using hc
    go_wp2_with fail
    go_ret
    exact ⟨_, rfl, fun h => (by cases h), HW.out⟩
  subst hc
  have t0 := HC.out w2 HX.out 0
  have t1 := HC.out w2 HX.out 1
  have t2 := HC.out w2 HX.out 2
  simp only [List.getElem?_toArray, List.getElem?_cons_succ, List.getElem?_cons_zero] at t0 t1 t2
  have HSM := Lib.hid (HQ.out rfl)
  go_wp2_with fail
  refine (valid15x w2 o p s a0 a1 a2 c0 c1 c2 (HA.out.1.keep HW.out) (HA.out.2.1.keep HW.out) HL.out.1 HL.out.2 (HA.out.2.2.keep HW.out)).mono ?_
  rintro e w3 ⟨c, rfl, hq, hB3⟩
  have hz2 : bc + 1 ≤ w2.heap.size := by have h1 := HX.out.size; have h2 := HS.out; omega
  have HW3 : Hid (Below w.heap.size w w3) := Lib.hid (HW.out.trans (hB3.mono (by have := HBC.out; omega)))
  have HX3 : Hid (Below (bc + 1) w1 w3) := Lib.hid (HX.out.trans (hB3.mono hz2))
  have HG := Lib.hid hq
  clear hq hB3 t0 t1 t2 hz2
  by_cases hc : c = true
  case neg =>
    obtain rfl : c = false := by simpa using hc
    go_wp2_with fail
    go_ret
    exact ⟨_, rfl, fun _ => ⟨HSM.out.1, HSM.out.2.2.2, fun h => absurd (HG.out.2 h) (by simp)⟩, HW3.out⟩
  subst hc
  have t0 := HC.out w3 HX3.out 0
  have t1 := HC.out w3 HX3.out 1
  have t2 := HC.out w3 HX3.out 2
  simp only [List.getElem?_toArray, List.getElem?_cons_succ, List.getElem?_cons_zero] at t0 t1 t2
  obtain ⟨g, hg⟩ : ∃ g, greatF p = g := ⟨_, rfl⟩
  have hq := greatest50 w3 p a1 c1 (.slice a0 o.length c0) (.slice a2 s.length c2) (HA.out.2.1.keep HW3.out) HL.out.2
  rw [hg] at hq
  have HGG := Lib.hid hg
  clear hg
  by_cases hg : g ≤ 12
  case neg =>
    have hd : decide (g ≤ 12) = false := by simpa using hg
    clear hg
    go_wp2_with fail
    refine hq.mono ?_
    rintro e w4 ⟨rfl, hB⟩
    have HW4 : Hid (Below w.heap.size w w4) := Lib.hid (HW3.out.trans (hB.mono HW3.out.size))
    clear hB hq t0 t1 t2
    go_wp2_with fail
    go_ret
    exact ⟨_, rfl, fun h => (by cases h), HW4.out⟩
  have hd : decide (g ≤ 12) = true := by simpa using hg
  have HPB : Hid (∀ x ∈ p, x ≤ 12) := Lib.hid fun x hx => Int.le_trans ((greatF_max p).2 x hx) (by rw [HGG.out]; exact hg)
  have HLT : Hid (Lite o p s) := Lib.hid ⟨HSM.out.1, HSM.out.2.2.2, fun _ => by rw [HGG.out]; exact hg⟩
  clear hg
  have HGD := Lib.hid (HG.out.1 rfl)
  have hz3 : bc + 1 ≤ w3.heap.size := by have h1 := HX3.out.size; have h2 := HS.out; omega
  go_wp2_with fail
  refine hq.mono ?_
  rintro e w4 ⟨rfl, hB⟩
  have HW4 : Hid (Below w.heap.size w w4) := Lib.hid (HW3.out.trans (hB.mono HW3.out.size))
  have HX4 : Hid (Below (bc + 1) w1 w4) := Lib.hid (HX3.out.trans (hB.mono hz3))
  clear hB hq t0 t1 t2 hz3
  have t0 := HC.out w4 HX4.out 0
  have t1 := HC.out w4 HX4.out 1
  have t2 := HC.out w4 HX4.out 2
  simp only [List.getElem?_toArray, List.getElem?_cons_succ, List.getElem?_cons_zero] at t0 t1 t2
  have hz4 : bc + 1 ≤ w4.heap.size := by have h1 := HX4.out.size; have h2 := HS.out; omega
  go_wp2_with fail
  refine (work51 w4 0 o p s a0 a1 a2 c0 c1 c2 (fun wr hB => by
    have hBB : Below w.heap.size w wr := HW4.out.trans (hB.mono HW4.out.size)
    refine view109_0 wr o p s a0 a1 a2 c0 c1 c2 (HA.out.1.keep hBB) (HA.out.2.1.keep hBB) (by have := HSM.out.1; omega) (by have := HSM.out.2.1; omega) (HA.out.2.2.keep hBB) (fun x hx => by have := HPB.out x hx; omega))).mono ?_
  rintro e w5 ⟨z, rfl, hB⟩
  have HW5 : Hid (Below w.heap.size w w5) := Lib.hid (HW4.out.trans (hB.mono HW4.out.size))
  have HX5 : Hid (Below (bc + 1) w1 w5) := Lib.hid (HX4.out.trans (hB.mono hz4))
  clear hB t0 t1 t2 hz4
  by_cases hz : z ≤ 20000
  case neg =>
    have hd : decide (z ≤ 20000) = false := by simpa using hz
    clear hz
    go_wp2_with fail
    go_ret
    exact ⟨_, rfl, fun h => (by cases h), HW5.out⟩
  have hd : decide (z ≤ 20000) = true := by simpa using hz
  clear hz
  have t0 := HC.out w5 HX5.out 0
  have t1 := HC.out w5 HX5.out 1
  have t2 := HC.out w5 HX5.out 2
  simp only [List.getElem?_toArray, List.getElem?_cons_succ, List.getElem?_cons_zero] at t0 t1 t2
  go_wp2_with fail
  refine (work51 w5 1 o p s a0 a1 a2 c0 c1 c2 (fun wr hB => HVW.out HGD.out HPB.out wr (HW5.out.trans (hB.mono HW5.out.size)))).mono ?_
  rintro e w6 ⟨z', rfl, hB⟩
  have HW6 : Hid (Below w.heap.size w w6) := Lib.hid (HW5.out.trans (hB.mono HW5.out.size))
  clear hB t0 t1 t2
  go_wp2_with fail
  go_ret
  exact ⟨_, rfl, fun _ => HLT.out, HW6.out⟩
end Go.Proofs.YtckdgniecdfedaaGreatDoor
end
