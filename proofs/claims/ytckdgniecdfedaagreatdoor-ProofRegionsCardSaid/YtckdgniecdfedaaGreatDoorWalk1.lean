/- The walk of proof.Seal: it hands back the sum of the numbers that it reads. -/
import Derived.Test.YtckdgniecdfedaaGreatDoorProg
import Derived.Test.YtckdgniecdfedaaGreatDoorLaw1
import Derived.WalkKit
import Derived.Lib.Hide
namespace Go.Proofs.YtckdgniecdfedaaGreatDoor
open Go.RowKit

theorem ret_int {k : IntKind} {a b : Int} (h : a = b) : Ending.returned (.int k a) = .returned (.int k b) := by rw [h]

set_option maxHeartbeats 1000000 in
theorem seal_cells (b off cap : Nat) (zs : List Int) (w : World) (hl : zs.length ≤ 1000000) (hz : ∀ j, j < zs.length → 0 ≤ zs.getD j 0 ∧ zs.getD j 0 < 65520)
    (hc : ∀ j, j < zs.length → w.cell? ⟨b, off + j, none⟩ = some (.int .i64 (zs.getD j 0))) :
    Calls Tryz.prog 10 #[.slice (some ⟨b, off, none⟩) zs.length cap] w fun e w' => e = .returned (.int .i64 (Sl.sl zs)) ∧ w = w' := by
  go_enter Tryz.func10, Tryz.ntmps10
  go_wp2
  go_loop [3, 4, 9] (fun s p i => ∃ k : Nat, k ≤ zs.length ∧ i = .int .i64 k ∧ s = .int .i64 (Sl.sealAt zs k) ∧ p = .int .i64 (Sl.pw k)) (fun _ _ i => zs.length - (intOf i).toNat)
  case atStart => exact ⟨0, Nat.zero_le _, rfl, rfl, rfl⟩
  case round =>
    obtain ⟨k, hk, rfl, rfl, rfl⟩ := hrel
    by_cases hlt : k < zs.length
    · have hck := hc k hlt
      have z := hz k hlt
      have hp := Sl.pw_bd k
      have hs := Sl.sealAt_bd zs k
      have E1 : Sl.pw (k + 1) = Sl.pw k * 3 % 65521 := rfl
      have E2 : Sl.sealAt zs (k + 1) = (Sl.sealAt zs k + zs.getD k 0 % 65521 * Sl.pw (k + 1)) % 65521 := rfl
      have hp' := Sl.pw_bd (k + 1)
      rw [E1] at E2 hp'
      have eg : zs.getD k 0 = zs[k] := by simp [hlt]
      rw [eg] at hck z E2
      obtain ⟨z0, z1⟩ := z
      have hm0 : 0 ≤ zs[k] % 65521 * (Sl.pw k * 3 % 65521) := Int.mul_nonneg (by omega) hp'.1
      have hm1 : zs[k] % 65521 * (Sl.pw k * 3 % 65521) ≤ 65521 * 65521 := Int.mul_le_mul (by omega) (by omega) hp'.1 (by omega)
      obtain ⟨p0, p1⟩ := hp
      obtain ⟨s0, s1⟩ := hs
      obtain ⟨q0, q1⟩ := hp'
      have H1 := Lib.hid E1
      have H2 := Lib.hid E2
      clear E1 E2 eg
      go_wp2
      go_round
      case rel => exact ⟨k + 1, by omega, by go_num, by rw [H2.out], by rw [H1.out]⟩
      case measure => simp [intOf]; omega
    · have hge : k = zs.length := by omega
      subst hge
      go_wp2
      go_ret
      exact ⟨rfl, rfl⟩

theorem seal_nil (w : World) : Calls Tryz.prog 10 #[.slice none 0 0] w fun e w' => e = .returned (.int .i64 0) ∧ w = w' := by
  go_enter Tryz.func10, Tryz.ntmps10
  go_wp2
  refine wp_loop_rounds 1 ?_
  rw [rounds_succ]
  go_wp2
  go_ret
  exact ⟨rfl, rfl⟩

/-- of a slice that the call owns -/
theorem seal_own {base : Nat} {v : Value} (zs : List Int) (w : World) (hown : w.ownsRow base 3 1 v zs.length (zs.map (Value.int .i64))) (hl : zs.length ≤ 1000000) (hz : ∀ j, j < zs.length → 0 ≤ zs.getD j 0 ∧ zs.getD j 0 < 65520) :
    Calls Tryz.prog 10 #[v] w fun e w' => e = .returned (.int .i64 (Sl.sl zs)) ∧ w = w' := by
  rcases hown.2 with ⟨rfl, h0⟩ | ⟨g, cap, cur, rfl, _⟩
  · obtain rfl := List.length_eq_zero_iff.1 h0
    exact seal_nil w
  · refine seal_cells g 0 cap zs w hl hz fun j hj => ?_
    have := hown.cells (g := g) rfl j (.int .i64 (zs.getD j 0)) (by simp [hj])
    rcases Nat.eq_zero_or_pos j with rfl | h0
    · simpa [Addr.add] using this
    · simpa [Addr.add, Nat.pos_iff_ne_zero.1 h0] using this

theorem Tryz.info3 : (Tryz.prog.info? 3).map (fun i => (i.zero, i.size, i.bytes)) = some (some (.int .i64 0), 1, 8) := by kernel_rfl

/-- what numbers makes of the first k words -/
abbrev Nm (zs : List Int) (k : Nat) : List Int := (zs.take k).map (· % 65520)
theorem Nm_succ (zs : List Int) (k : Nat) (h : k < zs.length) : Nm zs (k + 1) = Nm zs k ++ [zs[k] % 65520] := by
  show (zs.take (k + 1)).map _ = _
  rw [List.take_succ_eq_append_getElem h, List.map_append]; rfl
theorem Nm_len (zs : List Int) (k : Nat) (h : k ≤ zs.length) : (Nm zs k).length = k := by simp [Nm, Nat.min_eq_left h]

set_option maxHeartbeats 1600000 in
theorem numbers_cells (b off cap : Nat) (zs : List Int) (w : World) (hl : zs.length ≤ 1000000) (hb : b < w.heap.size) (hz : ∀ j, j < zs.length → 0 ≤ zs.getD j 0 ∧ zs.getD j 0 < 65536)
    (hc : ∀ j, j < zs.length → w.cell? ⟨b, off + j, none⟩ = some (.int .u16 (zs.getD j 0))) :
    Calls Tryz.prog 9 #[.slice (some ⟨b, off, none⟩) zs.length cap] w fun e w' =>
      ∃ v, e = .returned v ∧ w'.ownsRow w.heap.size 3 1 v zs.length ((Nm zs zs.length).map (Value.int .i64)) ∧ v ≠ .slice none 0 0 ∧ Below w.heap.size w w' := by
  obtain ⟨i0, hi, hz0, hz1, hz2⟩ := info_parts Tryz.info3
  go_enter Tryz.func9, Tryz.ntmps9
  go_wp2
  go_loopw [3, 4] (fun v i wr => ∃ k : Nat, k ≤ zs.length ∧ i = .int .i64 k ∧ wr.ownsRow w.heap.size 3 1 v k ((Nm zs k).map (Value.int .i64)) ∧ v ≠ .slice none 0 0 ∧ Below w.heap.size w wr)
    (fun _ i _ => zs.length - (intOf i).toNat)
  case atStart => exact ⟨0, Nat.zero_le _, rfl, World.ownsRow_made _ _ _ (Nat.le_refl _) (by decide) rfl, by simp, (Below.refl _ _).alloc (Nat.le_refl _) _⟩
  case round =>
    obtain ⟨k, hk, rfl, hown, hnn, hnx⟩ := hrel
    by_cases hlt : k < zs.length
    · have hck := (hnx.cell (p := ⟨b, off + k, none⟩) hb).trans (hc k hlt)
      have z := hz k hlt
      have eg : zs.getD k 0 = zs[k] := by simp [hlt]
      rw [eg] at hck z
      obtain ⟨z0, z1⟩ := z
      have hs := hnx.size
      have hN := Nm_len zs k hk
      have hS := Lib.hid (Nm_succ zs k hlt)
      have hN' := Lib.hid hN
      clear eg hN
      go_wp2_with (first
        | (at_builtin; refine wpList_append_own _ rfl _ _ 25 rfl w.heap.size 3 i0 (.int .i64 0) 1 8 Tryz.underlying25 hi hz0 hz1 hz2 rfl (by decide) _ _ _ rfl (hown.alloc _) ⟨wr.heap.size, 0, none⟩ 1 1 [.int .i64 (zs[k] % 65520)] rfl rfl ?c1 ?c2 ?c3 ?c4 ?c5 ?_))
      case c1 =>
        intro j u hj
        match j, hj with
        | 0, hj => simp at hj; subst hj; simp [Addr.add]
      case c2 => intro u hu; simp at hu; subst hu; rfl
      case c3 => unfold maxLen; omega
      case c4 => omega
      case c5 => simp; omega
      intro v' w1 hown' hgrow hnn'
      have hv' : v' ≠ .slice none 0 0 := hnn'
      clear hnn'
      have R : w1.ownsRow w.heap.size 3 1 v' (k + 1) ((Nm zs (k + 1)).map (Value.int .i64)) := by rw [hS.out]; simpa using hown'
      have hB : Below w.heap.size w w1 := (hnx.alloc (by omega) _).grown hgrow (by simp; omega) (fun j hj => (hown.lt j hj).1)
      clear hown' hgrow hown hnx
      go_wp2
      go_roundw
      case rel => exact ⟨k + 1, by omega, by go_num, R, hv', hB⟩
      case measure => simp [intOf]; omega
    · have hge : k = zs.length := by omega
      subst hge
      go_wp2
      go_ret
      exact ⟨_, rfl, hown, hnn, hnx⟩
end Go.Proofs.YtckdgniecdfedaaGreatDoor
