/- The walk of Same of the references, at two certificates that are the same. -/
import Derived.Test.YtckdgniecdfedaaGreatDoorWalk4
namespace Go.Proofs.YtckdgniecdfedaaGreatDoor
open Go.RowKit

set_option maxHeartbeats 1000000 in
theorem same_yes {v u : Value} {A : List Int} (s : Int) (w : World) (hA : Nums w v A) (hB : Nums w u A) (la : A.length ≤ 1000000) :
    Calls Tryz.prog 13 #[.agg #[v, .int .i64 s], .agg #[u, .int .i64 s]] w (Yes w) := by
  have hB1 : ∀ o o' : Obj, Below w.heap.size w ((w.alloc o).alloc o') := fun o o' => ((Below.refl _ _).alloc (Nat.le_refl _) o).alloc (by simp) o'
  have HA := Lib.hid fun o o' => hA.keep (hB1 o o')
  have HB := Lib.hid fun o o' => hB.keep (hB1 o o')
  obtain ⟨a, c, rfl, _⟩ := hA
  obtain ⟨b, d, rfl, _⟩ := hB
  have HS := Lib.hid (same_of (A := A) (B := A) rfl)
  have H1 := Lib.hid hB1
  clear hB1
  have c0 : ((w.alloc (.cells #[.slice a A.length c, .int .i64 s] 30)).alloc (.cells #[.slice b A.length d, .int .i64 s] 30)).cell? ⟨w.heap.size, 0, none⟩ = some (.slice a A.length c) := by
    rw [World.cell?_alloc_past _ _ _ (by simp), World.cell?_alloc_at _ _ _ _ rfl]; rfl
  have c1 : ((w.alloc (.cells #[.slice a A.length c, .int .i64 s] 30)).alloc (.cells #[.slice b A.length d, .int .i64 s] 30)).cell? ⟨w.heap.size, 1, none⟩ = some (.int .i64 s) := by
    rw [World.cell?_alloc_past _ _ _ (by simp), World.cell?_alloc_at _ _ _ _ rfl]; rfl
  have d0 : ((w.alloc (.cells #[.slice a A.length c, .int .i64 s] 30)).alloc (.cells #[.slice b A.length d, .int .i64 s] 30)).cell? ⟨w.heap.size + 1, 0, none⟩ = some (.slice b A.length d) := by
    rw [World.cell?_alloc_at _ _ _ _ (by simp)]; rfl
  have d1 : ((w.alloc (.cells #[.slice a A.length c, .int .i64 s] 30)).alloc (.cells #[.slice b A.length d, .int .i64 s] 30)).cell? ⟨w.heap.size + 1, 1, none⟩ = some (.int .i64 s) := by
    rw [World.cell?_alloc_at _ _ _ _ (by simp)]; rfl
  go_enter Tryz.func13, Tryz.ntmps13
  go_wp2_with fail
  refine (ints_any _ (HA.out _ _) (HB.out _ _) la la).mono ?_
  rintro e w' ⟨rfl, n, rfl⟩
  rw [HS.out]
  go_wp2_with fail
  go_ret
  exact ⟨rfl, below_drawn (H1.out _ _) n⟩
end Go.Proofs.YtckdgniecdfedaaGreatDoor
