/- The arguments opened: a slice of words that comes in. -/
import Derived.Test.YtckdgniecdfedaaGreatDoorWalk2
import Derived.ProofKit
namespace Go.Proofs.YtckdgniecdfedaaGreatDoor
open Go.ChangeShapes Go.WideShapes Go.ChangeAt Go.RowKit

theorem Tryz.cells23 : Tryz.prog.cellsOf 23 = 1 := by kernel_rfl
set_option maxRecDepth 100000 in
theorem words_open {H : Type} {enc : TypeId × Value → H} {W : World} {base : Nat} {v : Value} {d : DataW H} {p : List MemPlace} (hok : Value.okWide Tryz.prog W .any base 22 v)
    (h : DataW.Trod enc Tryz.prog W 0 (fun _ => true) true 22 v d p) (hlt : ∀ x ∈ p, x.block < W.heap.size) : ∃ a c zs, v = .slice a zs.length c ∧ Words W v zs := by
  obtain ⟨a0, len, cap, rfl⟩ := okWide_slice Tryz.underlying22 hok
  obtain ⟨fuel, hf⟩ := h
  rcases open_ints Tryz.underlying22 Tryz.underlying23 Tryz.cells23 hf with ⟨hcs, hx⟩ | ⟨a, len', cap', zs, hcs, _, hl, hm, hz, hx, hcell, hwz⟩
  · simp [Value.cells] at hcs
    obtain ⟨rfl, rfl, rfl⟩ := hcs
    exact ⟨none, 0, [], rfl, fun j hj => by simp at hj, .inl ⟨rfl, _, _, rfl⟩⟩
  · simp [Value.cells] at hcs
    obtain ⟨rfl, rfl, rfl⟩ := hcs
    simp only [Prod.mk.injEq] at hx
    obtain ⟨rfl, rfl⟩ := hx
    simp only [if_true] at hz
    have hlen : (zs.take len).length = len := by rw [List.length_take]; omega
    by_cases hl0 : len = 0
    · subst hl0
      exact ⟨some a, cap, [], rfl, fun j hj => by simp at hj, .inl ⟨rfl, _, _, rfl⟩⟩
    · obtain ⟨b, off, spot⟩ := a
      have hspot : spot = none := by simpa [Addr.add] using World.cell?_spot (hcell 0 (by omega))
      subst hspot
      have hbW : b < W.heap.size := hlt (.cell b off) (MemPlace.mem_row.2 ⟨0, by omega, by simp⟩)
      have get : ∀ j, j < len → (zs.take len).getD j 0 = zs.getD j 0 := fun j hj => by
        rw [List.getD_eq_getElem?_getD, List.getD_eq_getElem?_getD, List.getElem?_take, if_pos hj]
      refine ⟨_, cap, zs.take len, by rw [hlen], fun j hj => ?_, .inr ⟨b, off, cap, by rw [hlen], hbW, fun j hj => ?_⟩⟩
      · rw [hlen] at hj
        rw [get j hj]
        have hm : zs.getD j 0 ∈ zs := by
          rw [List.getD_eq_getElem?_getD, List.getElem?_eq_getElem (by omega)]
          exact List.getElem_mem _
        have := hwz _ hm
        simp only [Lit.wf, Bool.and_eq_true, decide_eq_true_eq] at this
        have e1 : IntKind.u16.min = 0 := rfl
        have e2 : IntKind.u16.max = 65535 := rfl
        omega
      · rw [hlen] at hj
        rw [get j hj, ← add_plain]
        exact hcell j (by omega)
end Go.Proofs.YtckdgniecdfedaaGreatDoor
