/- The head of the laws in a world that was made out of the call's own. -/
import Derived.Test.YtckdgniecdfedaaGreatDoorAmHeadB
import Derived.Test.YtckdgniecdfedaaGreatDoorWalk2
import Derived.ChangeReads
import Derived.ChangeOld
namespace Go.AM
open Go.RowKit Go.Proofs Go.Proofs.YtckdgniecdfedaaGreatDoor
/-- what a listed variable reads as, it reads as in every world that is as this one below its end -/
theorem reads_below {P : Program} {w w' : World} (hB : Below w.heap.size w w') {n : String} {d : DataW Unit} (h : Lib.VarReads P w n d) : Lib.VarReads P w' n d := by
  obtain ⟨g, t, cs, fuel, p, h1, h2, h3, h4⟩ := h
  refine ⟨g, t, cs, fuel, p, h1, h2, ?_, DataW.trod_carry _ _ _ _ h4 fun x hx => ?_⟩
  · simp only [World.var?, h1, Option.bind_some] at h3 ⊢
    have hg : g < w.heap.size := by
      rcases Nat.lt_or_ge g w.heap.size with h | h
      · exact h
      · rw [Array.getElem?_eq_none h] at h3
        cases h3
    rw [hB.block g hg]
    exact h3
  · have hx' := DataW.trod_lt _ _ _ _ h4 x hx
    cases x with
    | cell b off => exact World.cell?_of_block (w := w) (w' := w') (a := ⟨b, off, none⟩) (hB.block b hx')
    | map b => exact hB.block b hx'
theorem later_rel {w : World} (rd : ∀ {n d}, (n, d) ∈ laid7 → Lib.VarReads Tryz.prog w n d) : Rel Tryz.prog ι0 ⟨8, t0⟩ w := by
  refine ⟨fun b hb => ?_, fun g hg => ?_, fun b x hx => ?_, fun b c x y p q hx _ _ _ _ hw => ?_⟩
  · simp [ι0, show ¬ b < 8 from Nat.not_lt.2 hb]
  · rw [ng8'] at hg
    exact ⟨⟨g, 0, 0, 0⟩, by simp [ι0, hg], rfl, rfl⟩
  · obtain ⟨hb, he⟩ := t0_find hx
    rw [he]
    rcases hb with rfl | rfl | rfl | rfl | rfl | rfl | rfl
    · exact ⟨⟨0, 0, 0, 0⟩, rfl, varBlk' g0 (varB_at (by simp)) (rd (by simp [laid7]))⟩
    · exact ⟨⟨2, 0, 0, 0⟩, rfl, varBlk' g2 (varB_at (by simp)) (rd (by simp [laid7]))⟩
    · exact ⟨⟨3, 0, 0, 0⟩, rfl, varBlk' g3 (varB_at (by simp)) (rd (by simp [laid7]))⟩
    · exact ⟨⟨4, 0, 0, 0⟩, rfl, varBlk' g4 (varB_at (by simp)) (rd (by simp [laid7]))⟩
    · exact ⟨⟨5, 0, 0, 0⟩, rfl, varBlk' g5 (varB_at (by simp)) (rd (by simp [laid7]))⟩
    · exact ⟨⟨6, 0, 0, 0⟩, rfl, varBlk' g6 (varB_at (by simp)) (rd (by simp [laid7]))⟩
    · exact ⟨⟨7, 0, 0, 0⟩, rfl, varBlk' g7 (varB_at (by simp)) (rd (by simp [laid7]))⟩
  · rw [t0_writable hx] at hw; cases hw
/-- head in a later world -/
theorem head_later {w w' : World} (h : laidMet Tryz.prog laid7 w) (hB : Below w.heap.size w w') : HeadAt w' :=
  (head_calls flatsOk (later_rel fun hm => reads_below hB (Lib.laidMet.reads h hm))).mono fun _ _ h => ret_below h
end Go.AM
