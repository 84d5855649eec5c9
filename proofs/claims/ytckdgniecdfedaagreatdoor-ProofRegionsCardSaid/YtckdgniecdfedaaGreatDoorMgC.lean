/- The walks of the writer's environments, games and controllers. -/
import Derived.Test.YtckdgniecdfedaaGreatDoorMgB
import Derived.StillTailTactics
import Derived.Deep.RegionHeld3
import Derived.Deep.Cut
import Derived.Laws.Cover1
import Derived.Deep.CutRange
import Derived.Deep.QuietTactic
import Derived.BigQuiet
section
/- The walk of the writer's environment. -/
namespace Go.Proofs.YtckdgniecdfedaaGreatDoor
open Go.RowKit

/-- lists of numbers that can be read -/
def RowsV (w : World) (v : Value) (l : List (List Int)) : Prop :=
  ∃ a c, v = .slice a l.length c ∧ l.length ≤ 9223372036854775807 ∧ (l ≠ [] → ∃ b off, a = some ⟨b, off, none⟩ ∧ b < w.heap.size ∧ ∀ j (h : j < l.length),
    l[j].length ≤ 9223372036854775807 ∧ ∃ au cu, w.cell? ⟨b, off + j, none⟩ = some (.slice au l[j].length cu) ∧ Nums w (.slice au l[j].length cu) l[j])
theorem RowsV.keep {w w' : World} {v : Value} {l : List (List Int)} (h : RowsV w v l) (hB : Below w.heap.size w w') : RowsV w' v l := by
  obtain ⟨a, c, e, hl, h⟩ := h
  refine ⟨a, c, e, hl, fun hA => ?_⟩
  obtain ⟨b, off, e', hb, hc⟩ := h hA
  refine ⟨b, off, e', Nat.lt_of_lt_of_le hb hB.size, fun j hj => ?_⟩
  obtain ⟨c0, au, cu, c1, c2⟩ := hc j hj
  exact ⟨c0, au, cu, (hB.cell (p := ⟨b, off + j, none⟩) hb).trans c1, c2.keep hB⟩

/-- an environment as it is read -/
structure Ev where
  ins : Int
  outs : Int
  start : Int
  inn : List Int
  next : List (List Int)
/-- the rows of an environment -/
def ers : List Int → List (List Int) → List Int
  | x :: xs, r :: rs => x :: r ++ ers xs rs
  | _, _ => []
theorem ers_snoc : ∀ (xs : List Int) (rs : List (List Int)) (k : Nat) (h : k < xs.length) (h' : k < rs.length), ers (xs.take (k + 1)) (rs.take (k + 1)) = ers (xs.take k) (rs.take k) ++ ([xs[k]] ++ rs[k])
  | x :: xs, r :: rs, 0, _, _ => by simp [ers]
  | x :: xs, r :: rs, k + 1, h, h' => by
    have := ers_snoc xs rs k (by simpa using h) (by simpa using h')
    simp only [List.take_succ_cons, ers, this, List.getElem_cons_succ, List.append_assoc]
theorem ers_take : ∀ (xs : List Int) (rs : List (List Int)) (m : Nat), xs.length ≤ m ∨ rs.length ≤ m → ers (xs.take m) (rs.take m) = ers xs rs
  | [], rs, m, _ => by cases rs.take m <;> simp [ers]
  | x :: xs, [], m, _ => by cases (x :: xs).take m <;> simp [ers]
  | x :: xs, r :: rs, 0, h => by simp at h
  | x :: xs, r :: rs, m + 1, h => by
    have := ers_take xs rs m (by simpa using h)
    simp [ers, this]
/-- the numbers of an environment -/
def Ev.code (e : Ev) : List Int := [e.ins, e.outs, e.start, (e.inn.length : Int)] ++ ers e.inn e.next
/-- what an environment is that can be written -/
def Ev.fit (e : Ev) : Prop := e.next.length = e.inn.length ∧ ∀ r ∈ e.next, (r.length : Int) = e.outs

section
variable {w0 : World} {wb : Nat} {w : World} {L : List Int} {n : Nat} {P : Prop} {K : List (Nat × Obj)}
theorem need1 (h : Wr w0 wb w L n P K) {s : Nat} (hs : w.heap.size = s) (m x : Int) : Calls Tryz.prog 79 #[.pointer (some ⟨wb, 0, none⟩), .int .i64 m, .slice (some ⟨s, 0, none⟩) 1 1] (w.alloc (.cells #[.int .i64 x] 3)) (Wrote w0 wb L n (P ∧ x = m) K) := by
  subst hs
  exact (need_any (h.alloc (.cells #[.int .i64 x] 3)) m (v := .slice (some ⟨w.heap.size, 0, none⟩) 1 1) (ns := [x]) (Arg.made w.heap.size [x] 1) (by simp)).mono fun _ _ ⟨e, h⟩ => ⟨e, h.tail.weak fun ⟨h1, h2⟩ => ⟨h1, h2 x (by simp)⟩⟩

set_option maxRecDepth 100000 in
set_option maxHeartbeats 4000000 in
theorem env_wr (h : Wr w0 wb w L n P K) (e : Ev) (u v : Value) (hu : Nums w0 u e.inn) (hl : e.inn.length ≤ 9223372036854775807) (hv : RowsV w0 v e.next) :
    Calls Tryz.prog 74 #[.pointer (some ⟨wb, 0, none⟩), .agg #[.int .i64 e.ins, .int .i64 e.outs, .int .i64 e.start, u, v]] w (Wrote w0 wb (L ++ e.code) n (P ∧ e.fit) K) := by
  have HU := Lib.hid hu
  obtain ⟨au, cu, rfl, -⟩ := hu
  have HV := Lib.hid hv
  obtain ⟨av, cv, rfl, lv, -⟩ := hv
  have A := h.alloc (.cells #[.int .i64 e.ins, .int .i64 e.outs, .int .i64 e.start, .slice au e.inn.length cu, .slice av e.next.length cv] 56)
  have HA := Lib.hid A
  have d0 := A.cell 0
  have d1 := A.cell 1
  have d2 := A.cell 2
  have d3 := A.cell 3
  have d4 := A.cell 4
  simp only [List.getElem?_toArray, List.getElem?_cons_succ, List.getElem?_cons_zero] at d0 d1 d2 d3 d4
  clear A h
  go_enter Tryz.func74, Tryz.ntmps74
  go_wp2_with fail
  refine (put4s HA.out (s := w.heap.size + 1) (by simp) _ _ _ _).mono ?_
  rintro e' w1 ⟨rfl, h1⟩
  have e0 := h1.cell 0
  have e1 := h1.cell 1
  have e2 := h1.cell 2
  have e3 := h1.cell 3
  have e4 := h1.cell 4
  simp only [List.getElem?_toArray, List.getElem?_cons_succ, List.getElem?_cons_zero] at e0 e1 e2 e3 e4
  have H1 := Lib.hid h1
  clear h1 d0 d1 d2 d3 d4
  generalize w.heap.size = B at *
  go_wp2_with fail
  refine (need1 H1.out rfl _ _).mono ?_
  rintro e' w2 ⟨rfl, h2⟩
  have d3 := h2.cell 3
  have d4 := h2.cell 4
  simp only [List.getElem?_toArray, List.getElem?_cons_succ, List.getElem?_cons_zero] at d3 d4
  have H2 := Lib.hid h2
  clear h2 e0 e1 e2 e3 e4
  go_wp2_with fail
  · have hm1 : e.next.length ≤ e.inn.length := by omega
    have hm2 : e.next.length ≤ e.next.length := by omega
    go_loopw [4, 33] (fun x i wr => ∃ k : Nat, k ≤ e.next.length ∧ i = .int .i64 k ∧ Wr w0 wb wr (L ++ [e.ins, e.outs, e.start, (e.inn.length : Int)] ++ ers (e.inn.take k) (e.next.take k)) n ((P ∧ (e.next.length : Int) = (e.inn.length : Int)) ∧ ∀ r ∈ e.next.take k, (r.length : Int) = e.outs) ((B, .cells #[.int .i64 e.ins, .int .i64 e.outs, .int .i64 e.start, .slice au e.inn.length cu, .slice av e.next.length cv] 56) :: K)) (fun _ i _ => e.next.length - (intOf i).toNat)
    case atStart => exact ⟨0, Nat.zero_le _, rfl, by simpa [ers] using H2.out⟩
    case round =>
      obtain ⟨k, hk, rfl, hw⟩ := hrel
      have e1 := hw.cell 1
      have e3 := hw.cell 3
      have e4 := hw.cell 4
      simp only [List.getElem?_toArray, List.getElem?_cons_succ, List.getElem?_cons_zero] at e1 e3 e4
      by_cases hlt : k < e.next.length
      · have hltn : k < e.next.length := by omega
        have hlti : k < e.inn.length := by omega
        have hB := hw.below
        obtain ⟨_, _, ev, _, hv⟩ := HV.out
        simp only [Value.slice.injEq, true_and] at ev
        obtain ⟨rfl, rfl⟩ := ev
        obtain ⟨b2, o2, rfl, hb2, hr⟩ := hv (fun e' => by rw [e'] at hltn; simp at hltn)
        obtain ⟨lr, ar, cr, c4, hr⟩ := hr k hltn
        have c40 := c4
        have c4 := (hB.cell (p := ⟨b2, o2 + k, none⟩) hb2).trans c40
        obtain ⟨_, _, eu, hu⟩ := HU.out
        simp only [Value.slice.injEq, true_and] at eu
        obtain ⟨rfl, rfl⟩ := eu
        obtain ⟨b1, o1, rfl, hb1, hi⟩ := hu (fun e' => by rw [e'] at hlti; simp at hlti)
        have c30 := hi k hlti
        have eA : e.inn.getD k 0 = e.inn[k] := by simp [hlti]
        rw [eA] at c30
        have c3 := (hB.cell (p := ⟨b1, o1 + k, none⟩) hb1).trans c30
        have HS := Lib.hid (ers_snoc e.inn e.next k hlti hltn)
        have HT := Lib.hid (List.take_succ_eq_append_getElem hltn)
        have HR := Lib.hid hr
        have HW := Lib.hid hw
        have hBl : B < wr.heap.size := (Array.getElem?_eq_some_iff.1 (hw.kept _ List.mem_cons_self).2).1
        have hb2' : b2 < wr.heap.size := Nat.lt_of_lt_of_le hb2 hw.lt0
        have hb1' : b1 < wr.heap.size := Nat.lt_of_lt_of_le hb1 hw.lt0
        clear hv hi hu hr hB hw eA
        generalize e.next[k] = r at *
        generalize e.inn[k] = x at *
        go_wp2_with fail
        go_region_held3 (fun w' => w'.cell? ⟨B, 1, none⟩ = some (.int .i64 e.outs) ∧ w'.cell? ⟨B, 4, none⟩ = some (.slice (some ⟨b2, o2, none⟩) e.next.length cv) ∧ w'.cell? ⟨b2, o2 + k, none⟩ = some (.slice ar r.length cr)) (go_keep)
          (first | (go_at_call 79; refine (need1 (HW.out.drawn 1) (s := wr.heap.size) rfl _ _).mono ?_; rintro e' w4 ⟨rfl, h4⟩; have q1 := h4.cell 1; have q4 := h4.cell 4; simp only [List.getElem?_toArray, List.getElem?_cons_succ, List.getElem?_cons_zero] at q1 q4; have q5 := (h4.below.cell (p := ⟨b2, o2 + k, none⟩) hb2).trans c40))
        have q3 := h4.cell 3
        simp only [List.getElem?_toArray, List.getElem?_cons_succ, List.getElem?_cons_zero] at q3
        have p3 := (h4.below.cell (p := ⟨b1, o1 + k, none⟩) hb1).trans c30
        have H4 := Lib.hid h4
        clear h4 e1 e3 e4 c3 c4 q1 hBl hb2' hb1'
        go_wp2_with fail
        refine (put1 H4.out _).mono ?_
        rintro e' w5 ⟨rfl, h5⟩
        have r4 := h5.cell 4
        simp only [List.getElem?_toArray, List.getElem?_cons_succ, List.getElem?_cons_zero] at r4
        have r5 := (h5.below.cell (p := ⟨b2, o2 + k, none⟩) hb2).trans c40
        have H5 := Lib.hid h5
        clear h5 q3 q4 q5 p3
        go_wp2_with fail
        refine (put_any H5.out (.inl HR.out) lr).mono ?_
        rintro e' w6 ⟨rfl, h6⟩
        have H6 := Lib.hid (h6.weak (Q := (P ∧ (e.next.length : Int) = (e.inn.length : Int)) ∧ ∀ r ∈ e.next.take (k + 1), (r.length : Int) = e.outs) fun ⟨⟨h1, h2⟩, h3⟩ => ⟨h1, fun y hy => by
          rw [HT.out] at hy
          rcases List.mem_append.1 hy with hy | hy
          · exact h2 y hy
          · rw [List.mem_singleton.1 hy]; exact h3⟩)
        clear h6 r4 r5
        go_wp2_with fail
        go_roundw
        case rel => exact ⟨k + 1, by omega, by go_num, by rw [HS.out]; have e' := H6.out; simp only [List.append_assoc] at e' ⊢; exact e'⟩
        case measure => simp [intOf]; omega
      · obtain rfl : k = e.next.length := by omega
        have HW := Lib.hid (hw.tail.weak (Q := P ∧ e.fit) fun ⟨⟨h1, h2⟩, h3⟩ => ⟨h1, by omega, fun r hr => h3 r (by rw [List.take_of_length_le (by omega)]; exact hr)⟩)
        have HE := Lib.hid (ers_take e.inn e.next e.next.length (by omega))
        clear hw
        go_wp2_with fail
        (try simp only [Exit.inBlock, Exit.then])
        refine bodyPost_end (results_none rfl _ _ _) rfl ⟨rfl, ?_⟩
        have := HW.out
        rw [HE.out, List.append_assoc] at this
        exact this
  · have hm1 : e.inn.length ≤ e.inn.length := by omega
    have hm2 : e.inn.length ≤ e.next.length := by omega
    go_loopw [4, 33] (fun x i wr => ∃ k : Nat, k ≤ e.inn.length ∧ i = .int .i64 k ∧ Wr w0 wb wr (L ++ [e.ins, e.outs, e.start, (e.inn.length : Int)] ++ ers (e.inn.take k) (e.next.take k)) n ((P ∧ (e.next.length : Int) = (e.inn.length : Int)) ∧ ∀ r ∈ e.next.take k, (r.length : Int) = e.outs) ((B, .cells #[.int .i64 e.ins, .int .i64 e.outs, .int .i64 e.start, .slice au e.inn.length cu, .slice av e.next.length cv] 56) :: K)) (fun _ i _ => e.inn.length - (intOf i).toNat)
    case atStart => exact ⟨0, Nat.zero_le _, rfl, by simpa [ers] using H2.out⟩
    case round =>
      obtain ⟨k, hk, rfl, hw⟩ := hrel
      have e1 := hw.cell 1
      have e3 := hw.cell 3
      have e4 := hw.cell 4
      simp only [List.getElem?_toArray, List.getElem?_cons_succ, List.getElem?_cons_zero] at e1 e3 e4
      by_cases hlt : k < e.inn.length
      · have hltn : k < e.next.length := by omega
        have hlti : k < e.inn.length := by omega
        have hB := hw.below
        obtain ⟨_, _, ev, _, hv⟩ := HV.out
        simp only [Value.slice.injEq, true_and] at ev
        obtain ⟨rfl, rfl⟩ := ev
        obtain ⟨b2, o2, rfl, hb2, hr⟩ := hv (fun e' => by rw [e'] at hltn; simp at hltn)
        obtain ⟨lr, ar, cr, c4, hr⟩ := hr k hltn
        have c40 := c4
        have c4 := (hB.cell (p := ⟨b2, o2 + k, none⟩) hb2).trans c40
        obtain ⟨_, _, eu, hu⟩ := HU.out
        simp only [Value.slice.injEq, true_and] at eu
        obtain ⟨rfl, rfl⟩ := eu
        obtain ⟨b1, o1, rfl, hb1, hi⟩ := hu (fun e' => by rw [e'] at hlti; simp at hlti)
        have c30 := hi k hlti
        have eA : e.inn.getD k 0 = e.inn[k] := by simp [hlti]
        rw [eA] at c30
        have c3 := (hB.cell (p := ⟨b1, o1 + k, none⟩) hb1).trans c30
        have HS := Lib.hid (ers_snoc e.inn e.next k hlti hltn)
        have HT := Lib.hid (List.take_succ_eq_append_getElem hltn)
        have HR := Lib.hid hr
        have HW := Lib.hid hw
        have hBl : B < wr.heap.size := (Array.getElem?_eq_some_iff.1 (hw.kept _ List.mem_cons_self).2).1
        have hb2' : b2 < wr.heap.size := Nat.lt_of_lt_of_le hb2 hw.lt0
        have hb1' : b1 < wr.heap.size := Nat.lt_of_lt_of_le hb1 hw.lt0
        clear hv hi hu hr hB hw eA
        generalize e.next[k] = r at *
        generalize e.inn[k] = x at *
        go_wp2_with fail
        go_region_held3 (fun w' => w'.cell? ⟨B, 1, none⟩ = some (.int .i64 e.outs) ∧ w'.cell? ⟨B, 4, none⟩ = some (.slice (some ⟨b2, o2, none⟩) e.next.length cv) ∧ w'.cell? ⟨b2, o2 + k, none⟩ = some (.slice ar r.length cr)) (go_keep)
          (first | (go_at_call 79; refine (need1 (HW.out.drawn 1) (s := wr.heap.size) rfl _ _).mono ?_; rintro e' w4 ⟨rfl, h4⟩; have q1 := h4.cell 1; have q4 := h4.cell 4; simp only [List.getElem?_toArray, List.getElem?_cons_succ, List.getElem?_cons_zero] at q1 q4; have q5 := (h4.below.cell (p := ⟨b2, o2 + k, none⟩) hb2).trans c40))
        have q3 := h4.cell 3
        simp only [List.getElem?_toArray, List.getElem?_cons_succ, List.getElem?_cons_zero] at q3
        have p3 := (h4.below.cell (p := ⟨b1, o1 + k, none⟩) hb1).trans c30
        have H4 := Lib.hid h4
        clear h4 e1 e3 e4 c3 c4 q1 hBl hb2' hb1'
        go_wp2_with fail
        refine (put1 H4.out _).mono ?_
        rintro e' w5 ⟨rfl, h5⟩
        have r4 := h5.cell 4
        simp only [List.getElem?_toArray, List.getElem?_cons_succ, List.getElem?_cons_zero] at r4
        have r5 := (h5.below.cell (p := ⟨b2, o2 + k, none⟩) hb2).trans c40
        have H5 := Lib.hid h5
        clear h5 q3 q4 q5 p3
        go_wp2_with fail
        refine (put_any H5.out (.inl HR.out) lr).mono ?_
        rintro e' w6 ⟨rfl, h6⟩
        have H6 := Lib.hid (h6.weak (Q := (P ∧ (e.next.length : Int) = (e.inn.length : Int)) ∧ ∀ r ∈ e.next.take (k + 1), (r.length : Int) = e.outs) fun ⟨⟨h1, h2⟩, h3⟩ => ⟨h1, fun y hy => by
          rw [HT.out] at hy
          rcases List.mem_append.1 hy with hy | hy
          · exact h2 y hy
          · rw [List.mem_singleton.1 hy]; exact h3⟩)
        clear h6 r4 r5
        go_wp2_with fail
        go_roundw
        case rel => exact ⟨k + 1, by omega, by go_num, by rw [HS.out]; have e' := H6.out; simp only [List.append_assoc] at e' ⊢; exact e'⟩
        case measure => simp [intOf]; omega
      · obtain rfl : k = e.inn.length := by omega
        have HW := Lib.hid (hw.tail.weak (Q := P ∧ e.fit) fun ⟨⟨h1, h2⟩, h3⟩ => ⟨h1, by omega, fun r hr => h3 r (by rw [List.take_of_length_le (by omega)]; exact hr)⟩)
        have HE := Lib.hid (ers_take e.inn e.next e.inn.length (by omega))
        clear hw
        go_wp2_with fail
        (try simp only [Exit.inBlock, Exit.then])
        refine bodyPost_end (results_none rfl _ _ _) rfl ⟨rfl, ?_⟩
        have := HW.out
        rw [HE.out, List.append_assoc] at this
        exact this
end
end Go.Proofs.YtckdgniecdfedaaGreatDoor
end
section
/- The walk of the writer's game. -/
namespace Go.Proofs.YtckdgniecdfedaaGreatDoor
open Go.RowKit

/-- a game and its measures as they are read -/
structure Gm where
  owner : List Int
  prio : List Int
  succ : List (List Int)
  meas : List (List Int)
/-- the positions of a game -/
def gps : List Int → List Int → List (List Int) → List Int
  | x :: xs, y :: ys, r :: rs => [x, y] ++ lst r ++ gps xs ys rs
  | _, _, _ => []
theorem gps_snoc : ∀ (xs ys : List Int) (rs : List (List Int)) (k : Nat) (h : k < xs.length) (h' : k < ys.length) (h'' : k < rs.length), gps (xs.take (k + 1)) (ys.take (k + 1)) (rs.take (k + 1)) = gps (xs.take k) (ys.take k) (rs.take k) ++ ([xs[k], ys[k]] ++ lst rs[k])
  | x :: xs, y :: ys, r :: rs, 0, _, _, _ => by simp [gps]
  | x :: xs, y :: ys, r :: rs, k + 1, h, h', h'' => by
    have := gps_snoc xs ys rs k (by simpa using h) (by simpa using h') (by simpa using h'')
    simp only [List.take_succ_cons, gps, this, List.getElem_cons_succ, List.append_assoc]
theorem gps_take : ∀ (xs ys : List Int) (rs : List (List Int)) (m : Nat), xs.length ≤ m ∨ ys.length ≤ m ∨ rs.length ≤ m → gps (xs.take m) (ys.take m) (rs.take m) = gps xs ys rs
  | [], ys, rs, m, _ => by simp [gps]
  | x :: xs, [], rs, m, _ => by cases m <;> simp [gps]
  | x :: xs, y :: ys, [], m, _ => by cases m <;> simp [gps]
  | x :: xs, y :: ys, r :: rs, 0, h => by simp at h
  | x :: xs, y :: ys, r :: rs, m + 1, h => by
    have := gps_take xs ys rs m (by simpa using h)
    simp [gps, this]
/-- lists of numbers, each with its length ahead -/
def lsts : List (List Int) → List Int
  | [] => []
  | r :: rs => lst r ++ lsts rs
theorem lsts_append (l m : List (List Int)) : lsts (l ++ m) = lsts l ++ lsts m := by
  induction l with
  | nil => rfl
  | cons s l ih => simp [lsts, ih]
/-- the numbers of a game and its measures -/
def Gm.code (g : Gm) : List Int := [(g.owner.length : Int)] ++ gps g.owner g.prio g.succ ++ lsts g.meas
/-- what a game is that can be written -/
def Gm.fit (g : Gm) : Prop := g.prio.length = g.owner.length ∧ g.succ.length = g.owner.length ∧ g.meas.length = g.owner.length

section
variable {w0 : World} {wb : Nat} {w : World} {L : List Int} {n : Nat} {P : Prop} {K : List (Nat × Obj)}
theorem need3 (h : Wr w0 wb w L n P K) {s : Nat} (hs : w.heap.size = s) (m x y z : Int) : Calls Tryz.prog 79 #[.pointer (some ⟨wb, 0, none⟩), .int .i64 m, .slice (some ⟨s, 0, none⟩) 3 3] (w.alloc (.cells #[.int .i64 x, .int .i64 y, .int .i64 z] 3)) (Wrote w0 wb L n (P ∧ x = m ∧ y = m ∧ z = m) K) := by
  subst hs
  exact (need_any (h.alloc (.cells #[.int .i64 x, .int .i64 y, .int .i64 z] 3)) m (v := .slice (some ⟨w.heap.size, 0, none⟩) 3 3) (ns := [x, y, z]) (Arg.made w.heap.size [x, y, z] 3) (by simp)).mono fun _ _ ⟨e, h⟩ => ⟨e, h.tail.weak fun ⟨h1, h2⟩ => ⟨h1, h2 x (by simp), h2 y (by simp), h2 z (by simp)⟩⟩

set_option maxRecDepth 100000 in
set_option maxHeartbeats 4000000 in
theorem game_wr (h : Wr w0 wb w L n P K) (g : Gm) (u v s t : Value) (hu : Nums w0 u g.owner) (_lu : g.owner.length ≤ 9223372036854775807) (hv : Nums w0 v g.prio) (_lv : g.prio.length ≤ 9223372036854775807) (hs : RowsV w0 s g.succ) (ht : RowsV w0 t g.meas) :
    Calls Tryz.prog 77 #[.pointer (some ⟨wb, 0, none⟩), .agg #[u, v, s], t] w (Wrote w0 wb (L ++ g.code) n (P ∧ g.fit) K) := by
  have HU := Lib.hid hu
  obtain ⟨au, cu, rfl, -⟩ := hu
  have HV := Lib.hid hv
  obtain ⟨av, cv, rfl, -⟩ := hv
  have HS := Lib.hid hs
  obtain ⟨as', cs, rfl, ls, -⟩ := hs
  have HT := Lib.hid ht
  obtain ⟨at', ct, rfl, lt, -⟩ := ht
  have A := h.alloc (.cells #[.slice au g.owner.length cu, .slice av g.prio.length cv, .slice as' g.succ.length cs] 39)
  have HA := Lib.hid A
  have d0 := A.cell 0
  have d1 := A.cell 1
  have d2 := A.cell 2
  simp only [List.getElem?_toArray, List.getElem?_cons_succ, List.getElem?_cons_zero] at d0 d1 d2
  clear A h
  go_enter Tryz.func77, Tryz.ntmps77
  go_wp2_with fail
  refine (put1s HA.out (s := w.heap.size + 1) (by simp) _).mono ?_
  rintro e' w1 ⟨rfl, h1⟩
  have e0 := h1.cell 0
  have e1 := h1.cell 1
  have e2 := h1.cell 2
  simp only [List.getElem?_toArray, List.getElem?_cons_succ, List.getElem?_cons_zero] at e0 e1 e2
  have H1 := Lib.hid h1
  clear h1 d0 d1 d2
  generalize w.heap.size = B at *
  go_wp2_with fail
  refine (need3 H1.out rfl _ _ _ _).mono ?_
  rintro e' w2 ⟨rfl, h2⟩
  have d1 := h2.cell 1
  have d2 := h2.cell 2
  simp only [List.getElem?_toArray, List.getElem?_cons_succ, List.getElem?_cons_zero] at d1 d2
  have H2 := Lib.hid h2
  clear h2 e0 e1 e2
  go_upto_region 4 with fail
  go_cut [36, 37] from 29 to 37 (fun m z wx => ∃ M : Nat, m = .int .i64 M ∧ z = .int .i64 0 ∧ M ≤ g.owner.length ∧ M ≤ g.prio.length ∧ M ≤ g.succ.length ∧ (g.owner.length ≤ M ∨ g.prio.length ≤ M ∨ g.succ.length ≤ M) ∧ wx = w2)
  case first =>
    go_wp2_with fail
    all_goals go_meet
    all_goals exact ⟨_, rfl, rfl, by omega, by omega, by omega, by omega, rfl⟩
  case rest =>
    obtain ⟨M, rfl, rfl, m1, m2, m3, m4, rfl⟩ := hcut
    go_wp2_with fail
    go_loopw [7, 37] (fun x i wr => ∃ k : Nat, k ≤ M ∧ i = .int .i64 k ∧ Wr w0 wb wr (L ++ [(g.owner.length : Int)] ++ gps (g.owner.take k) (g.prio.take k) (g.succ.take k)) n (P ∧ (g.prio.length : Int) = (g.owner.length : Int) ∧ (g.succ.length : Int) = (g.owner.length : Int) ∧ (g.meas.length : Int) = (g.owner.length : Int)) ((B, .cells #[.slice au g.owner.length cu, .slice av g.prio.length cv, .slice as' g.succ.length cs] 39) :: K)) (fun _ i _ => M - (intOf i).toNat)
    case atStart => exact ⟨0, Nat.zero_le _, rfl, by simpa [gps] using H2.out⟩
    case round =>
      obtain ⟨k, hk, rfl, hw⟩ := hrel
      have e0 := hw.cell 0
      have e1 := hw.cell 1
      have e2 := hw.cell 2
      simp only [List.getElem?_toArray, List.getElem?_cons_succ, List.getElem?_cons_zero] at e0 e1 e2
      by_cases hlt : k < M
      · have hlto : k < g.owner.length := by omega
        have hltp : k < g.prio.length := by omega
        have hlts : k < g.succ.length := by omega
        have hB := hw.below
        obtain ⟨_, _, ev, _, hv⟩ := HS.out
        simp only [Value.slice.injEq, true_and] at ev
        obtain ⟨rfl, rfl⟩ := ev
        obtain ⟨b2, o2, rfl, hb2, hr⟩ := hv (fun e' => by rw [e'] at hlts; simp at hlts)
        obtain ⟨lr, ar, cr, c20, hr⟩ := hr k hlts
        obtain ⟨_, _, eu, hu⟩ := HU.out
        simp only [Value.slice.injEq, true_and] at eu
        obtain ⟨rfl, rfl⟩ := eu
        obtain ⟨b0, o0, rfl, hb0, hi⟩ := hu (fun e' => by rw [e'] at hlto; simp at hlto)
        have c00 := hi k hlto
        have eA : g.owner.getD k 0 = g.owner[k] := by simp [hlto]
        rw [eA] at c00
        obtain ⟨_, _, ev', hv'⟩ := HV.out
        simp only [Value.slice.injEq, true_and] at ev'
        obtain ⟨rfl, rfl⟩ := ev'
        obtain ⟨b1, o1, rfl, hb1, hi'⟩ := hv' (fun e' => by rw [e'] at hltp; simp at hltp)
        have c10 := hi' k hltp
        have eA' : g.prio.getD k 0 = g.prio[k] := by simp [hltp]
        rw [eA'] at c10
        have c0 := (hB.cell (p := ⟨b0, o0 + k, none⟩) hb0).trans c00
        have c1 := (hB.cell (p := ⟨b1, o1 + k, none⟩) hb1).trans c10
        have HX := Lib.hid (gps_snoc g.owner g.prio g.succ k hlto hltp hlts)
        have HR := Lib.hid hr
        have HW := Lib.hid hw
        clear hv hi hu hv' hi' hr hB hw eA eA'
        generalize g.succ[k] = r at *
        generalize g.owner[k] = x at *
        generalize g.prio[k] = y at *
        go_wp2_with fail
        go_region_held3 (fun w' => w'.cell? ⟨B, 0, none⟩ = some (.slice (some ⟨b0, o0, none⟩) g.owner.length cu) ∧ w'.cell? ⟨B, 1, none⟩ = some (.slice (some ⟨b1, o1, none⟩) g.prio.length cv) ∧ w'.cell? ⟨b0, o0 + k, none⟩ = some (.int .i64 x) ∧ w'.cell? ⟨b1, o1 + k, none⟩ = some (.int .i64 y)) (go_keep)
          (first | (go_at_call 67; refine (put2s (HW.out.drawn 1) (s := wr.heap.size) rfl _ _).mono ?_; rintro e' w4 ⟨rfl, h4⟩; have q0 := h4.cell 0; have q1 := h4.cell 1; simp only [List.getElem?_toArray, List.getElem?_cons_succ, List.getElem?_cons_zero] at q0 q1; have q3 := (h4.below.cell (p := ⟨b0, o0 + k, none⟩) hb0).trans c00; have q4 := (h4.below.cell (p := ⟨b1, o1 + k, none⟩) hb1).trans c10))
        have r2 := h4.cell 2
        simp only [List.getElem?_toArray, List.getElem?_cons_succ, List.getElem?_cons_zero] at r2
        have r3 := (h4.below.cell (p := ⟨b2, o2 + k, none⟩) hb2).trans c20
        have H4 := Lib.hid h4
        clear h4 e0 e1 e2 c0 c1 q0 q1 q3 q4
        go_wp2_with fail
        refine (list_any H4.out (.inl HR.out) lr).mono ?_
        rintro e' w5 ⟨rfl, h5⟩
        have H5 := Lib.hid h5
        clear h5 r2 r3
        go_wp2_with fail
        go_roundw
        case rel => exact ⟨k + 1, by omega, by go_num, by rw [HX.out]; have e' := H5.out; simp only [List.append_assoc] at e' ⊢; exact e'⟩
        case measure => simp [intOf]; omega
      · obtain rfl : k = M := by omega
        have HE := Lib.hid (gps_take g.owner g.prio g.succ k (by omega))
        have HW := Lib.hid hw
        clear hw e0 e1 e2
        go_wp2_with fail
        go_loopw [9, 63] (fun x i wr => ∃ j : Nat, j ≤ g.meas.length ∧ i = .int .i64 j ∧ Wr w0 wb wr (L ++ ([(g.owner.length : Int)] ++ gps g.owner g.prio g.succ) ++ lsts (g.meas.take j)) n (P ∧ (g.prio.length : Int) = (g.owner.length : Int) ∧ (g.succ.length : Int) = (g.owner.length : Int) ∧ (g.meas.length : Int) = (g.owner.length : Int)) ((B, .cells #[.slice au g.owner.length cu, .slice av g.prio.length cv, .slice as' g.succ.length cs] 39) :: K)) (fun _ i _ => g.meas.length - (intOf i).toNat)
        case atStart => exact ⟨0, Nat.zero_le _, rfl, by have := HW.out; rw [HE.out] at this; simpa [lsts] using this⟩
        case round =>
          obtain ⟨j, hj, rfl, hw⟩ := hrel
          by_cases hlt' : j < g.meas.length
          · obtain ⟨_, _, ev, _, hv⟩ := HT.out
            simp only [Value.slice.injEq, true_and] at ev
            obtain ⟨rfl, rfl⟩ := ev
            obtain ⟨b2, o2, rfl, hb2, hr⟩ := hv (fun e' => by rw [e'] at hlt'; simp at hlt')
            obtain ⟨lr, ar, cr, c20, hr⟩ := hr j hlt'
            have c2 := (hw.below.cell (p := ⟨b2, o2 + j, none⟩) hb2).trans c20
            have HX := Lib.hid (show lsts (g.meas.take (j + 1)) = lsts (g.meas.take j) ++ lst g.meas[j] by rw [List.take_succ_eq_append_getElem hlt', lsts_append]; simp [lsts])
            have HR := Lib.hid hr
            have HW' := Lib.hid hw
            clear hv hr hw
            generalize g.meas[j] = r at *
            go_wp2_with fail
            refine (list_any HW'.out (.inl HR.out) lr).mono ?_
            rintro e' w5 ⟨rfl, h5⟩
            have H5 := Lib.hid h5
            clear h5 c2 c20
            go_wp2_with fail
            go_roundw
            case rel => exact ⟨j + 1, by omega, by go_num, by rw [HX.out]; have e' := H5.out; simp only [List.append_assoc] at e' ⊢; exact e'⟩
            case measure => simp [intOf]; omega
          · obtain rfl : j = g.meas.length := by omega
            rw [List.take_length] at hw
            have HF := Lib.hid (hw.tail.weak (Q := P ∧ g.fit) fun ⟨h1, h2, h3, h4⟩ => ⟨h1, by omega, by omega, by omega⟩)
            clear hw
            go_wp2_with fail
            (try simp only [Exit.inBlock, Exit.then])
            refine bodyPost_end (results_none rfl _ _ _) rfl ⟨rfl, ?_⟩
            have := HF.out
            rw [List.append_assoc] at this
            exact this
end
end Go.Proofs.YtckdgniecdfedaaGreatDoor
end
section
/- The walk of the writer's controller. -/
namespace Go.Proofs.YtckdgniecdfedaaGreatDoor
open Go.RowKit

/-- a controller as it is read -/
structure Ct where
  ins : Int
  outs : Int
  start : Int
  out : List (List Int)
  next : List (List Int)
/-- two lists, by turns -/
def zs2 : List Int → List Int → List Int
  | x :: xs, y :: ys => x :: y :: zs2 xs ys
  | _, _ => []
theorem zs2_snoc : ∀ (xs ys : List Int) (k : Nat) (h : k < xs.length) (h' : k < ys.length), zs2 (xs.take (k + 1)) (ys.take (k + 1)) = zs2 (xs.take k) (ys.take k) ++ [xs[k], ys[k]]
  | x :: xs, y :: ys, 0, _, _ => by simp [zs2]
  | x :: xs, y :: ys, k + 1, h, h' => by
    have := zs2_snoc xs ys k (by simpa using h) (by simpa using h')
    simp only [List.take_succ_cons, zs2, this, List.getElem_cons_succ, List.cons_append]
theorem zs2_take : ∀ (xs ys : List Int) (m : Nat), xs.length ≤ m ∨ ys.length ≤ m → zs2 (xs.take m) (ys.take m) = zs2 xs ys
  | [], ys, m, _ => by simp [zs2]
  | x :: xs, [], m, _ => by cases m <;> simp [zs2]
  | x :: xs, y :: ys, 0, h => by simp at h
  | x :: xs, y :: ys, m + 1, h => by
    have := zs2_take xs ys m (by simpa using h)
    simp [zs2, this]
/-- the rows of a controller -/
def crs : List (List Int) → List (List Int) → List Int
  | x :: xs, y :: ys => zs2 x y ++ crs xs ys
  | _, _ => []
theorem crs_snoc : ∀ (xs ys : List (List Int)) (k : Nat) (h : k < xs.length) (h' : k < ys.length), crs (xs.take (k + 1)) (ys.take (k + 1)) = crs (xs.take k) (ys.take k) ++ zs2 xs[k] ys[k]
  | x :: xs, y :: ys, 0, _, _ => by simp [crs]
  | x :: xs, y :: ys, k + 1, h, h' => by
    have := crs_snoc xs ys k (by simpa using h) (by simpa using h')
    simp only [List.take_succ_cons, crs, this, List.getElem_cons_succ, List.append_assoc]
theorem crs_take : ∀ (xs ys : List (List Int)) (m : Nat), xs.length ≤ m ∨ ys.length ≤ m → crs (xs.take m) (ys.take m) = crs xs ys
  | [], ys, m, _ => by simp [crs]
  | x :: xs, [], m, _ => by cases m <;> simp [crs]
  | x :: xs, y :: ys, 0, h => by simp at h
  | x :: xs, y :: ys, m + 1, h => by
    have := crs_take xs ys m (by simpa using h)
    simp [crs, this]
/-- the numbers of a controller -/
def Ct.code (e : Ct) : List Int := [e.ins, e.outs, e.start, (e.out.length : Int)] ++ crs e.out e.next
/-- what a controller is that can be written -/
def Ct.fit (e : Ct) : Prop := e.next.length = e.out.length ∧ (∀ r ∈ e.out, (r.length : Int) = e.ins) ∧ ∀ r ∈ e.next, (r.length : Int) = e.ins

section
variable {w0 : World} {wb : Nat} {w : World} {L : List Int} {n : Nat} {P : Prop} {K : List (Nat × Obj)}
theorem need2 (h : Wr w0 wb w L n P K) {s : Nat} (hs : w.heap.size = s) (m x y : Int) : Calls Tryz.prog 79 #[.pointer (some ⟨wb, 0, none⟩), .int .i64 m, .slice (some ⟨s, 0, none⟩) 2 2] (w.alloc (.cells #[.int .i64 x, .int .i64 y] 3)) (Wrote w0 wb L n (P ∧ x = m ∧ y = m) K) := by
  subst hs
  exact (need_any (h.alloc (.cells #[.int .i64 x, .int .i64 y] 3)) m (v := .slice (some ⟨w.heap.size, 0, none⟩) 2 2) (ns := [x, y]) (Arg.made w.heap.size [x, y] 2) (by simp)).mono fun _ _ ⟨e, h⟩ => ⟨e, h.tail.weak fun ⟨h1, h2⟩ => ⟨h1, h2 x (by simp), h2 y (by simp)⟩⟩

set_option maxRecDepth 100000 in
set_option maxHeartbeats 8000000 in
theorem ctrl_wr (h : Wr w0 wb w L n P K) (e : Ct) (u v : Value) (hu : RowsV w0 u e.out) (hv : RowsV w0 v e.next) :
    Calls Tryz.prog 72 #[.pointer (some ⟨wb, 0, none⟩), .agg #[.int .i64 e.ins, .int .i64 e.outs, .int .i64 e.start, u, v]] w (Wrote w0 wb (L ++ e.code) n (P ∧ e.fit) K) := by
  have HU := Lib.hid hu
  obtain ⟨au, cu, rfl, lu, -⟩ := hu
  have HV := Lib.hid hv
  obtain ⟨av, cv, rfl, lv, -⟩ := hv
  have A := h.alloc (.cells #[.int .i64 e.ins, .int .i64 e.outs, .int .i64 e.start, .slice au e.out.length cu, .slice av e.next.length cv] 54)
  have HA := Lib.hid A
  have d0 := A.cell 0
  have d1 := A.cell 1
  have d2 := A.cell 2
  have d3 := A.cell 3
  have d4 := A.cell 4
  simp only [List.getElem?_toArray, List.getElem?_cons_succ, List.getElem?_cons_zero] at d0 d1 d2 d3 d4
  clear A h
  go_enter Tryz.func72, Tryz.ntmps72
  go_wp2_with fail
  refine (put4s HA.out (s := w.heap.size + 1) (by simp) _ _ _ _).mono ?_
  rintro e' w1 ⟨rfl, h1⟩
  have e3 := h1.cell 3
  have e4 := h1.cell 4
  simp only [List.getElem?_toArray, List.getElem?_cons_succ, List.getElem?_cons_zero] at e3 e4
  have H1 := Lib.hid h1
  clear h1 d0 d1 d2 d3 d4
  generalize w.heap.size = B at *
  go_wp2_with fail
  refine (need1 H1.out rfl _ _).mono ?_
  rintro e' w2 ⟨rfl, h2⟩
  have d3 := h2.cell 3
  have d4 := h2.cell 4
  simp only [List.getElem?_toArray, List.getElem?_cons_succ, List.getElem?_cons_zero] at d3 d4
  have H2 := Lib.hid h2
  clear h2 e3 e4
  go_upto_region 3 with fail
  go_cut [33, 34] from 27 to 34 (fun m z wx => ∃ M : Nat, m = .int .i64 M ∧ z = .int .i64 0 ∧ M ≤ e.out.length ∧ M ≤ e.next.length ∧ (e.out.length ≤ M ∨ e.next.length ≤ M) ∧ wx = w2)
  case first =>
    go_wp2_with fail
    all_goals go_meet
    all_goals exact ⟨_, rfl, rfl, by omega, by omega, by omega, rfl⟩
  case rest =>
    obtain ⟨M, rfl, rfl, m1, m2, m3, rfl⟩ := hcut
    go_wp2_with fail
    go_loopw [4, 5, 34] (fun x y i wr => ∃ k : Nat, k ≤ M ∧ i = .int .i64 k ∧ Wr w0 wb wr (L ++ [e.ins, e.outs, e.start, (e.out.length : Int)] ++ crs (e.out.take k) (e.next.take k)) n ((P ∧ (e.next.length : Int) = (e.out.length : Int)) ∧ (∀ r ∈ e.out.take k, (r.length : Int) = e.ins) ∧ ∀ r ∈ e.next.take k, (r.length : Int) = e.ins) ((B, .cells #[.int .i64 e.ins, .int .i64 e.outs, .int .i64 e.start, .slice au e.out.length cu, .slice av e.next.length cv] 54) :: K)) (fun _ _ i _ => M - (intOf i).toNat)
    case atStart => exact ⟨0, Nat.zero_le _, rfl, by simpa [crs] using H2.out⟩
    case round =>
      obtain ⟨k, hk, rfl, hw⟩ := hrel
      have e0 := hw.cell 0
      have e3 := hw.cell 3
      have e4 := hw.cell 4
      simp only [List.getElem?_toArray, List.getElem?_cons_succ, List.getElem?_cons_zero] at e0 e3 e4
      by_cases hlt : k < M
      · have hlto : k < e.out.length := by omega
        have hltn : k < e.next.length := by omega
        have hB := hw.below
        obtain ⟨_, _, ev, _, hv⟩ := HU.out
        simp only [Value.slice.injEq, true_and] at ev
        obtain ⟨rfl, rfl⟩ := ev
        obtain ⟨b1, o1, rfl, hb1, hr⟩ := hv (fun e' => by rw [e'] at hlto; simp at hlto)
        obtain ⟨lr, ar, cr, c10, hr⟩ := hr k hlto
        obtain ⟨_, _, ev', _, hv'⟩ := HV.out
        simp only [Value.slice.injEq, true_and] at ev'
        obtain ⟨rfl, rfl⟩ := ev'
        obtain ⟨b2, o2, rfl, hb2, hr'⟩ := hv' (fun e' => by rw [e'] at hltn; simp at hltn)
        obtain ⟨lt, at', ct, c20, ht⟩ := hr' k hltn
        have c1 := (hB.cell (p := ⟨b1, o1 + k, none⟩) hb1).trans c10
        have c2 := (hB.cell (p := ⟨b2, o2 + k, none⟩) hb2).trans c20
        have HX := Lib.hid (crs_snoc e.out e.next k hlto hltn)
        have HT1 := Lib.hid (List.take_succ_eq_append_getElem hlto)
        have HT2 := Lib.hid (List.take_succ_eq_append_getElem hltn)
        have HR := Lib.hid hr
        have HT := Lib.hid ht
        have HW := Lib.hid hw
        clear hv hv' hr hr' ht hB hw
        generalize e.out[k] = r at *
        generalize e.next[k] = t at *
        go_wp2_with fail
        go_region_held3 (fun w' => w'.cell? ⟨B, 0, none⟩ = some (.int .i64 e.ins) ∧ w'.cell? ⟨B, 3, none⟩ = some (.slice (some ⟨b1, o1, none⟩) e.out.length cu) ∧ w'.cell? ⟨B, 4, none⟩ = some (.slice (some ⟨b2, o2, none⟩) e.next.length cv) ∧ w'.cell? ⟨b1, o1 + k, none⟩ = some (.slice ar r.length cr) ∧ w'.cell? ⟨b2, o2 + k, none⟩ = some (.slice at' t.length ct)) (go_keep)
          (first | (go_at_call 79; refine (need2 (HW.out.drawn 1) (s := wr.heap.size) rfl _ _ _).mono ?_; rintro e' w4 ⟨rfl, h4⟩; have q0 := h4.cell 0; have q3 := h4.cell 3; have q4 := h4.cell 4; simp only [List.getElem?_toArray, List.getElem?_cons_succ, List.getElem?_cons_zero] at q0 q3 q4; have q1 := (h4.below.cell (p := ⟨b1, o1 + k, none⟩) hb1).trans c10; have q2 := (h4.below.cell (p := ⟨b2, o2 + k, none⟩) hb2).trans c20))
        have H4 := Lib.hid h4
        clear h4 e0 e3 e4 c1 c2 q0
        by_cases hmn : (t.length : Int) < (r.length : Int)
        · have n1 : t.length ≤ r.length := by omega
          have n2 : t.length ≤ t.length := by omega
          go_wp2_with fail
          go_quiet (fail)
          go_wp2_with fail
          clear q1 q2 q3 q4
          go_loopw [5, 67] (fun y i wr => ∃ j : Nat, j ≤ t.length ∧ i = .int .i64 j ∧ Wr w0 wb wr (L ++ [e.ins, e.outs, e.start, (e.out.length : Int)] ++ crs (e.out.take k) (e.next.take k) ++ zs2 (r.take j) (t.take j)) n (((P ∧ (e.next.length : Int) = (e.out.length : Int)) ∧ (∀ r ∈ e.out.take k, (r.length : Int) = e.ins) ∧ ∀ r ∈ e.next.take k, (r.length : Int) = e.ins) ∧ (r.length : Int) = e.ins ∧ (t.length : Int) = e.ins) ((B, .cells #[.int .i64 e.ins, .int .i64 e.outs, .int .i64 e.start, .slice (some ⟨b1, o1, none⟩) e.out.length cu, .slice (some ⟨b2, o2, none⟩) e.next.length cv] 54) :: K)) (fun _ i _ => t.length - (intOf i).toNat)
          case atStart => exact ⟨0, Nat.zero_le _, rfl, by simpa [zs2] using H4.out.drawn nq⟩
          case round =>
            obtain ⟨j, hj, rfl, hw⟩ := hrel
            by_cases hlt' : j < t.length
            · have jr : j < r.length := by omega
              have jt : j < t.length := by omega
              obtain ⟨_, _, ev, hv⟩ := HR.out
              simp only [Value.slice.injEq, true_and] at ev
              obtain ⟨rfl, rfl⟩ := ev
              obtain ⟨b3, o3, rfl, hb3, hi⟩ := hv (fun e' => by rw [e'] at jr; simp at jr)
              have x10 := hi j jr
              have eA : r.getD j 0 = r[j] := by simp [jr]
              rw [eA] at x10
              obtain ⟨_, _, ev', hv'⟩ := HT.out
              simp only [Value.slice.injEq, true_and] at ev'
              obtain ⟨rfl, rfl⟩ := ev'
              obtain ⟨b4, o4, rfl, hb4, hi'⟩ := hv' (fun e' => by rw [e'] at jt; simp at jt)
              have x20 := hi' j jt
              have eA' : t.getD j 0 = t[j] := by simp [jt]
              rw [eA'] at x20
              have q3 := hw.cell 3
              have q4 := hw.cell 4
              simp only [List.getElem?_toArray, List.getElem?_cons_succ, List.getElem?_cons_zero] at q3 q4
              have q1 := (hw.below.cell (p := ⟨b1, o1 + k, none⟩) hb1).trans c10
              have q2 := (hw.below.cell (p := ⟨b2, o2 + k, none⟩) hb2).trans c20
              have x1 := (hw.below.cell (p := ⟨b3, o3 + j, none⟩) hb3).trans x10
              have x2 := (hw.below.cell (p := ⟨b4, o4 + j, none⟩) hb4).trans x20
              have HZ := Lib.hid (zs2_snoc r t j jr jt)
              have HV' := Lib.hid hw
              clear hv hv' hi hi' eA eA' hw
              generalize r[j] = x at *
              generalize t[j] = y at *
              go_wp2_with fail
              go_region_held3 (fun w' => w'.cell? ⟨B, 3, none⟩ = some (.slice (some ⟨b1, o1, none⟩) e.out.length cu) ∧ w'.cell? ⟨B, 4, none⟩ = some (.slice (some ⟨b2, o2, none⟩) e.next.length cv) ∧ w'.cell? ⟨b1, o1 + k, none⟩ = some (.slice (some ⟨b3, o3, none⟩) r.length cr) ∧ w'.cell? ⟨b2, o2 + k, none⟩ = some (.slice (some ⟨b4, o4, none⟩) t.length ct) ∧ w'.cell? ⟨b3, o3 + j, none⟩ = some (.int .i64 x) ∧ w'.cell? ⟨b4, o4 + j, none⟩ = some (.int .i64 y)) (go_keep)
                (first | (go_at_call 67; refine (put2s (HV'.out.drawn 1) (s := wr.heap.size) rfl _ _).mono ?_; rintro e' w5 ⟨rfl, h5⟩; have p3 := h5.cell 3; have p4 := h5.cell 4; simp only [List.getElem?_toArray, List.getElem?_cons_succ, List.getElem?_cons_zero] at p3 p4; have p1 := (h5.below.cell (p := ⟨b1, o1 + k, none⟩) hb1).trans c10; have p2 := (h5.below.cell (p := ⟨b2, o2 + k, none⟩) hb2).trans c20; have p5 := (h5.below.cell (p := ⟨b3, o3 + j, none⟩) hb3).trans x10; have p6 := (h5.below.cell (p := ⟨b4, o4 + j, none⟩) hb4).trans x20))
              have H5 := Lib.hid h5
              clear h5 q1 q2 q3 q4 x1 x2 p1 p2 p3 p4 p5 p6
              go_wp2_with fail
              go_roundw
              case rel => exact ⟨j + 1, by omega, by go_num, by rw [HZ.out, ← List.append_assoc]; exact H5.out⟩
              case measure => simp [intOf]; omega
            · obtain rfl : j = t.length := by omega
              have HZ := Lib.hid (zs2_take r t t.length (by omega))
              have H6 := Lib.hid (hw.weak (Q := (P ∧ (e.next.length : Int) = (e.out.length : Int)) ∧ (∀ r ∈ e.out.take (k + 1), (r.length : Int) = e.ins) ∧ ∀ r ∈ e.next.take (k + 1), (r.length : Int) = e.ins) fun ⟨⟨h1, h2, h3⟩, h4, h5⟩ => ⟨h1, fun y hy => by
                rw [HT1.out] at hy
                rcases List.mem_append.1 hy with hy | hy
                · exact h2 y hy
                · rw [List.mem_singleton.1 hy]; exact h4, fun y hy => by
                rw [HT2.out] at hy
                rcases List.mem_append.1 hy with hy | hy
                · exact h3 y hy
                · rw [List.mem_singleton.1 hy]; exact h5⟩)
              clear hw
              go_wp2_with fail
              go_roundw
              case rel => exact ⟨k + 1, by omega, by go_num, by rw [HX.out]; have e' := H6.out; rw [HZ.out] at e'; simp only [List.append_assoc] at e' ⊢; exact e'⟩
              case measure => simp [intOf]; omega
        · have n1 : r.length ≤ r.length := by omega
          have n2 : r.length ≤ t.length := by omega
          go_wp2_with fail
          go_quiet (fail)
          go_wp2_with fail
          clear q1 q2 q3 q4
          go_loopw [5, 67] (fun y i wr => ∃ j : Nat, j ≤ r.length ∧ i = .int .i64 j ∧ Wr w0 wb wr (L ++ [e.ins, e.outs, e.start, (e.out.length : Int)] ++ crs (e.out.take k) (e.next.take k) ++ zs2 (r.take j) (t.take j)) n (((P ∧ (e.next.length : Int) = (e.out.length : Int)) ∧ (∀ r ∈ e.out.take k, (r.length : Int) = e.ins) ∧ ∀ r ∈ e.next.take k, (r.length : Int) = e.ins) ∧ (r.length : Int) = e.ins ∧ (t.length : Int) = e.ins) ((B, .cells #[.int .i64 e.ins, .int .i64 e.outs, .int .i64 e.start, .slice (some ⟨b1, o1, none⟩) e.out.length cu, .slice (some ⟨b2, o2, none⟩) e.next.length cv] 54) :: K)) (fun _ i _ => r.length - (intOf i).toNat)
          case atStart => exact ⟨0, Nat.zero_le _, rfl, by simpa [zs2] using H4.out.drawn nq⟩
          case round =>
            obtain ⟨j, hj, rfl, hw⟩ := hrel
            by_cases hlt' : j < r.length
            · have jr : j < r.length := by omega
              have jt : j < t.length := by omega
              obtain ⟨_, _, ev, hv⟩ := HR.out
              simp only [Value.slice.injEq, true_and] at ev
              obtain ⟨rfl, rfl⟩ := ev
              obtain ⟨b3, o3, rfl, hb3, hi⟩ := hv (fun e' => by rw [e'] at jr; simp at jr)
              have x10 := hi j jr
              have eA : r.getD j 0 = r[j] := by simp [jr]
              rw [eA] at x10
              obtain ⟨_, _, ev', hv'⟩ := HT.out
              simp only [Value.slice.injEq, true_and] at ev'
              obtain ⟨rfl, rfl⟩ := ev'
              obtain ⟨b4, o4, rfl, hb4, hi'⟩ := hv' (fun e' => by rw [e'] at jt; simp at jt)
              have x20 := hi' j jt
              have eA' : t.getD j 0 = t[j] := by simp [jt]
              rw [eA'] at x20
              have q3 := hw.cell 3
              have q4 := hw.cell 4
              simp only [List.getElem?_toArray, List.getElem?_cons_succ, List.getElem?_cons_zero] at q3 q4
              have q1 := (hw.below.cell (p := ⟨b1, o1 + k, none⟩) hb1).trans c10
              have q2 := (hw.below.cell (p := ⟨b2, o2 + k, none⟩) hb2).trans c20
              have x1 := (hw.below.cell (p := ⟨b3, o3 + j, none⟩) hb3).trans x10
              have x2 := (hw.below.cell (p := ⟨b4, o4 + j, none⟩) hb4).trans x20
              have HZ := Lib.hid (zs2_snoc r t j jr jt)
              have HV' := Lib.hid hw
              clear hv hv' hi hi' eA eA' hw
              generalize r[j] = x at *
              generalize t[j] = y at *
              go_wp2_with fail
              go_region_held3 (fun w' => w'.cell? ⟨B, 3, none⟩ = some (.slice (some ⟨b1, o1, none⟩) e.out.length cu) ∧ w'.cell? ⟨B, 4, none⟩ = some (.slice (some ⟨b2, o2, none⟩) e.next.length cv) ∧ w'.cell? ⟨b1, o1 + k, none⟩ = some (.slice (some ⟨b3, o3, none⟩) r.length cr) ∧ w'.cell? ⟨b2, o2 + k, none⟩ = some (.slice (some ⟨b4, o4, none⟩) t.length ct) ∧ w'.cell? ⟨b3, o3 + j, none⟩ = some (.int .i64 x) ∧ w'.cell? ⟨b4, o4 + j, none⟩ = some (.int .i64 y)) (go_keep)
                (first | (go_at_call 67; refine (put2s (HV'.out.drawn 1) (s := wr.heap.size) rfl _ _).mono ?_; rintro e' w5 ⟨rfl, h5⟩; have p3 := h5.cell 3; have p4 := h5.cell 4; simp only [List.getElem?_toArray, List.getElem?_cons_succ, List.getElem?_cons_zero] at p3 p4; have p1 := (h5.below.cell (p := ⟨b1, o1 + k, none⟩) hb1).trans c10; have p2 := (h5.below.cell (p := ⟨b2, o2 + k, none⟩) hb2).trans c20; have p5 := (h5.below.cell (p := ⟨b3, o3 + j, none⟩) hb3).trans x10; have p6 := (h5.below.cell (p := ⟨b4, o4 + j, none⟩) hb4).trans x20))
              have H5 := Lib.hid h5
              clear h5 q1 q2 q3 q4 x1 x2 p1 p2 p3 p4 p5 p6
              go_wp2_with fail
              go_roundw
              case rel => exact ⟨j + 1, by omega, by go_num, by rw [HZ.out, ← List.append_assoc]; exact H5.out⟩
              case measure => simp [intOf]; omega
            · obtain rfl : j = r.length := by omega
              have HZ := Lib.hid (zs2_take r t r.length (by omega))
              have H6 := Lib.hid (hw.weak (Q := (P ∧ (e.next.length : Int) = (e.out.length : Int)) ∧ (∀ r ∈ e.out.take (k + 1), (r.length : Int) = e.ins) ∧ ∀ r ∈ e.next.take (k + 1), (r.length : Int) = e.ins) fun ⟨⟨h1, h2, h3⟩, h4, h5⟩ => ⟨h1, fun y hy => by
                rw [HT1.out] at hy
                rcases List.mem_append.1 hy with hy | hy
                · exact h2 y hy
                · rw [List.mem_singleton.1 hy]; exact h4, fun y hy => by
                rw [HT2.out] at hy
                rcases List.mem_append.1 hy with hy | hy
                · exact h3 y hy
                · rw [List.mem_singleton.1 hy]; exact h5⟩)
              clear hw
              go_wp2_with fail
              go_roundw
              case rel => exact ⟨k + 1, by omega, by go_num, by rw [HX.out]; have e' := H6.out; rw [HZ.out] at e'; simp only [List.append_assoc] at e' ⊢; exact e'⟩
              case measure => simp [intOf]; omega
      · obtain rfl : k = M := by omega
        have HE := Lib.hid (crs_take e.out e.next k (by omega))
        have HF := Lib.hid (hw.tail.weak (Q := P ∧ e.fit) fun ⟨⟨h1, h2⟩, h3, h4⟩ => ⟨h1, by omega, fun r hr => h3 r (by rw [List.take_of_length_le (by omega)]; exact hr), fun r hr => h4 r (by rw [List.take_of_length_le (by omega)]; exact hr)⟩)
        clear hw e0 e3 e4
        go_wp2_with fail
        (try simp only [Exit.inBlock, Exit.then])
        refine bodyPost_end (results_none rfl _ _ _) rfl ⟨rfl, ?_⟩
        have := HF.out
        rw [HE.out, List.append_assoc] at this
        exact this
end
end Go.Proofs.YtckdgniecdfedaaGreatDoor
end
