/- The walks of strings.SplitSeq and proof.Parse: it hands back the certificate that a text is, or none. -/
import Derived.Test.YtckdgniecdfedaaGreatDoorWalk7
import Derived.Test.YtckdgniecdfedaaGreatDoorWalk3
import Derived.Test.YtckdgniecdfedaaGreatDoorWalk5
import Derived.Laws.ResultCell
import Derived.RangeFuncBox
import Derived.Maps.AppendAt
namespace Go.Proofs.YtckdgniecdfedaaGreatDoor
open Go.RowKit Go.Shelf
attribute [local go_sem] Oper.semAt_some

/-- the world with the iterator's three variables -/
abbrev three (w : World) (s : ByteArray) : World := ((w.alloc (.cells #[.string s] 9)).alloc (.cells #[.string ⟨#[32]⟩] 9)).alloc (.cells #[.int .i64 0] 3)
abbrev iterV (w : World) : Value := .func (.func 158) #[] #[.pointer (some ⟨w.heap.size + 1, 0, none⟩), .pointer (some ⟨w.heap.size, 0, none⟩), .pointer (some ⟨w.heap.size + 2, 0, none⟩)]

theorem splitSeq_any (s : ByteArray) (w : World) : Calls Tryz.prog 106 #[.string s, .string ⟨#[32]⟩, .int .i64 0] w fun e w' => e = .returned (iterV w) ∧ w' = three w s := by
  have hmf : ∀ (fn : Fn) (first cap : Array Value) (w : World), (Instr.makeFunc fn first cap).run Tryz.prog w = .ok (.func fn first cap) w := fun _ _ _ _ => rfl
  go_enter Tryz.func106, Tryz.ntmps106
  go_wp2
  go_ret
  exact ⟨rfl, rfl⟩
theorem splitSeq_top (s : ByteArray) (w : World) : Calls Tryz.prog 44 #[.string s, .string ⟨#[32]⟩] w fun e w' => e = .returned (iterV w) ∧ w' = three w s := by
  go_enter Tryz.func44, Tryz.ntmps44
  go_wp2_with (go_at_call 106; refine (splitSeq_any s _).mono ?_; rintro e w' ⟨rfl, rfl⟩)
  go_ret
  exact ⟨rfl, rfl⟩


def numN (l : List UInt8) : Nat := (Tx.num l).getD 0
def numB (l : List UInt8) : Bool := (Tx.num l).isSome
theorem number_two (s : ByteArray) (w : World) (hs : s.size ≤ 1000000) :
    Calls Tryz.prog 43 #[.string s] w fun e w' => e = .returned (.tuple #[.int .i64 (numN s.data.toList : Nat), .bool (numB s.data.toList)]) ∧ w = w' :=
  (number_any s w hs).mono fun e w' ⟨he, hw⟩ => by
    refine ⟨he.trans ?_, hw⟩
    unfold numV numN numB
    cases Tx.num s.data.toList <;> rfl
theorem number_mk (l : List UInt8) (w : World) (hs : l.length ≤ 1000000) :
    Calls Tryz.prog 43 #[.string ⟨l.toArray⟩] w fun e w' => e = .returned (.tuple #[.int .i64 (numN l : Nat), .bool (numB l)]) ∧ w = w' :=
  number_two ⟨l.toArray⟩ w (by show l.toArray.size ≤ _; rw [List.size_toArray]; exact hs)
theorem num_of {l : List UInt8} (h : numB l = true) : Tx.num l = some (numN l) := by
  unfold numB at h
  unfold numN
  cases hn : Tx.num l with
  | none => rw [hn] at h; cases h
  | some n => rfl
theorem num_no {l : List UInt8} (h : numB l = false) : Tx.num l = none := by
  unfold numB at h
  cases hn : Tx.num l with
  | none => rfl
  | some n => rw [hn] at h; cases h
theorem numN_no {l : List UInt8} (h : numB l = false) : numN l = 0 := by unfold numN; rw [num_no h]; rfl

theorem cut_more {l : List UInt8} (h : (Lib.cut l [32]).2.2 = true) : Tx.split l = (Lib.cut l [32]).1 :: Tx.split (Lib.cut l [32]).2.1 ∧ (Lib.cut l [32]).1.length ≤ l.length ∧ (Lib.cut l [32]).2.1.length ≤ l.length := by
  unfold Lib.cut at *
  split at h
  · rename_i h0
    rw [if_pos h0]
    rw [Lib.index_one] at h0 ⊢
    have e : Lib.indexByte l 32 = ((Lib.indexByte l 32).toNat : Int) := by omega
    obtain ⟨_, h2⟩ := split_some e
    exact ⟨h2, by simp [List.length_take]; omega, by simp⟩
  · cases h
theorem cut_less {l : List UInt8} (h : (Lib.cut l [32]).2.2 = false) : Tx.split l = [(Lib.cut l [32]).1] ∧ (Lib.cut l [32]).1.length ≤ l.length := by
  unfold Lib.cut at *
  split at h
  · cases h
  · rename_i h0
    rw [if_neg h0]
    rw [Lib.index_one] at h0
    have := Lib.indexByte_ge l 32
    exact ⟨split_none (by omega), Nat.le_refl _⟩

theorem parse_cons {l f : List UInt8} {ws : List (List UInt8)} (h : Tx.split l = f :: ws) : Tx.parse l = match Tx.num f with
    | some n => (Tx.nums ws).map (fun ms => (n, ms))
    | none => none := by
  have e : Tx.nums (f :: ws) = match Tx.num f with
    | some n => (Tx.nums ws).map (n :: ·)
    | none => none := rfl
  unfold Tx.parse
  rw [h, e]
  cases Tx.num f with
  | none => rfl
  | some n =>
    cases Tx.nums ws with
    | none => rfl
    | some ms => rfl
theorem parse_no {l f : List UInt8} {ws : List (List UInt8)} (h : Tx.split l = f :: ws) (hf : numB f = false) : Tx.parse l = none := by rw [parse_cons h, num_no hf]
theorem parse_one {l f : List UInt8} (h : Tx.split l = [f]) (hf : numB f = true) : Tx.parse l = some (numN f, []) := by rw [parse_cons h, num_of hf]; rfl
theorem split_cons {l f r : List UInt8} {more : Bool} (HM : more = true → Tx.split l = f :: Tx.split r ∧ f.length ≤ l.length ∧ r.length ≤ l.length) (HN : more = false → Tx.split l = [f] ∧ f.length ≤ l.length) : ∃ ws, Tx.split l = f :: ws := by
  cases more with
  | true => exact ⟨_, (HM rfl).1⟩
  | false => exact ⟨_, (HN rfl).1⟩
theorem below0 (w : World) (n : Nat) (o o1 o2 o3 : Obj) (a b : Value) : Below w.heap.size w (((((((w.alloc o).drewN n).setCell ⟨w.heap.size, 0, none⟩ a).setCell ⟨w.heap.size, 1, none⟩ b).alloc o1).alloc o2).alloc o3) :=
  (((((below_drawn ((Below.refl _ w).alloc (Nat.le_refl _) o) n).setCell (p := ⟨w.heap.size, 0, none⟩) (Nat.le_refl _) a).setCell (p := ⟨w.heap.size, 1, none⟩) (Nat.le_refl _) b).alloc (by simp) o1).alloc (by simp; omega) o2).alloc (by simp; omega) o3
theorem heap4 (w : World) (n : Nat) (o0 o1 o2 o3 : Obj) :
    (((((w.alloc o0).drewN n).alloc o1).alloc o2).alloc o3).heap[w.heap.size]? = some o0 ∧ (((((w.alloc o0).drewN n).alloc o1).alloc o2).alloc o3).heap[w.heap.size + 1]? = some o1 ∧
    (((((w.alloc o0).drewN n).alloc o1).alloc o2).alloc o3).heap[w.heap.size + 2]? = some o2 ∧ (((((w.alloc o0).drewN n).alloc o1).alloc o2).alloc o3).heap[w.heap.size + 3]? = some o3 ∧
    (((((w.alloc o0).drewN n).alloc o1).alloc o2).alloc o3).heap.size = w.heap.size + 4 ∧ Below w.heap.size w (((((w.alloc o0).drewN n).alloc o1).alloc o2).alloc o3) := by
  have h : (((((w.alloc o0).drewN n).alloc o1).alloc o2).alloc o3).heap = (((w.heap.push o0).push o1).push o2).push o3 := rfl
  refine ⟨?_, ?_, ?_, ?_, ?_, ?_⟩
  · rw [h]; simp only [Array.getElem?_push, Array.size_push]; (repeat rw [if_neg (by omega)]); simp
  · rw [h]; simp only [Array.getElem?_push, Array.size_push]; (repeat rw [if_neg (by omega)]); simp
  · rw [h]; simp only [Array.getElem?_push, Array.size_push]; (repeat rw [if_neg (by omega)]); simp
  · rw [h]; simp only [Array.getElem?_push, Array.size_push]; (repeat rw [if_neg (by omega)]); simp
  · rw [h]; simp
  · exact (((below_drawn ((Below.refl _ w).alloc (Nat.le_refl _) _) n).alloc (by simp) _).alloc (by simp; omega) _).alloc (by simp; omega) _
theorem heap3 (w : World) (o0 o1 o2 : Obj) :
    (((w.alloc o0).alloc o1).alloc o2).heap[w.heap.size]? = some o0 ∧ (((w.alloc o0).alloc o1).alloc o2).heap[w.heap.size + 1]? = some o1 ∧ (((w.alloc o0).alloc o1).alloc o2).heap[w.heap.size + 2]? = some o2 ∧
    (((w.alloc o0).alloc o1).alloc o2).heap.size = w.heap.size + 3 ∧ Below w.heap.size w (((w.alloc o0).alloc o1).alloc o2) := by
  have h : (((w.alloc o0).alloc o1).alloc o2).heap = ((w.heap.push o0).push o1).push o2 := rfl
  refine ⟨?_, ?_, ?_, ?_, ?_⟩
  · rw [h]; simp only [Array.getElem?_push, Array.size_push]; (repeat rw [if_neg (by omega)]); simp
  · rw [h]; simp only [Array.getElem?_push, Array.size_push]; (repeat rw [if_neg (by omega)]); simp
  · rw [h]; simp only [Array.getElem?_push, Array.size_push]; (repeat rw [if_neg (by omega)]); simp
  · rw [h]; simp
  · exact (((Below.refl _ w).alloc (Nat.le_refl _) _).alloc (by simp) _).alloc (by simp; omega) _

/-- Parse's variables between two rounds: the result, the number, whether all was well, the certificate -/
def Vars (w : World) (s1 : Nat) (n0 : Nat) (ok : Bool) (ms : List Nat) (W : World) : Prop :=
  W.heap[w.heap.size]? = some (.cells #[.slice none 0 0, .int .i64 0] 30 (0, 0)) ∧ (∃ x : Int, W.heap[w.heap.size + 1]? = some (.cells #[.int .i64 x] 3 (0, 0))) ∧
  W.heap[w.heap.size + 2]? = some (.cells #[.bool ok] 4 (0, 0)) ∧ (∃ v, W.heap[w.heap.size + 3]? = some (.cells #[v, .int .i64 n0] 30 (0, 0)) ∧ W.ownsRow s1 3 1 v ms.length ((ints ms).map (Value.int .i64))) ∧
  s1 ≤ W.heap.size ∧ Below w.heap.size w W
theorem Vars.turn {w : World} {s1 n0 : Nat} {ok : Bool} {ms : List Nat} {W W' : World} (h : Vars w s1 n0 ok ms W) {row : Option Nat} {c : Nat} (hc : w.heap.size + 4 ≤ c) (hcs : c < s1) (hg : W.grownBy W' row)
    (hr : ∀ r, row = some r → r = c ∨ (s1 ≤ r ∧ ∃ o : Obj, W.heap[r]? = some o ∧ o.isCells = false)) : Vars w s1 n0 ok ms W' := by
  obtain ⟨h0, ⟨x, h1⟩, h2, ⟨v, h3, hown⟩, hs, hB⟩ := h
  have keep : ∀ {k : Nat} {o : Obj}, k < w.heap.size + 4 → W.heap[k]? = some o → W'.heap[k]? = some o := fun {k o} hk ho =>
    (hg.block k (Array.getElem?_eq_some_iff.1 ho).1 fun e => by rcases hr k e.symm with h | h <;> omega).trans ho
  refine ⟨keep (by omega) h0, ⟨x, keep (by omega) h1⟩, keep (by omega) h2, ⟨v, keep (by omega) h3, hown.1, ?_⟩, Nat.le_trans hs hg.size, ?_⟩
  · rcases hown.2 with h | ⟨g, cap, cur, e1, hb, hh, h⟩
    · exact .inl h
    · refine .inr ⟨g, cap, cur, e1, hb, (hg.block g (Array.getElem?_eq_some_iff.1 hh).1 fun e => ?_).trans hh, h⟩
      rcases hr g e.symm with h | ⟨_, o, ho, hn⟩
      · omega
      · rw [hh] at ho; cases ho; cases hn
  · exact hB.grown hg hB.size fun k e => by rcases hr k e with h | h <;> omega

theorem Vars.setN {w : World} {s1 n0 : Nat} {ok : Bool} {ms : List Nat} {W : World} (h : Vars w s1 n0 ok ms W) (hs1 : w.heap.size + 7 ≤ s1) (x : Int) : Vars w s1 n0 ok ms (W.setCell ⟨w.heap.size + 1, 0, none⟩ (.int .i64 x)) := by
  obtain ⟨h0, ⟨y, h1⟩, h2, ⟨v, h3, hown⟩, hs, hB⟩ := h
  have o : ∀ k, k ≠ w.heap.size + 1 → (W.setCell ⟨w.heap.size + 1, 0, none⟩ (.int .i64 x)).heap[k]? = W.heap[k]? := fun k hk => heap_setCell_other W ⟨w.heap.size + 1, 0, none⟩ k _ hk
  exact ⟨(o _ (by omega)).trans h0, ⟨x, heap_setCell_same W _ 0 _ 3 _ h1⟩, (o _ (by omega)).trans h2, ⟨v, (o _ (by omega)).trans h3, ownsRow_setCell_below hown (show w.heap.size + 1 < s1 by omega) _⟩, by simpa [World.setCell] using hs, hB.setCell (show w.heap.size ≤ w.heap.size + 1 by omega) _⟩
theorem Vars.setOk {w : World} {s1 n0 : Nat} {ok : Bool} {ms : List Nat} {W : World} (h : Vars w s1 n0 ok ms W) (hs1 : w.heap.size + 7 ≤ s1) (b : Bool) : Vars w s1 n0 b ms (W.setCell ⟨w.heap.size + 2, 0, none⟩ (.bool b)) := by
  obtain ⟨h0, ⟨y, h1⟩, h2, ⟨v, h3, hown⟩, hs, hB⟩ := h
  have o : ∀ k, k ≠ w.heap.size + 2 → (W.setCell ⟨w.heap.size + 2, 0, none⟩ (.bool b)).heap[k]? = W.heap[k]? := fun k hk => heap_setCell_other W ⟨w.heap.size + 2, 0, none⟩ k _ hk
  exact ⟨(o _ (by omega)).trans h0, ⟨y, (o _ (by omega)).trans h1⟩, heap_setCell_same W _ 0 _ 4 _ h2, ⟨v, (o _ (by omega)).trans h3, ownsRow_setCell_below hown (show w.heap.size + 2 < s1 by omega) _⟩, by simpa [World.setCell] using hs, hB.setCell (show w.heap.size ≤ w.heap.size + 2 by omega) _⟩
/-- the append and the store behind it -/
theorem Vars.app {w : World} {s1 n0 n : Nat} {ms : List Nat} {W W1 : World} {v v' : Value} {o : Obj} (h : Vars w s1 n0 true ms W) (hs1 : w.heap.size + 7 ≤ s1) (h3 : W.heap[w.heap.size + 3]? = some (.cells #[v, .int .i64 n0] 30 (0, 0)))
    (hown : W.ownsRow s1 3 1 v ms.length ((ints ms).map (Value.int .i64))) (hown' : W1.ownsRow s1 3 1 v' (ms.length + 1) ((ints ms).map (Value.int .i64) ++ [.int .i64 (n : Int)])) (hg : (W.alloc o).grownBy W1 v.ownBlock) :
    Vars w s1 n0 true (ms ++ [n]) (W1.setCell ⟨w.heap.size + 3, 0, none⟩ v') ∧ KeepsOthers W (W1.setCell ⟨w.heap.size + 3, 0, none⟩ v') ∧ KpAt (w.heap.size + 4) W (W1.setCell ⟨w.heap.size + 3, 0, none⟩ v') := by
  obtain ⟨h0, ⟨y, h1⟩, h2, _, hs, hB⟩ := h
  have k1 : ∀ k, k < s1 → W1.heap[k]? = W.heap[k]? := fun k hk => (hg.block k (by simp; omega) fun e => by have := (hown.lt k e.symm).1; omega).trans (heap_alloc_old W o k (by omega))
  have k2 : ∀ k, k ≠ w.heap.size + 3 → (W1.setCell ⟨w.heap.size + 3, 0, none⟩ v').heap[k]? = W1.heap[k]? := fun k hk => heap_setCell_other W1 ⟨w.heap.size + 3, 0, none⟩ k _ hk
  have kk : ∀ k, k ≠ w.heap.size + 3 → k < s1 → (W1.setCell ⟨w.heap.size + 3, 0, none⟩ v').heap[k]? = W.heap[k]? := fun k a b => (k2 k a).trans (k1 k b)
  have z1 : (W.alloc o).heap.size ≤ W1.heap.size := hg.size
  rw [World.size_alloc] at z1
  have hB1 : Below w.heap.size w W1 := (hB.alloc hB.size o).grown hg (by have := hB.size; simp; omega) (fun j e => by have := (hown.lt j e).1; omega)
  refine ⟨⟨(kk _ (by omega) (by omega)).trans h0, ⟨y, (kk _ (by omega) (by omega)).trans h1⟩, (kk _ (by omega) (by omega)).trans h2, ⟨v', ?_, ?_⟩, ?_, hB1.setCell (show w.heap.size ≤ w.heap.size + 3 by omega) _⟩, ?_, fun k ha hb => kk k (by omega) (by omega)⟩
  · exact heap_setCell_same W1 _ 0 _ 30 v' ((k1 _ (by omega)).trans h3)
  · have := ownsRow_setCell_below hown' (a := ⟨w.heap.size + 3, 0, none⟩) (show w.heap.size + 3 < s1 by omega) v'
    simpa using this
  · simp [World.setCell]; omega
  · refine ((KeepsOthers.alloc W o).trans (KeepsOthers.of_grownBy hg fun j ob e hj => ?_)).trans (KeepsOthers.setCell _ _ _)
    have hlt := hown.lt j e
    rw [heap_alloc_old W o j hlt.2] at hj
    rcases hown.2 with ⟨ev, _⟩ | ⟨g, cap, cur, ev, _, hh, _⟩
    · rw [ev] at e; cases e
    · rw [ev] at e
      injection e with e
      subst e
      rw [hh] at hj; cases hj; rfl
theorem nums_snoc {ws : List (List UInt8)} {ms : List Nat} (w : List UInt8) (h : Tx.nums ws = some ms) : Tx.nums (ws ++ [w]) = (Tx.num w).map (fun n => ms ++ [n]) := by
  induction ws generalizing ms with
  | nil => simp [Tx.nums] at h; subst h; simp only [List.nil_append, Tx.nums]; cases Tx.num w <;> rfl
  | cons v ws ih =>
    simp only [Tx.nums] at h
    split at h
    · rename_i n hn
      obtain ⟨ms', h1, rfl⟩ := Option.map_eq_some_iff.1 h
      simp only [List.cons_append, Tx.nums, hn, ih h1]
      cases Tx.num w <;> rfl
    · cases h
theorem nums_prefix {ws vs : List (List UInt8)} (h : Tx.nums ws = none) : Tx.nums (ws ++ vs) = none := by
  induction ws with
  | nil => simp [Tx.nums] at h
  | cons v ws ih =>
    simp only [Tx.nums] at h
    simp only [List.cons_append, Tx.nums]
    split at h
    · rw [ih (Option.map_eq_none_iff.1 h)]
      rfl
    · rfl
theorem split_len : ∀ l : List UInt8, (Tx.split l).length ≤ l.length + 1
  | [] => by simp [Tx.split]
  | c :: l => by
    have := split_len l
    unfold Tx.split
    split
    · simp; omega
    · cases h : Tx.split l with
      | nil => simp
      | cons w ws => rw [h] at this; simp at this ⊢; omega
theorem Tryz.info3' : (Tryz.prog.info? 3).map (fun i => (i.zero, i.size, i.bytes)) = some (some (.int .i64 0), 1, 8) := Tryz.info3
/-- what Parse hands back -/
def Parsed (w : World) (l : List UInt8) (e : Ending) (w' : World) : Prop :=
  (∃ (sd : Nat) (ns : List Nat) (v : Value), Tx.parse l = some (sd, ns) ∧ e = .returned (.tuple #[.agg #[v, .int .i64 sd], .int .i64 0]) ∧ Nums w' v (ints ns) ∧ Below w.heap.size w w') ∨
  (Tx.parse l = none ∧ e = .returned (.tuple #[.agg #[.slice none 0 0, .int .i64 0], .int .i64 50]) ∧ Below w.heap.size w w')

theorem res11 {tmps : Array Value} {w : World} {g : Nat} {a b u : Value} (hp : tmps.getD 2 undef = .pointer (some ⟨g, 0, none⟩)) (hu : tmps.getD 3 undef = u) (h0 : w.cell? ⟨g, 0, none⟩ = some a) (h1 : w.cell? ⟨g, 1, none⟩ = some b) :
    (results Tryz.f11 tmps).run Tryz.prog w = .ok (.tuple #[.agg #[a, b], u]) w := by
  rw [results_cell_tmp rfl, hp, hu]
  simp [asAddr, go_sem, h0, h1]
theorem parse_end {tmps : Array Value} {w : World} {g : Nat} {a b u : Value} {R : Ending → World → Prop} (hp : tmps.getD 2 undef = .pointer (some ⟨g, 0, none⟩)) (hu : tmps.getD 3 undef = u) (h0 : w.cell? ⟨g, 0, none⟩ = some a) (h1 : w.cell? ⟨g, 1, none⟩ = some b)
    (hR : R (.returned (.tuple #[.agg #[a, b], u])) w) : bodyPostM Fence.wide 3 Tryz.prog Tryz.f11 R .ret { tmps := tmps, defers := [] } w := ⟨_, res11 hp hu h0 h1, hR⟩

theorem nums_row {W : World} {base : Nat} {v : Value} {ms : List Nat} (h : W.ownsRow base 3 1 v ms.length ((ints ms).map (Value.int .i64))) : Nums W v (ints ms) := by
  rcases h.2 with ⟨rfl, h0⟩ | ⟨g, cap, cur, rfl, hg, hh, _⟩
  · rw [List.length_eq_zero_iff.1 h0]
    exact ⟨none, 0, rfl, fun h => absurd rfl h⟩
  · refine ⟨some ⟨g, 0, none⟩, cap, by simp, fun _ => ⟨g, 0, rfl, (Array.getElem?_eq_some_iff.1 hh).1, fun j hj => ?_⟩⟩
    have := h.cells (g := g) rfl j (.int .i64 ((ints ms).getD j 0)) (by
      rw [List.getElem?_map, List.getElem?_eq_getElem hj, List.getD_eq_getElem?_getD, List.getElem?_eq_getElem hj]; rfl)
    rcases Nat.eq_zero_or_pos j with rfl | h0
    · simpa [Addr.add] using this
    · simpa [Addr.add, Nat.pos_iff_ne_zero.1 h0] using this
theorem set_two {W : World} {s0 : Nat} {a b a' b' : Value} {t : TypeId} (h0 : W.heap[s0]? = some (.cells #[a, b] t (0, 0))) :
    ((W.setCell ⟨s0, 0, none⟩ a').setCell ⟨s0, 1, none⟩ b').heap[s0]? = some (.cells #[a', b'] t (0, 0)) :=
  heap_setCell_same _ s0 1 _ t b' (heap_setCell_same W s0 0 _ t a' h0)
/-- the end behind the loop: the result's two cells are stored, the rounds' block is taken -/
theorem loop_end {w W : World} {s0 D : Nat} {a b a' b' : Value} (hs0 : w.heap.size = s0) (h0 : W.heap[s0]? = some (.cells #[a, b] 30 (0, 0))) (hK : W.heap[D]? = some (.deferred (some []))) (hD : s0 < D) (hB : Below w.heap.size w W)
    {base n : Nat} {v : Value} {xs : List Value} (hown : W.ownsRow base 3 1 v n xs) (hbase : s0 < base) :
    ((W.setCell ⟨s0, 0, none⟩ a').setCell ⟨s0, 1, none⟩ b').heap[D]? = some (.deferred (some [])) ∧
    ((((W.setCell ⟨s0, 0, none⟩ a').setCell ⟨s0, 1, none⟩ b').putObj D (.deferred none)).cell? ⟨s0, 0, none⟩ = some a') ∧
    ((((W.setCell ⟨s0, 0, none⟩ a').setCell ⟨s0, 1, none⟩ b').putObj D (.deferred none)).cell? ⟨s0, 1, none⟩ = some b') ∧
    Below w.heap.size w (((W.setCell ⟨s0, 0, none⟩ a').setCell ⟨s0, 1, none⟩ b').putObj D (.deferred none)) ∧
    (((W.setCell ⟨s0, 0, none⟩ a').setCell ⟨s0, 1, none⟩ b').putObj D (.deferred none)).ownsRow base 3 1 v n xs := by
  have k1 : ((W.setCell ⟨s0, 0, none⟩ a').setCell ⟨s0, 1, none⟩ b').heap[D]? = some (.deferred (some [])) :=
    (heap_setCell_other _ ⟨s0, 1, none⟩ D _ (show D ≠ s0 by omega)).trans ((heap_setCell_other _ ⟨s0, 0, none⟩ D _ (show D ≠ s0 by omega)).trans hK)
  have k2 : (((W.setCell ⟨s0, 0, none⟩ a').setCell ⟨s0, 1, none⟩ b').putObj D (.deferred none)).heap[s0]? = some (.cells #[a', b'] 30 (0, 0)) :=
    (World.putObj_heap_other (by omega)).trans (set_two h0)
  have hB' := (hB.setCell (show w.heap.size ≤ (⟨s0, 0, none⟩ : Addr).block from by show w.heap.size ≤ s0; omega) a').setCell (show w.heap.size ≤ (⟨s0, 1, none⟩ : Addr).block from by show w.heap.size ≤ s0; omega) b'
  refine ⟨k1, by simp [World.cell?, k2], by simp [World.cell?, k2], hB'.grown (grownBy_putObj' _ D _) hB'.size (fun k e => by cases e; omega), ?_⟩
  exact ownsRow_putObj (ownsRow_setCell_below (ownsRow_setCell_below hown (a := ⟨s0, 0, none⟩) hbase a') (a := ⟨s0, 1, none⟩) hbase b') _ k1 rfl
theorem leaves_one {fn : Func} {tmps : Array Value} {R : Ending → World → Prop} {D : Nat} {w : World} (hK : w.heap[D]? = some (.deferred (some [])))
    (h : ∃ v, (results fn tmps).run Tryz.prog (w.putObj D (.deferred none)) = .ok v (w.putObj D (.deferred none)) ∧ R (.returned v) (w.putObj D (.deferred none))) :
    bodyPostM Fence.wide 3 Tryz.prog fn R .ret { tmps := tmps, defers := [{ target := .collected D, args := #[] }] } w :=
  ⟨by simp, .inl ⟨_, _, rfl, run_takeDeferred hK, h⟩⟩

set_option maxRecDepth 100000 in
set_option maxHeartbeats 1600000 in
theorem parse_walk (s : ByteArray) (m : Int) (w : World) (hs : s.size ≤ 1000000) (hm : w.cell? ⟨1, 0, none⟩ = some (.int .i64 m)) (hw1 : 1 < w.heap.size) :
    CallsIn Fence.wide 3 Tryz.prog 11 #[.string s] w (Parsed w s.data.toList) := by
  have hl : s.data.toList.length = s.size := Array.length_toList
  have hcs : (Lib.cut s.data.toList [32]).1.length ≤ 1000000 := by
    cases h : (Lib.cut s.data.toList [32]).2.2
    · have := (cut_less h).2; omega
    · have := (cut_more h).2.1; omega
  have HL := Lib.hid hl
  have HCS := Lib.hid hcs
  clear hl hcs
  refine callsIn_of_wp_marks Tryz.func11 rfl trivial ?_ rfl
  simp only [Tryz.ntmps11, List.size_toArray, List.length_cons, List.length_nil, Nat.reduceAdd, Nat.reduceSub, Array.replicate_succ, Array.replicate_zero, List.push_toArray, List.append_toArray, List.nil_append, List.cons_append]
  gi_wp2
  refine ⟨trivial, (callsIn_wide.2 (Tryz.strings_Cut s ⟨#[32]⟩ m _ (by omega) ((World.cell?_alloc_past _ _ _ hw1).trans hm))).mono ?_⟩
  rintro e w1 ⟨rfl, n1, rfl⟩
  have HM : Hid ((Lib.cut s.data.toList [32]).2.2 = true → _) := Lib.hid (@cut_more s.data.toList)
  have HN : Hid ((Lib.cut s.data.toList [32]).2.2 = false → _) := Lib.hid (@cut_less s.data.toList)
  generalize (Lib.cut s.data.toList [32]).1 = f at *
  generalize (Lib.cut s.data.toList [32]).2.1 = r at *
  generalize (Lib.cut s.data.toList [32]).2.2 = more at *
  gi_wp2
  refine ⟨trivial, (callsIn_wide.2 (number_mk f _ HCS.out)).mono ?_⟩
  rintro e w1 ⟨rfl, rfl⟩
  cases hok : numB f with
  | false =>
    have hn0 := numN_no hok
    have HK := Lib.hid hok
    rw [hn0]
    clear hok hn0
    gi_wp2
    refine parse_end rfl rfl (a := .slice none 0 0) (b := .int .i64 0) (by go_simp) (by go_simp) (.inr ⟨?_, rfl, ?_⟩)
    · obtain ⟨ws, hws⟩ := split_cons HM.out HN.out
      exact parse_no hws HK.out
    · exact below0 w n1 _ _ _ _ _ _
  | true =>
    have HK := Lib.hid hok
    clear hok
    generalize hnf : numN f = n0
    have HNF := Lib.hid hnf
    clear hnf
    cases hmore : more with
    | false =>
      have HP : Hid (Tx.parse s.data.toList = some (n0, [])) := Lib.hid (by rw [← HNF.out]; exact parse_one (HN.out hmore).1 HK.out)
      subst hmore
      clear HM HN
      gi_wp2
      refine parse_end rfl rfl (a := .slice none 0 0) (b := .int .i64 n0) (by go_simp) (by go_simp) (.inl ⟨n0, [], _, HP.out, rfl, ⟨none, 0, rfl, fun h => absurd rfl h⟩, ?_⟩)
      exact below0 w n1 _ _ _ _ _ _
    | true =>
      have HP : Hid (Tx.parse s.data.toList = (Tx.nums (Tx.split r)).map (fun ms => (n0, ms))) := Lib.hid (by rw [parse_cons (HM.out hmore).1, num_of HK.out, HNF.out])
      have HR : Hid (r.length ≤ 1000000) := Lib.hid (by have := (HM.out hmore).2.2; have := HL.out; omega)
      subst hmore
      clear HM HN
      gi_wp2
      obtain ⟨k0, k1, k2, k3, kz, B0⟩ := heap4 w n1 (.cells #[.slice none 0 0, .int .i64 0] 30) (.cells #[.int .i64 n0] 3) (.cells #[.bool true] 4) (.cells #[.slice none 0 0, .int .i64 n0] 30)
      generalize ((((w.alloc (.cells #[.slice none 0 0, .int .i64 0] 30)).drewN n1).alloc (.cells #[.int .i64 n0] 3)).alloc (.cells #[.bool true] 4)).alloc (.cells #[.slice none 0 0, .int .i64 n0] 30) = W0 at *
      have k0 := Lib.hid k0
      have k1 := Lib.hid k1
      have k2 := Lib.hid k2
      have k3 := Lib.hid k3
      refine ⟨trivial, (callsIn_wide.2 (splitSeq_top ⟨r.toArray⟩ W0)).mono ?_⟩
      rintro e w1 ⟨rfl, rfl⟩
      gi_wp2
      obtain ⟨j0, j1, j2, jz, jB⟩ := heap3 W0 (.cells #[.string ⟨r.toArray⟩] 9) (.cells #[.string ⟨#[32]⟩] 9) (.cells #[.int .i64 0] 3)
      have hV : Vars w (three W0 ⟨r.toArray⟩).heap.size n0 true [] (three W0 ⟨r.toArray⟩) := by
        refine ⟨(jB.block _ (by omega)).trans k0.out, ⟨n0, (jB.block _ (by omega)).trans k1.out⟩, (jB.block _ (by omega)).trans k2.out, ⟨_, (jB.block _ (by omega)).trans k3.out, World.ownsRow_nil _ _ _ _⟩, Nat.le_refl _, B0.trans (jB.mono (by omega))⟩
      have hz1 : (three W0 ⟨r.toArray⟩).heap.size = w.heap.size + 7 := by rw [jz, kz]
      rw [kz] at j0 j1 j2
      obtain ⟨W1, hW1⟩ : ∃ W1, three W0 ⟨r.toArray⟩ = W1 := ⟨_, rfl⟩
      have j0 : W1.heap[w.heap.size + 4]? = some (.cells #[.string ⟨r.toArray⟩] 9 (0, 0)) := by rw [← hW1]; exact j0
      have j1 : W1.heap[w.heap.size + 4 + 1]? = some (.cells #[.string ⟨#[32]⟩] 9 (0, 0)) := by rw [← hW1]; exact j1
      have j2 : W1.heap[w.heap.size + 4 + 2]? = some (.cells #[.int .i64 0] 3 (0, 0)) := by rw [← hW1]; exact j2
      rw [hW1] at hV hz1 ⊢
      clear jz jB hW1
      obtain ⟨i0, hi, hz0', hz1', hz2'⟩ := info_parts Tryz.info3
      unfold iterV
      rw [kz]
      have HV := Lib.hid hV
      have HJ0 := Lib.hid j0
      have HJ1 := Lib.hid j1
      have HJ2 := Lib.hid j2
      clear hV j0 j1 j2 k0 k1 k2 k3
      have lr : (⟨r.toArray⟩ : ByteArray).size ≤ 1000000 := by show r.toArray.size ≤ _; rw [List.size_toArray]; exact HR.out
      refine wpIn_rangeFunc_ownC (w := W1) (cb := w.heap.size + 4) (by omega) rfl (by omega) (gf := 158) (lb := #[.pointer (some ⟨w.heap.size + 4 + 1, 0, none⟩), .pointer (some ⟨w.heap.size + 4, 0, none⟩), .pointer (some ⟨w.heap.size + 4 + 2, 0, none⟩)]) rfl trivial
        (enters_of Tryz.func158 (by kernel_rfl) rfl)
        (split_stops Fence.wide 2 trivial trivial rfl (by omega) (w.heap.size + 4) ⟨r.toArray⟩ W1 lr (fun x w => callsIn_wide.2 ((Tryz.strings_Index_one x 32 w).mono fun _ _ h => ⟨h.1, h.2.symm⟩)) HJ0.out HJ1.out HJ2.out)
        kpAt_t (fun W l o o' h1 h2 _ _ k hk1 hk2 => World.putObj_heap_other (by omega)) (Below.refl _ _) (fun _ => rfl)
        (fun pre W => ∃ ms, Tx.nums (pre.map (·.1.data.toList)) = some ms ∧ ms.length = pre.length ∧ Vars w W1.heap.size n0 true ms W)
        (fun c pre W => c = .exit 0 ∧ Tx.nums (pre.map (·.1.data.toList)) = none ∧ ∃ ms, Vars w W1.heap.size n0 false ms W)
        (fun s A B row ⟨ms, h1, h2, h3⟩ hg hr => ⟨ms, h1, h2, h3.turn (Nat.le_refl _) (by omega) hg hr⟩)
        (fun c s A B row ⟨h1, h2, ms, h3⟩ hg hr => ⟨h1, h2, ms, h3.turn (Nat.le_refl _) (by omega) hg hr⟩)
        ⟨[], rfl, rfl, HV.out⟩
        (fun x => { tmps := #[.string s, undef, .pointer (some ⟨w.heap.size, 0, none⟩), .int .i64 0, .string ⟨f.toArray⟩, .string ⟨r.toArray⟩, .bool true, .pointer (some ⟨w.heap.size + 1, 0, none⟩), .pointer (some ⟨w.heap.size + 2, 0, none⟩), .pointer (some ⟨w.heap.size + 3, 0, none⟩), .string x.1,
          .tuple #[.string ⟨f.toArray⟩, .string ⟨r.toArray⟩, .bool true], .string s, .tuple #[.string ⟨f.toArray⟩, .string ⟨r.toArray⟩, .bool true], .string ⟨f.toArray⟩, .string ⟨r.toArray⟩, .bool true, .tuple #[.int .i64 n0, .bool true], .string ⟨f.toArray⟩, .tuple #[.int .i64 n0, .bool true], .int .i64 n0, .bool true,
          .int .i64 n0, .agg #[.slice none 0 0, .int .i64 n0], .bool true, .bool true, .bool true, .bool true, .string ⟨r.toArray⟩, .func (.func 158) #[] #[.pointer (some ⟨w.heap.size + 4 + 1, 0, none⟩), .pointer (some ⟨w.heap.size + 4, 0, none⟩), .pointer (some ⟨w.heap.size + 4 + 2, 0, none⟩)], .string x.1,
          undef, undef, undef, undef, undef, undef, undef, undef, undef, undef, undef, undef, undef, undef, undef, undef, undef], defers := [] }) ?assign ?body ?done ?stop
      case assign =>
        intro l x W K hK
        simp only [enc1]
        gi_wp2
        exact hK
      case body =>
        rintro l pre x W ⟨ms, hn, hlen, hV⟩ hlt
        have hml : ms.length ≤ 10000000 := by have h1 := split_len r; have h2 := HR.out; have h3 : (Tx.split r).length = (Tx.split (⟨r.toArray⟩ : ByteArray).data.toList).length := rfl; omega
        have HLN := Lib.hid hlen
        have HZ1 := Lib.hid hz1
        have hz7 : w.heap.size + 7 ≤ W1.heap.size := by omega
        clear hlen hz1
        have hV1 := (hV.setN (by omega) (numN x.1.data.toList : Nat)).setOk (by omega) (numB x.1.data.toList)
        have hK1 : KeepsOthers W ((W.setCell ⟨w.heap.size + 1, 0, none⟩ (.int .i64 (numN x.1.data.toList : Nat))).setCell ⟨w.heap.size + 2, 0, none⟩ (.bool (numB x.1.data.toList))) := (KeepsOthers.setCell _ _ _).trans (KeepsOthers.setCell _ _ _)
        have hP1 : KpAt (w.heap.size + 4) W ((W.setCell ⟨w.heap.size + 1, 0, none⟩ (.int .i64 (numN x.1.data.toList : Nat))).setCell ⟨w.heap.size + 2, 0, none⟩ (.bool (numB x.1.data.toList))) := fun k ha hb =>
          (heap_setCell_other _ ⟨w.heap.size + 2, 0, none⟩ k _ (show k ≠ w.heap.size + 2 by omega)).trans (heap_setCell_other _ ⟨w.heap.size + 1, 0, none⟩ k _ (show k ≠ w.heap.size + 1 by omega))
        have HV1 := Lib.hid hV1
        have HK1 := Lib.hid hK1
        have HP1 := Lib.hid hP1
        obtain ⟨h0, ⟨y, h1⟩, h2, ⟨v, h3, hown⟩, hs, hB⟩ := hV
        obtain ⟨c1, f1⟩ := one_cell h1
        obtain ⟨c2, f2⟩ := one_cell h2
        have hx := x.2
        clear h0 h1 h2 h3 hown hV1 hK1 hP1
        gi_wp2
        refine ⟨trivial, (CallsIn.inRound l (callsIn_wide.2 (number_two x.1 W hx))).mono ?_⟩
        rintro e w' ⟨rfl, rfl⟩
        have HE : Hid ((pre ++ [x]).map (·.1.data.toList) = pre.map (·.1.data.toList) ++ [x.1.data.toList]) := Lib.hid (by simp)
        generalize x.1.data.toList = xl at *
        cases hok : numB xl with
        | false =>
          rw [hok] at HV1 HK1 HP1
          have HNO := Lib.hid hok
          clear hok
          gi_wp2
          exact ⟨HK1.out, rfl, by rw [HE.out, nums_snoc _ hn, num_no HNO.out]; rfl, ms, HV1.out⟩
        | true =>
          rw [hok] at HV1 HK1 HP1
          have HYES := Lib.hid hok
          clear hok
          obtain ⟨_, _, _, ⟨v, g3, hown2⟩, gs, gB⟩ := HV1.out
          have g3' : W.heap[w.heap.size + 3]? = some (.cells #[v, .int .i64 n0] 30 (0, 0)) := by
            rw [← g3, heap_setCell_other _ ⟨w.heap.size + 2, 0, none⟩ _ _ (show w.heap.size + 3 ≠ w.heap.size + 2 by omega), heap_setCell_other _ ⟨w.heap.size + 1, 0, none⟩ _ _ (show w.heap.size + 3 ≠ w.heap.size + 1 by omega)]
          have c3 : W.cell? ⟨w.heap.size + 3, 0, none⟩ = some v := by simp [World.cell?, g3']
          have f3 : W.frozen? ⟨w.heap.size + 3, 0, none⟩ = false := by simp [World.frozen?, g3']
          have G3 := Lib.hid g3
          have HO := Lib.hid hown2
          clear g3 g3' hown2
          gi_wp2_with (gi_at_builtin; refine wpListIn_append_own _ rfl _ _ 25 rfl W1.heap.size 3 i0 (.int .i64 0) 1 8 Tryz.underlying25 hi hz0' hz1' hz2' rfl (by decide) _ _ _ rfl (HO.out.alloc _) ⟨W.heap.size, 0, none⟩ 1 1 [.int .i64 (numN xl : Nat)] rfl rfl ?c1 ?c2 ?c3 ?c4 ?c5 ?_)
          case c1 =>
            intro j u hj
            have := cell_one_new ((W.setCell ⟨w.heap.size + 1, 0, none⟩ (.int .i64 (numN xl : Nat))).setCell ⟨w.heap.size + 2, 0, none⟩ (.bool true)) (.int .i64 (numN xl : Nat)) 3 j u hj
            simpa using this
          case c2 => intro u hu; simp at hu; subst hu; rfl
          case c3 => unfold maxLen; omega
          case c4 => omega
          case c5 => simp only [World.size_alloc]; omega
          intro v' w1 hown' hgrow _
          have e3 : w1.heap[w.heap.size + 3]? = some (.cells #[v, .int .i64 n0] 30 (0, 0)) :=
            (hgrow.block _ (by simp only [World.size_alloc]; omega) (fun e => by have := (HO.out.lt _ e.symm).1; omega)).trans ((heap_alloc_old _ _ _ (by omega)).trans G3.out)
          have A := HV1.out.app (n := numN xl) hz7 G3.out HO.out (by simpa using hown') hgrow
          obtain ⟨g', cap', rfl⟩ := ownsRow_succ hown'
          have d3 : w1.cell? ⟨w.heap.size + 3, 0, none⟩ = some v := by simp [World.cell?, e3]
          have q3 : w1.frozen? ⟨w.heap.size + 3, 0, none⟩ = false := by simp [World.frozen?, e3]
          have HA := Lib.hid A
          clear A e3 hown' hgrow
          gi_wp2
          exact ⟨HK1.out.trans HA.out.2.1, kpAt_t HP1.out HA.out.2.2, ms ++ [numN xl], by rw [HE.out, nums_snoc _ hn, num_of HYES.out]; rfl, by simp [HLN.out], HA.out.1⟩
      case done =>
        rintro D ys W hD hS ⟨ms, hn, hlen, hV⟩ hK
        obtain ⟨h0, ⟨y, h1⟩, h2, ⟨v, h3, hown⟩, hs, hB⟩ := hV
        have hys : ys.map (·.1.data.toList) = Tx.split r := hS
        have HR' : Hid (Tx.parse s.data.toList = some (n0, ms)) := Lib.hid (by rw [HP.out, ← hys, hn]; rfl)
        have r0 : W.cell? ⟨w.heap.size, 0, none⟩ = some (.slice none 0 0) := by simp [World.cell?, h0]
        have r1 : W.cell? ⟨w.heap.size, 1, none⟩ = some (.int .i64 0) := by simp [World.cell?, h0]
        have q0 : W.frozen? ⟨w.heap.size, 0, none⟩ = false := by simp [World.frozen?, h0]
        have q1 : W.frozen? ⟨w.heap.size, 1, none⟩ = false := by simp [World.frozen?, h0]
        obtain ⟨c2, f2⟩ := one_cell h2
        have c3 : W.cell? ⟨w.heap.size + 3, 0, none⟩ = some v := by simp [World.cell?, h3]
        have c4 : W.cell? ⟨w.heap.size + 3, 1, none⟩ = some (.int .i64 n0) := by simp [World.cell?, h3]
        have HK' := Lib.hid hK
        have HO := Lib.hid hown
        have H0 := Lib.hid h0
        have HZ1 := Lib.hid hz1
        have hz7 : w.heap.size + 7 ≤ W1.heap.size := by omega
        obtain ⟨a, c, rfl⟩ : ∃ a c, v = .slice a ms.length c := by
          rcases hown.2 with ⟨e, e0⟩ | ⟨g, cap, cur, e, _⟩
          · exact ⟨none, 0, by rw [e, e0]⟩
          · exact ⟨_, _, e⟩
        clear h0 h1 h2 h3 hown hys hK hz1 hlen hn
        gi_wp2
        obtain ⟨e1, e2, e3, e4, e5⟩ := loop_end (a' := .slice a ms.length c) (b' := .int .i64 n0) rfl H0.out HK'.out (by omega) hB HO.out (by omega)
        exact leaves_one e1 ⟨_, res11 (g := w.heap.size) rfl rfl e2 e3, .inl ⟨n0, ms, _, HR'.out, rfl, nums_row e5, e4⟩⟩
      case stop =>
        rintro D c pre W hD hS ⟨rfl, hnone, ms, hV⟩ hK
        obtain ⟨h0, ⟨y, h1⟩, h2, ⟨v, h3, hown⟩, hs, hB⟩ := hV
        obtain ⟨t, ht⟩ := hS
        have hR' : Hid (Tx.parse s.data.toList = none) := Lib.hid (by
          have e : Tx.split r = pre.map (·.1.data.toList) ++ t := ht.symm
          rw [HP.out, e, nums_prefix hnone]; rfl)
        have r0 : W.cell? ⟨w.heap.size, 0, none⟩ = some (.slice none 0 0) := by simp [World.cell?, h0]
        have r1 : W.cell? ⟨w.heap.size, 1, none⟩ = some (.int .i64 0) := by simp [World.cell?, h0]
        have q0 : W.frozen? ⟨w.heap.size, 0, none⟩ = false := by simp [World.frozen?, h0]
        have q1 : W.frozen? ⟨w.heap.size, 1, none⟩ = false := by simp [World.frozen?, h0]
        obtain ⟨c2, f2⟩ := one_cell h2
        have HK' := Lib.hid hK
        have HO := Lib.hid hown
        have H0 := Lib.hid h0
        have HZ1 := Lib.hid hz1
        have hz7 : w.heap.size + 7 ≤ W1.heap.size := by omega
        clear h0 h1 h2 h3 hown hK hz1 ht hnone
        gi_wp2
        obtain ⟨e1, e2, e3, e4, e5⟩ := loop_end (a' := .slice none 0 0) (b' := .int .i64 0) rfl H0.out HK'.out (by omega) hB HO.out (by omega)
        exact leaves_one e1 ⟨_, res11 (g := w.heap.size) rfl rfl e2 e3, .inr ⟨hR'.out, rfl, e4⟩⟩
/-- Parse -/
theorem parse_any (s : ByteArray) (m : Int) (w : World) (hs : s.size ≤ 1000000) (hm : w.cell? ⟨1, 0, none⟩ = some (.int .i64 m)) (hw1 : 1 < w.heap.size) : Calls Tryz.prog 11 #[.string s] w (Parsed w s.data.toList) :=
  callsIn_wide.1 (parse_walk s m w hs hm hw1)
end Go.Proofs.YtckdgniecdfedaaGreatDoor
