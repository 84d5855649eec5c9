/- The walk of the writer's formulas. -/
import Derived.Test.YtckdgniecdfedaaGreatDoorMgB
import Derived.Test.YtckdgniecdfedaaGreatDoorMgG
import Derived.Deep.Cut
import Derived.Maps.AppendAt
section
/- The stack of formulas that are still to be written. -/
namespace Go.Proofs.YtckdgniecdfedaaGreatDoor
open Go.RowKit

/-- a slice of formulas that can be read: it lies below w0's end, or it is one formula in a block that is kept -/
def FArg (w0 : World) (K : List (Nat × Obj)) (v : Value) (f : Fs) : Prop :=
  FV w0 v f ∨ ∃ (B c : Nat) (op : Int) (nm : ByteArray) (x bd : Int) (a : Option Addr) (c' : Nat) (args : Fs), v = .slice (some ⟨B, 0, none⟩) 1 c ∧ 1 ≤ c ∧
    (B, Obj.cells #[.int .i64 op, .string nm, .int .i64 x, .int .i64 bd, .slice a args.len c'] 48 (0, 0)) ∈ K ∧ f = .cons op nm x bd args .nil ∧ nm.size ≤ 9223372036854775807 ∧ FV w0 (.slice a args.len c') args
theorem FArg.len {w0 : World} {K : List (Nat × Obj)} {v : Value} {f : Fs} (h : FArg w0 K v f) : f.len ≤ 9223372036854775807 ∧ ∃ a c, v = .slice a f.len c ∧ f.len ≤ c := by
  rcases h with ⟨hl, a, c, e, hc, _⟩ | ⟨B, c, op, nm, x, bd, a, c', args, e, hc, _, rfl, _⟩
  · exact ⟨hl, a, c, e, hc⟩
  · exact ⟨by simp [Fs.len], some ⟨B, 0, none⟩, c, by rw [e]; simp [Fs.len], by simpa [Fs.len] using hc⟩
theorem FArg.more {w0 : World} {K : List (Nat × Obj)} {v : Value} {f : Fs} (h : FArg w0 K v f) (p : Nat × Obj) : FArg w0 (p :: K) v f := by
  rcases h with h | ⟨B, c, op, nm, x, bd, a, c', args, e, hc, hm, h⟩
  · exact .inl h
  · exact .inr ⟨B, c, op, nm, x, bd, a, c', args, e, hc, List.mem_cons_of_mem _ hm, h⟩
theorem FArg.zero {w0 : World} {K : List (Nat × Obj)} (a : Option Addr) (c : Nat) : FArg w0 K (.slice a 0 c) .nil := .inl ⟨by simp [Fs.len], a, c, rfl, Nat.zero_le _, fun h => absurd rfl h⟩

/-- the j-th formula of a readable slice -/
theorem FArg.read {w0 : World} {wb : Nat} {w : World} {L : List Int} {n : Nat} {P : Prop} {K : List (Nat × Obj)} (h : Wr w0 wb w L n P K) {v : Value} {f : Fs} (ha : FArg w0 K v f) (j : Nat) {op x bd : Int} {nm : ByteArray} {args rest : Fs}
    (hj : f.drop j = .cons op nm x bd args rest) :
    ∃ b o c, v = .slice (some ⟨b, o, none⟩) f.len c ∧ f.len ≤ c ∧ w.cell? ⟨b, o + j * 5, none⟩ = some (.int .i64 op) ∧ w.cell? ⟨b, o + j * 5 + 1, none⟩ = some (.string nm) ∧ nm.size ≤ 9223372036854775807 ∧ w.cell? ⟨b, o + j * 5 + 2, none⟩ = some (.int .i64 x) ∧ w.cell? ⟨b, o + j * 5 + 3, none⟩ = some (.int .i64 bd) ∧
      args.len ≤ 9223372036854775807 ∧ (∃ a c', w.cell? ⟨b, o + j * 5 + 4, none⟩ = some (.slice a args.len c') ∧ FArg w0 K (.slice a args.len c') args) ∧ (∀ c', rest.len ≤ c' → FArg w0 K (.slice (some ⟨b, o + (j + 1) * 5, none⟩) rest.len c') rest) ∧ (∀ c', 1 ≤ c' → FArg w0 K (.slice (some ⟨b, o + j * 5, none⟩) 1 c') (.cons op nm x bd args .nil)) := by
  rcases ha with ⟨hl, a, c, e, hc, hv⟩ | ⟨B, c, op', nm', x', bd', a, c', args', e, hc, hm, rfl, hnm, hA⟩
  · have hdl := Fs.drop_len f j
    rw [hj] at hdl
    simp only [Fs.len] at hdl
    have hrl : rest.len ≤ 9223372036854775807 := by omega
    obtain ⟨b, o, rfl, hb, hat⟩ := hv (by omega)
    have h1 := FAt.drop j hat
    have h2 := FAt.drop (j + 1) hat
    rw [hj] at h1
    rw [Fs.drop_succ hj] at h2
    obtain ⟨c0, c1, c2, c3, c4, c5, ⟨a, c', c6, cc, c7⟩, c8⟩ := h1
    have k : ∀ i, w.cell? ⟨b, i, Option.none⟩ = w0.cell? ⟨b, i, Option.none⟩ := fun i => h.below.cell (p := ⟨b, i, Option.none⟩) hb
    refine ⟨b, o, c, e, hc, (k _).trans c0, (k _).trans c1, c2, (k _).trans c3, (k _).trans c4, c5, ⟨a, c', (k _).trans c6, .inl ⟨c5, a, c', rfl, cc, c7⟩⟩, fun c'' h'' => .inl ⟨hrl, _, c'', rfl, h'', fun _ => ⟨b, _, rfl, hb, h2⟩⟩, fun c'' h'' => .inl ⟨by simp [Fs.len], _, c'', by simp [Fs.len], h'', fun _ => ⟨b, _, rfl, hb, c0, c1, c2, c3, c4, c5, ⟨a, c', c6, cc, c7⟩, trivial⟩⟩⟩
  · cases j with
    | succ j => cases j <;> simp [Fs.drop] at hj
    | zero =>
      simp only [Fs.drop, Fs.cons.injEq] at hj
      obtain ⟨rfl, rfl, rfl, rfl, rfl, rfl⟩ := hj
      have hk := (h.kept _ hm).2
      have hk : w.heap[B]? = some (Obj.cells #[.int .i64 op', .string nm', .int .i64 x', .int .i64 bd', .slice a args'.len c'] 48 (0, 0)) := hk
      refine ⟨B, 0, c, by rw [e]; simp [Fs.len], by simpa [Fs.len] using hc, by simp [World.cell?, hk], by simp [World.cell?, hk], hnm, by simp [World.cell?, hk], by simp [World.cell?, hk], hA.1, ⟨a, c', by simp [World.cell?, hk], .inl hA⟩, fun c'' _ => FArg.zero _ _, fun c'' h'' => .inr ⟨B, c'', _, _, _, _, a, c', args', by simp, h'', hm, rfl, hnm, hA⟩⟩

/-- the numbers of a stack of forests, its top at the list's end -/
def stc : List Fs → List Int
  | [] => []
  | f :: r => stc r ++ f.code
def stn : List Fs → Nat
  | [] => 0
  | f :: r => stn r + f.nodes
theorem stc_snoc (S : List Fs) (f : Fs) : stc (S ++ [f]) = f.code ++ stc S := by
  induction S with
  | nil => simp [stc]
  | cons a S ih => simp [stc, ih]
theorem stn_snoc (S : List Fs) (f : Fs) : stn (S ++ [f]) = f.nodes + stn S := by
  induction S with
  | nil => simp [stn]
  | cons a S ih => simp only [List.cons_append, stn, ih]; omega
/-- the cells of the stack's block -/
def Stk (w0 : World) (K : List (Nat × Obj)) (cs : Array Value) (S : List Fs) : Prop := ∀ j (h : j < S.length), ∃ v, cs[j]? = some v ∧ FArg w0 K v S[j]
theorem Stk.top {w0 : World} {K : List (Nat × Obj)} {cs : Array Value} {S : List Fs} {f : Fs} (h : Stk w0 K cs (S ++ [f])) : ∃ v, cs[S.length]? = some v ∧ FArg w0 K v f := by
  obtain ⟨v, h1, h2⟩ := h S.length (by simp)
  simp only [List.getElem_concat_length] at h2
  exact ⟨v, h1, h2⟩
theorem Stk.pop {w0 : World} {K : List (Nat × Obj)} {cs : Array Value} {S : List Fs} {f : Fs} (h : Stk w0 K cs (S ++ [f])) : Stk w0 K cs S := fun j hj => by
  obtain ⟨v, h1, h2⟩ := h j (by simp; omega)
  rw [List.getElem_append_left hj] at h2
  exact ⟨v, h1, h2⟩
theorem Stk.set {w0 : World} {K : List (Nat × Obj)} {cs : Array Value} {S : List Fs} {f g : Fs} {v : Value} (h : Stk w0 K cs (S ++ [f])) (hv : FArg w0 K v g) : Stk w0 K (cs.setIfInBounds S.length v) (S ++ [g]) := fun j hj => by
  simp only [List.length_append, List.length_cons, List.length_nil] at hj
  by_cases e : j = S.length
  · subst e
    obtain ⟨u, h1, _⟩ := h S.length (by simp)
    refine ⟨v, ?_, by simpa using hv⟩
    rw [Array.getElem?_setIfInBounds_self_of_lt (Array.getElem?_eq_some_iff.1 h1).1]
  · obtain ⟨u, h1, h2⟩ := h j (by simp; omega)
    rw [List.getElem_append_left (by omega)] at h2 ⊢
    exact ⟨u, by rw [Array.getElem?_setIfInBounds_ne (by omega)]; exact h1, h2⟩
theorem Stk.push {w0 : World} {K : List (Nat × Obj)} {cs cs' : Array Value} {S : List Fs} {g : Fs} {v : Value} (h : Stk w0 K cs S) (hv : FArg w0 K v g) (h0 : ∀ j, j < S.length → cs'[j]? = cs[j]?) (h1 : cs'[S.length]? = some v) : Stk w0 K cs' (S ++ [g]) := fun j hj => by
  simp only [List.length_append, List.length_cons, List.length_nil] at hj
  by_cases e : j = S.length
  · subst e
    exact ⟨v, h1, by simpa using hv⟩
  · obtain ⟨u, h2, h3⟩ := h j (by omega)
    rw [List.getElem_append_left (by omega)]
    exact ⟨u, (h0 j (by omega)).trans h2, h3⟩
section
variable {w0 : World} {wb : Nat} {w : World} {L : List Int} {n : Nat} {P : Prop} {K : List (Nat × Obj)}
theorem Wr.apart (h : Wr w0 wb w L n P K) : ∀ p ∈ K, p.1 ≠ w.heap.size := fun p hp => Nat.ne_of_lt (Array.getElem?_eq_some_iff.1 (h.kept p hp).2).1
/-- the stack is a row of the call's own -/
theorem stack_row {B : Nat} {cs : Array Value} (h : Wr w0 wb w L n P ((B, .cells cs 46 (0, 0)) :: K)) (hB0 : w0.heap.size ≤ B) {q : Nat} (hq : q ≤ cs.size) (hm : cs.size ≤ 9223372036854775807) :
    w.ownsRow w0.heap.size 46 1 (.slice (some ⟨B, 0, none⟩) q cs.size) q (cs.toList.take q) :=
  ⟨by simp; omega, .inr ⟨B, cs.size, cs, rfl, hB0, h.headK.1, hq, hm, by simp, by simp⟩⟩
/-- a slice is pushed -/
theorem stack_push {B : Nat} {cs : Array Value} {S : List Fs} {q : Nat} (h : Wr w0 wb w L n P ((B, .cells cs 46 (0, 0)) :: K)) (hB0 : w0.heap.size ≤ B) (hK : ∀ p ∈ K, p.1 ≠ B) (hS : Stk w0 K cs S) (hSq : S.length = q) (hq : q ≤ cs.size) {va : Value} {g : Fs} (hva : FArg w0 K va g)
    {o : Obj} {v' : Value} {w1 : World} (hown' : w1.ownsRow w0.heap.size 46 1 v' (q + 1) (cs.toList.take q ++ [va])) (hg : (w.alloc o).grownBy w1 (some B)) (hat : v'.ownBlock = some B ∨ v'.ownBlock = some (w.heap.size + 1)) :
    ∃ (B' cap' : Nat) (cs' : Array Value), v' = .slice (some ⟨B', 0, none⟩) (q + 1) cap' ∧ q + 1 ≤ cap' ∧ cap' ≤ 9223372036854775807 ∧ cs'.size = cap' ∧ Wr w0 wb w1 L n P ((B', .cells cs' 46 (0, 0)) :: K) ∧ w0.heap.size ≤ B' ∧ (∀ p ∈ K, p.1 ≠ B') ∧ Stk w0 K cs' (S ++ [g]) := by
  subst hSq
  rcases hown'.2 with ⟨_, e⟩ | ⟨B', cap', cs', rfl, hB', hh, h1, h2, h3, h4⟩
  · omega
  simp only [Value.ownBlock, Option.some.injEq] at hat
  simp only [Nat.mul_one] at h3 h4
  have hlt : cs.toList.length = cs.size := by simp
  have hx : ∀ j, j < S.length + 1 → cs'[j]? = (cs.toList.take S.length ++ [va])[j]? := fun j hj => by
    rw [← h4, List.getElem?_take, if_pos hj]
    simp
  refine ⟨B', cap', cs', rfl, h1, h2, h3, h.appK hB0 hK hg hh hat, hB', fun p hp => ?_, hS.push hva (fun j hj => ?_) ?_⟩
  · rcases hat with rfl | rfl
    · exact hK p hp
    · have := (Array.getElem?_eq_some_iff.1 (h.tail.kept p hp).2).1
      omega
  · rw [hx j (by omega), List.getElem?_append_left (by simp; omega), List.getElem?_take, if_pos hj]
    simp
  · rw [hx _ (by omega), List.getElem?_append_right (by simp; omega)]
    have e : (cs.toList.take S.length).length = S.length := by simp; omega
    rw [e]
    simp
end
end Go.Proofs.YtckdgniecdfedaaGreatDoor
end
section
/- The walk of the writer's formulas. -/
namespace Go.Proofs.YtckdgniecdfedaaGreatDoor
open Go.RowKit
section
variable {w0 : World} {wb : Nat} {w : World} {L : List Int} {n : Nat} {P : Prop} {K : List (Nat × Obj)}
theorem Tryz.underlying189 : Tryz.prog.underlying 189 = some (.slice 46) := by kernel_rfl
theorem Tryz.info46 : (Tryz.prog.info? 46).map (fun i => (i.zero, i.size, i.bytes)) = some (some (.slice none 0 0), 1, 24) := by kernel_rfl
/-- the state of the inner loop -/
def Frm (w0 : World) (wb : Nat) (P : Prop) (K : List (Nat × Obj)) (LT : List Int) (NT : Nat) (g : Nat) (y o : Value) (wr : World) : Prop :=
  ∃ (S : List Fs) (B q cap : Nat) (cs : Array Value) (kn m1 : Nat) (L1 : List Int), y = .int .i64 kn ∧ o = .slice (some ⟨B, 0, none⟩) q cap ∧ q ≤ cap ∧ Hid (cap ≤ 9223372036854775807) ∧ Hid (S.length = q) ∧ Hid (cs.size = cap) ∧ Hid (Wr w0 wb wr L1 m1 P ((B, .cells cs 46 (0, 0)) :: K)) ∧ Hid (w0.heap.size ≤ B) ∧ Hid (∀ p ∈ K, p.1 ≠ B) ∧ Hid (Stk w0 K cs S) ∧
    Hid (L1 ++ stc S = LT) ∧ Hid (m1 + stn S = NT) ∧ kn ≤ m1 ∧ q ≤ kn + 1 ∧ 2 * stn S + q ≤ g
/-- a node without arguments is written -/
theorem frm_pop {LT : List Int} {NT g : Nat} {y o : Value} {wr : World} {S' : List Fs} {B q cap : Nat} {cs : Array Value} {kn m1 : Nat} {L1 : List Int} {op x bd : Int} {nm : ByteArray} {args rest : Fs}
    (ho : o = .slice (some ⟨B, 0, none⟩) (q + 1) cap) (hy : y = .int .i64 ((kn + 1 : Nat) : Int)) (hq : q + 1 ≤ cap) (hcm : cap ≤ 9223372036854775807) (hl : S'.length = q) (hc : cs.size = cap)
    (hw : Wr w0 wb wr (L1 ++ [op] ++ txt nm.data.toList ++ [x, bd, (args.len : Int)]) (m1 + 1) P ((B, .cells cs 46 (0, 0)) :: K)) (hB : w0.heap.size ≤ B) (hK : ∀ p ∈ K, p.1 ≠ B) (hS : Stk w0 K cs (S' ++ [rest]))
    (h1 : L1 ++ stc (S' ++ [.cons op nm x bd args rest]) = LT) (h2 : m1 + stn (S' ++ [.cons op nm x bd args rest]) = NT) (hk : kn ≤ m1) (hqk : q + 1 ≤ kn + 1) (hg : 2 * stn (S' ++ [.cons op nm x bd args rest]) + (q + 1) ≤ g) (ha : args = .nil) :
    Frm w0 wb P K LT NT (g - 1) y o wr := by
  subst ha
  rw [stn_snoc] at h2 hg
  rw [stc_snoc] at h1
  simp only [Fs.nodes] at h2 hg
  refine ⟨S' ++ [rest], B, q + 1, cap, cs, kn + 1, m1 + 1, _, hy, ho, hq, Lib.hid hcm, Lib.hid (by simp [hl]), Lib.hid hc, Lib.hid hw, Lib.hid hB, Lib.hid hK, Lib.hid hS, Lib.hid ?_, Lib.hid ?_, by omega, by omega, ?_⟩
  · rw [← h1, stc_snoc]
    simp [Fs.code]
  · rw [stn_snoc]; omega
  · rw [stn_snoc]; omega
/-- a node with arguments is written -/
theorem frm_push {LT : List Int} {NT g : Nat} {y o : Value} {wr : World} {S' : List Fs} {B q cap : Nat} {cs : Array Value} {kn m1 : Nat} {L1 : List Int} {op x bd : Int} {nm : ByteArray} {args rest : Fs}
    (ho : o = .slice (some ⟨B, 0, none⟩) (q + 1 + 1) cap) (hy : y = .int .i64 ((kn + 1 : Nat) : Int)) (hq : q + 1 + 1 ≤ cap) (hcm : cap ≤ 9223372036854775807) (hl : S'.length = q) (hc : cs.size = cap)
    (hw : Wr w0 wb wr (L1 ++ [op] ++ txt nm.data.toList ++ [x, bd, (args.len : Int)]) (m1 + 1) P ((B, .cells cs 46 (0, 0)) :: K)) (hB : w0.heap.size ≤ B) (hK : ∀ p ∈ K, p.1 ≠ B) (hS : Stk w0 K cs (S' ++ [rest] ++ [args]))
    (h1 : L1 ++ stc (S' ++ [.cons op nm x bd args rest]) = LT) (h2 : m1 + stn (S' ++ [.cons op nm x bd args rest]) = NT) (hk : kn ≤ m1) (hqk : q + 1 ≤ kn + 1) (hg : 2 * stn (S' ++ [.cons op nm x bd args rest]) + (q + 1) ≤ g) :
    Frm w0 wb P K LT NT (g - 1) y o wr := by
  rw [stn_snoc] at h2 hg
  rw [stc_snoc] at h1
  simp only [Fs.nodes] at h2 hg
  refine ⟨S' ++ [rest] ++ [args], B, q + 1 + 1, cap, cs, kn + 1, m1 + 1, _, hy, ho, hq, Lib.hid hcm, Lib.hid (by simp [hl]), Lib.hid hc, Lib.hid hw, Lib.hid hB, Lib.hid hK, Lib.hid hS, Lib.hid ?_, Lib.hid ?_, by omega, by omega, ?_⟩
  · rw [← h1, stc_snoc, stc_snoc]
    simp [Fs.code]
  · rw [stn_snoc, stn_snoc]; omega
  · rw [stn_snoc, stn_snoc]; omega
set_option maxRecDepth 100000 in
set_option maxHeartbeats 4000000 in
theorem formulas_any (h : Wr w0 wb w L n P K) {v : Value} {f : Fs} (hv : FArg w0 K v f) (hn : n + f.nodes < 33554432) :
    Calls Tryz.prog 70 #[.pointer (some ⟨wb, 0, none⟩), v] w (Wrote w0 wb (L ++ f.code) (n + f.nodes) P K) := by
  obtain ⟨hfl, a, c, rfl, hc⟩ := hv.len
  have HW := Lib.hid h
  have HV := Lib.hid hv
  obtain ⟨i0, hi, hz0, hz1, hz2⟩ := info_parts Tryz.info46
  clear h hv
  go_enter Tryz.func70, Tryz.ntmps70
  go_wp2_with fail
  go_loopw [4, 5, 6, 7, 8, 11] (fun _ _ _ _ _ i wr => ∃ (k m : Nat) (L' : List Int), k ≤ f.len ∧ i = .int .i64 k ∧ Wr w0 wb wr L' m P K ∧ Hid (L' ++ (f.drop k).code = L ++ f.code) ∧ Hid (m + (f.drop k).nodes = n + f.nodes)) (fun _ _ _ _ _ i _ => f.len - (intOf i).toNat)
  case atStart => exact ⟨0, n, L, Nat.zero_le _, rfl, HW.out, Lib.hid (by cases f <;> rfl), Lib.hid (by cases f <;> rfl)⟩
  case round =>
    obtain ⟨k, m, L', hk, rfl, hw, HL, HN⟩ := hrel
    by_cases hlt : k < f.len
    · have hdl := Fs.drop_len f k
      cases hfd : f.drop k with
      | nil => rw [hfd] at hdl; simp [Fs.len] at hdl; omega
      | cons op nm x bd args rest =>
        obtain ⟨b1, o1, c1, ev, -, -, -, -, -, -, -, -, -, hone⟩ := HV.out.read hw k hfd
        simp only [Value.slice.injEq, true_and] at ev
        obtain ⟨rfl, rfl⟩ := ev
        rw [hfd] at HL HN
        have HS := Lib.hid (Fs.drop_succ hfd)
        have HO := Lib.hid hone
        have HV' := Lib.hid hw
        have hd : decide (k < f.len) = true := by simpa using hlt
        have hck : (k : Int) + 1 ≤ (c : Int) := by omega
        clear hone hw hfd hdl
        go_wp2_with fail
        go_loopg [5, 6, 7, 8] (2 * (args.nodes + 1) + 1) (fun g y o _ _ wr => Frm w0 wb P K (L' ++ (Fs.cons op nm x bd args .nil).code) (m + (args.nodes + 1)) g y o wr)
        case atStart => 
          refine ⟨[.cons op nm x bd args .nil], _, 1, 1, _, 0, m, L', rfl, rfl, Nat.le_refl _, Lib.hid (by omega), Lib.hid rfl, Lib.hid rfl, Lib.hid (HV'.out.alloc _), Lib.hid HV'.out.lt0, Lib.hid (fun p hp => ?_), Lib.hid ?_, Lib.hid (by simp [stc]), Lib.hid (by simp [stn, Fs.nodes]), Nat.zero_le _, Nat.le_refl _, by simp [stn, Fs.nodes]⟩
          · have := (Array.getElem?_eq_some_iff.1 (HV'.out.kept p hp).2).1
            omega
          · intro j hj
            have : j = 0 := by simpa using hj
            subst this
            exact ⟨_, rfl, HO.out _ (by omega)⟩
        case round =>
          obtain ⟨S, B, q, cap, cs, kn, m1, L1, rfl, rfl, hq, HCM, HSl, HC, HW1, HB0, HK, HSt, HL1, HN1, hkn, hqk, hg⟩ := hrel
          cases q with
          | zero =>
            have hS0 : S = [] := List.eq_nil_of_length_eq_zero HSl.out
            subst hS0
            have HW2 := Lib.hid HW1.out.tail
            clear HW1 HSt
            go_wp2_with fail
            go_roundw
            case rel => 
              refine ⟨k + 1, m1, L1, by omega, by go_num, HW2.out, Lib.hid ?_, Lib.hid ?_⟩
              · have h1 := HL1.out
                have h2 := HL.out
                simp only [stc, Fs.code, List.append_nil] at h1 h2
                rw [HS.out, h1, ← h2]
                simp
              · have h1 := HN1.out
                have h2 := HN.out
                simp only [stn, Fs.nodes] at h1 h2
                rw [HS.out]
                omega
            case measure => simp [intOf]; omega
          | succ q =>
            obtain ⟨S', t, rfl⟩ : ∃ S' t, S = S' ++ [t] := by
              rcases List.eq_nil_or_concat S with rfl | ⟨S', t, e⟩
              · have := HSl.out; simp at this
              · exact ⟨S', t, by simpa using e⟩
            obtain rfl : S'.length = q := by have := HSl.out; simp at this; exact this
            obtain ⟨v, hv1, hv2⟩ := HSt.out.top
            have hB := HW1.out.headK
            have p1 : wr.cell? ⟨B, S'.length, none⟩ = some v := by simp [World.cell?, hB.1, hv1]
            have pf : wr.frozen? ⟨B, S'.length, none⟩ = false := by simp [World.frozen?, hB.1]
            obtain ⟨aw, cw, bw, gw, hh, hown, hP, k0, k1, k2, k3, kf⟩ := HW1.out.cells
            have HH := Lib.hid hh
            have hd2 : decide ((m1 : Int) < 33554432) = true := by
              have h1 := HN1.out
              have h2 := HN.out
              simp only [Fs.nodes] at h2
              simp
              omega
            have hq25 : S'.length ≤ 33554432 := by
              have : (m1 : Int) < 33554432 := of_decide_eq_true hd2
              omega
            have HT := Lib.hid hv2
            have HV1 := Lib.hid hv1
            have HQK := Lib.hid hqk
            have HG := Lib.hid hg
            have HKN := Lib.hid hkn
            have HQ := Lib.hid (rfl : S'.length = S'.length)
            generalize hql : S'.length = q at hq hq25 p1 pf HG HQ HQK HSl HV1 ⊢
            have HQL := Lib.hid hql
            clear hh hown hP k0 k2 k3 hB hv1 hv2 kf hg hkn hqk hql HQ HSl
            cases t with
            | nil =>
              obtain ⟨-, a2, c2, rfl, -⟩ := HT.out.len
              simp only [Fs.len] at p1
              go_wp2_with fail
              go_roundg (gk - 1)
              case measure => have := HG.out; omega
              case rel =>
                have h1 := HL1.out
                have h2 := HN1.out
                have h3 := HG.out
                rw [stn_snoc] at h2 h3
                rw [stc_snoc] at h1
                simp only [Fs.code, Fs.nodes, List.nil_append, Nat.zero_add] at h1 h2 h3
                exact ⟨S', B, q, cap, cs, kn, m1, L1, rfl, rfl, by omega, HCM, HQL, HC, HW1, HB0, HK, Lib.hid HSt.out.pop, Lib.hid (by rw [h1]; simp [Fs.code]), Lib.hid h2, HKN.out, by have := HQK.out; omega, by omega⟩
            | cons op' nm' x' bd' args' rest' =>
              obtain ⟨b2, o2, c2, rfl, hc2, d0, d1, hnm, d2, d3, hal, ⟨a3, c3, d4, hA⟩, hR, -⟩ := HT.out.read HW1.out.tail 0 rfl
              simp only [Nat.zero_mul, Nat.zero_add, Nat.add_zero, Nat.one_mul] at d0 d1 d2 d3 d4 hR
              simp only [Fs.len] at p1 hc2
              have HR := Lib.hid (hR (c2 - 1) (by omega))
              have HA := Lib.hid hA
              have hr64 : rest'.len + 1 ≤ 9223372036854775807 := HT.out.len.1
              generalize hr : rest'.len + 1 = r at p1 hc2 hr64
              have hd3 : ((r : Int) == 0) = false := by simp; omega
              have hr0 : (0 : Int) < (r : Int) := by omega
              have hr1 : (1 : Int) ≤ (r : Int) := by omega
              have hrc : (r : Int) ≤ (c2 : Int) := by omega
              have HRR := Lib.hid hr
              clear hA hR hr
              go_upto_region 10 with fail
              have A1 := (HW1.out.alloc (.cells #[.int .i64 op', .string nm', .int .i64 x', .int .i64 bd', .slice a3 args'.len c3] 48)).swap
              have hB2 := A1.headK
              have hv3 := HV1.out
              simp only [Fs.len, HRR.out] at hv3
              have e1 : (wr.alloc (.cells #[.int .i64 op', .string nm', .int .i64 x', .int .i64 bd', .slice a3 args'.len c3] 48)).cell? ⟨B, q, none⟩ = some (.slice (some ⟨b2, o2, none⟩) r c2) := by simp [World.cell?, hB2.1, hv3]
              have ef : (wr.alloc (.cells #[.int .i64 op', .string nm', .int .i64 x', .int .i64 bd', .slice a3 args'.len c3] 48)).frozen? ⟨B, q, none⟩ = false := by simp [World.frozen?, hB2.1]
              have HA1 := Lib.hid A1
              have HZ : Hid (B ≠ wr.heap.size) := Lib.hid fun e => by
                have := (Array.getElem?_eq_some_iff.1 HW1.out.headK.1).1
                omega
              clear A1 hB2 hv3 p1 pf d0 d1 d2 d3 d4
              generalize hwa : wr.alloc (.cells #[.int .i64 op', .string nm', .int .i64 x', .int .i64 bd', .slice a3 args'.len c3] 48) = wa at e1 ef HA1 ⊢
              generalize wr.heap.size = Bf at HA1 HZ ⊢
              clear hwa
              go_upto_region 11 with fail
              have HR2 : Hid (FArg w0 K (Value.slice (if c2 = 1 then some ⟨b2, o2, none⟩ else some ⟨b2, o2 + 5, none⟩) (r - 1) (c2 - 1)) rest') := Lib.hid (by
                have h1 := HRR.out
                by_cases h : c2 = 1
                · have h0 : rest'.len = 0 := by omega
                  have e : rest' = .nil := by cases rest' <;> simp [Fs.len] at h0 ⊢
                  subst e
                  simp only [Fs.len] at h1
                  have e2 : r - 1 = 0 := by omega
                  rw [e2]
                  exact FArg.zero _ _
                · rw [if_neg h]
                  have e2 : r - 1 = rest'.len := by omega
                  rw [e2]
                  exact HR.out)
              generalize Value.slice (if c2 = 1 then some ⟨b2, o2, none⟩ else some ⟨b2, o2 + 5, none⟩) (r - 1) (c2 - 1) = vs at *
              have HST2 : Hid (Stk w0 K (cs.setIfInBounds q vs) (S' ++ [rest'])) := Lib.hid (by have := HSt.out.set HR2.out; rwa [HQL.out] at this)
              have HC2 : Hid ((cs.setIfInBounds q vs).size = cap) := Lib.hid (by rw [Array.size_setIfInBounds]; exact HC.out)
              have A2 := (HA1.out.setK HB0.out (fun p hp => by
                rcases List.mem_cons.1 hp with rfl | hp
                · exact fun e => HZ.out e.symm
                · exact HK.out p hp) q vs).swap
              clear e1 ef
              generalize wa.setCell ⟨B, q, none⟩ vs = wc at A2 ⊢
              generalize cs.setIfInBounds q vs = cs2 at A2 HST2 HC2
              have t0 := A2.cell 0
              have t1 := A2.cell 1
              have t2 := A2.cell 2
              have t3 := A2.cell 3
              have t4 := A2.cell 4
              simp only [List.getElem?_toArray, List.getElem?_cons_succ, List.getElem?_cons_zero] at t0 t1 t2 t3 t4
              have HA2 := Lib.hid A2
              clear A2
              go_wp2_with fail
              refine (put1 HA2.out _).mono ?_
              rintro e w2 ⟨rfl, h2⟩
              have s1 := h2.cell 1
              have s2 := h2.cell 2
              have s3 := h2.cell 3
              have s4 := h2.cell 4
              simp only [List.getElem?_toArray, List.getElem?_cons_succ, List.getElem?_cons_zero] at s1 s2 s3 s4
              have H2 := Lib.hid h2
              clear h2 t0 t1 t2 t3 t4
              go_wp2_with fail
              refine (text_wr H2.out nm' hnm).mono ?_
              rintro e w3 ⟨rfl, h3⟩
              have t2 := h3.cell 2
              have t3 := h3.cell 3
              have t4 := h3.cell 4
              simp only [List.getElem?_toArray, List.getElem?_cons_succ, List.getElem?_cons_zero] at t2 t3 t4
              have H3 := Lib.hid h3
              clear h3 s1 s2 s3 s4
              go_wp2_with fail
              refine (put3 H3.out _ _ _).mono ?_
              rintro e w4 ⟨rfl, h4⟩
              have t4 := h4.cell 4
              simp only [List.getElem?_toArray, List.getElem?_cons_succ, List.getElem?_cons_zero] at t4
              have H4 := Lib.hid h4
              have hkn25 : kn ≤ 33554432 := by
                have : (m1 : Int) < 33554432 := of_decide_eq_true hd2
                have := HKN.out
                omega
              obtain ⟨ax, cx, bx, gx, hh, hown, hP, k0, k1, k2, k3, kf⟩ := h4.cells
              have f1 := kf 1
              have H5 := Lib.hid h4.node
              clear h4 hh hown hP k0 k2 k3 kf t2 t3
              have hm25 : m1 < 33554432 := by
                have : (m1 : Int) < 33554432 := of_decide_eq_true hd2
                omega
              go_upto_region 16 with fail
              clear t4 f1 k1
              generalize w4.setCell ⟨wb, 1, none⟩ (.int .i64 ((m1 : Int) + 1)) = w5 at H5 ⊢
              obtain ⟨ay, cy, by_, gy, hh, hown, hP, k0, k1, k2, k3, kf⟩ := H5.out.cells
              have f3 := kf 3
              have H6 := Lib.hid H5.out.big
              clear hh hown hP k0 k1 k2 kf
              by_cases hb1 : (400 : Int) < (kn : Int) + 1
              · have hd4 : decide ((400 : Int) < (kn : Int) + 1) = true := by simpa using hb1
                clear hb1
                go_upto_region 18 with fail
                clear k3 f3 H5
                generalize w5.setCell ⟨wb, 3, none⟩ (.bool true) = w6 at H6 ⊢
                have t4 := H6.out.cell 4
                simp only [List.getElem?_toArray, List.getElem?_cons_succ, List.getElem?_cons_zero] at t4
                by_cases ha0 : args'.len = 0
                · have hd6 : decide (0 < args'.len) = false := by simp [ha0]
                  have HE : Hid (args' = .nil) := Lib.hid (by cases args' <;> simp [Fs.len] at ha0 ⊢)
                  clear ha0
                  go_wp2_with fail
                  go_roundg (gk - 1)
                  case measure => have := HG.out; omega
                  case rel => exact frm_pop rfl (by go_num) hq HCM.out HQL.out HC2.out H6.out.tail HB0.out HK.out HST2.out HL1.out HN1.out HKN.out HQK.out HG.out HE.out
                · have hd6 : decide (0 < args'.len) = true := by simp; omega
                  have hrow : w6.ownsRow w0.heap.size 46 1 (.slice (some ⟨B, 0, none⟩) (q + 1) cap) (q + 1) (cs2.toList.take (q + 1)) := by
                    have := stack_row H6.out.tail HB0.out (q := q + 1) (by rw [HC2.out]; exact hq) (by rw [HC2.out]; exact HCM.out)
                    rwa [HC2.out] at this
                  have HROW := Lib.hid hrow
                  have HWs : Hid (w0.heap.size ≤ w6.heap.size) := Lib.hid H6.out.lt0
                  clear hrow ha0
                  go_wp2_with (first
                    | (at_builtin; refine wpList_append_own_at _ rfl _ _ 189 rfl w0.heap.size 46 i0 (.slice none 0 0) 1 24 Tryz.underlying189 hi hz0 hz1 hz2 rfl (by decide) _ _ _ rfl (HROW.out.alloc _) ⟨w6.heap.size, 0, none⟩ 1 1 [.slice a3 args'.len c3] rfl rfl (cell_one_new _ _ _) (by intro u hu; simp at hu; subst hu; rfl) (by unfold maxLen; omega) (by omega) (by rw [World.size_alloc]; exact Nat.le_succ_of_le HWs.out) ?_))
                  intro v' w7 hown' hgrow _ hat
                  obtain ⟨B', cap', cs', rfl, j1, j2, j3, j4, j5, j6, j7⟩ := stack_push H6.out.tail HB0.out HK.out HST2.out (q := q + 1) (by simp [HQL.out]) (by rw [HC2.out]; exact hq) HA.out hown' hgrow (by simpa [Value.ownBlock] using hat)
                  have J3 := Lib.hid j3
                  have J4 := Lib.hid j4
                  have J6 := Lib.hid j6
                  have J7 := Lib.hid j7
                  clear hown' hgrow hat j3 j4 j6 j7
                  go_wp2_with fail
                  go_roundg (gk - 1)
                  case measure => have := HG.out; omega
                  case rel => exact frm_push rfl (by go_num) j1 j2 HQL.out J3.out J4.out j5 J6.out J7.out HL1.out HN1.out HKN.out HQK.out HG.out
              · have hd4 : decide ((400 : Int) < (kn : Int) + 1) = false := by simpa using hb1
                clear hb1
                by_cases hb2 : (60 : Int) < (q : Int) + 1
                · have hd5 : decide ((60 : Int) < (q : Int) + 1) = true := by simpa using hb2
                  clear hb2
                  go_upto_region 18 with fail
                  clear k3 f3 H5
                  generalize w5.setCell ⟨wb, 3, none⟩ (.bool true) = w6 at H6 ⊢
                  have t4 := H6.out.cell 4
                  simp only [List.getElem?_toArray, List.getElem?_cons_succ, List.getElem?_cons_zero] at t4
                  by_cases ha0 : args'.len = 0
                  · have hd6 : decide (0 < args'.len) = false := by simp [ha0]
                    have HE : Hid (args' = .nil) := Lib.hid (by cases args' <;> simp [Fs.len] at ha0 ⊢)
                    clear ha0
                    go_wp2_with fail
                    go_roundg (gk - 1)
                    case measure => have := HG.out; omega
                    case rel => exact frm_pop rfl (by go_num) hq HCM.out HQL.out HC2.out H6.out.tail HB0.out HK.out HST2.out HL1.out HN1.out HKN.out HQK.out HG.out HE.out
                  · have hd6 : decide (0 < args'.len) = true := by simp; omega
                    have hrow : w6.ownsRow w0.heap.size 46 1 (.slice (some ⟨B, 0, none⟩) (q + 1) cap) (q + 1) (cs2.toList.take (q + 1)) := by
                      have := stack_row H6.out.tail HB0.out (q := q + 1) (by rw [HC2.out]; exact hq) (by rw [HC2.out]; exact HCM.out)
                      rwa [HC2.out] at this
                    have HROW := Lib.hid hrow
                    have HWs : Hid (w0.heap.size ≤ w6.heap.size) := Lib.hid H6.out.lt0
                    clear hrow ha0
                    go_wp2_with (first
                      | (at_builtin; refine wpList_append_own_at _ rfl _ _ 189 rfl w0.heap.size 46 i0 (.slice none 0 0) 1 24 Tryz.underlying189 hi hz0 hz1 hz2 rfl (by decide) _ _ _ rfl (HROW.out.alloc _) ⟨w6.heap.size, 0, none⟩ 1 1 [.slice a3 args'.len c3] rfl rfl (cell_one_new _ _ _) (by intro u hu; simp at hu; subst hu; rfl) (by unfold maxLen; omega) (by omega) (by rw [World.size_alloc]; exact Nat.le_succ_of_le HWs.out) ?_))
                    intro v' w7 hown' hgrow _ hat
                    obtain ⟨B', cap', cs', rfl, j1, j2, j3, j4, j5, j6, j7⟩ := stack_push H6.out.tail HB0.out HK.out HST2.out (q := q + 1) (by simp [HQL.out]) (by rw [HC2.out]; exact hq) HA.out hown' hgrow (by simpa [Value.ownBlock] using hat)
                    have J3 := Lib.hid j3
                    have J4 := Lib.hid j4
                    have J6 := Lib.hid j6
                    have J7 := Lib.hid j7
                    clear hown' hgrow hat j3 j4 j6 j7
                    go_wp2_with fail
                    go_roundg (gk - 1)
                    case measure => have := HG.out; omega
                    case rel => exact frm_push rfl (by go_num) j1 j2 HQL.out J3.out J4.out j5 J6.out J7.out HL1.out HN1.out HKN.out HQK.out HG.out
                · have hd5 : decide ((60 : Int) < (q : Int) + 1) = false := by simpa using hb2
                  clear hb2 H6
                  go_upto_region 18 with fail
                  clear k3 f3
                  have H6 := H5
                  clear H5
                  generalize w5 = w6 at H6 ⊢
                  have t4 := H6.out.cell 4
                  simp only [List.getElem?_toArray, List.getElem?_cons_succ, List.getElem?_cons_zero] at t4
                  by_cases ha0 : args'.len = 0
                  · have hd6 : decide (0 < args'.len) = false := by simp [ha0]
                    have HE : Hid (args' = .nil) := Lib.hid (by cases args' <;> simp [Fs.len] at ha0 ⊢)
                    clear ha0
                    go_wp2_with fail
                    go_roundg (gk - 1)
                    case measure => have := HG.out; omega
                    case rel => exact frm_pop rfl (by go_num) hq HCM.out HQL.out HC2.out H6.out.tail HB0.out HK.out HST2.out HL1.out HN1.out HKN.out HQK.out HG.out HE.out
                  · have hd6 : decide (0 < args'.len) = true := by simp; omega
                    have hrow : w6.ownsRow w0.heap.size 46 1 (.slice (some ⟨B, 0, none⟩) (q + 1) cap) (q + 1) (cs2.toList.take (q + 1)) := by
                      have := stack_row H6.out.tail HB0.out (q := q + 1) (by rw [HC2.out]; exact hq) (by rw [HC2.out]; exact HCM.out)
                      rwa [HC2.out] at this
                    have HROW := Lib.hid hrow
                    have HWs : Hid (w0.heap.size ≤ w6.heap.size) := Lib.hid H6.out.lt0
                    clear hrow ha0
                    go_wp2_with (first
                      | (at_builtin; refine wpList_append_own_at _ rfl _ _ 189 rfl w0.heap.size 46 i0 (.slice none 0 0) 1 24 Tryz.underlying189 hi hz0 hz1 hz2 rfl (by decide) _ _ _ rfl (HROW.out.alloc _) ⟨w6.heap.size, 0, none⟩ 1 1 [.slice a3 args'.len c3] rfl rfl (cell_one_new _ _ _) (by intro u hu; simp at hu; subst hu; rfl) (by unfold maxLen; omega) (by omega) (by rw [World.size_alloc]; exact Nat.le_succ_of_le HWs.out) ?_))
                    intro v' w7 hown' hgrow _ hat
                    obtain ⟨B', cap', cs', rfl, j1, j2, j3, j4, j5, j6, j7⟩ := stack_push H6.out.tail HB0.out HK.out HST2.out (q := q + 1) (by simp [HQL.out]) (by rw [HC2.out]; exact hq) HA.out hown' hgrow (by simpa [Value.ownBlock] using hat)
                    have J3 := Lib.hid j3
                    have J4 := Lib.hid j4
                    have J6 := Lib.hid j6
                    have J7 := Lib.hid j7
                    clear hown' hgrow hat j3 j4 j6 j7
                    go_wp2_with fail
                    go_roundg (gk - 1)
                    case measure => have := HG.out; omega
                    case rel => exact frm_push rfl (by go_num) j1 j2 HQL.out J3.out J4.out j5 J6.out J7.out HL1.out HN1.out HKN.out HQK.out HG.out
    · obtain rfl : k = f.len := by omega
      have e0 : f.drop f.len = .nil := by
        have := Fs.drop_len f f.len
        cases h : f.drop f.len with
        | nil => rfl
        | cons => rw [h] at this; simp [Fs.len] at this
      rw [e0] at HL HN
      have HW2 := Lib.hid hw
      have hd : decide (f.len < f.len) = false := by simp
      clear hw e0
      go_wp2_with fail
      (try simp only [Exit.inBlock, Exit.then])
      refine bodyPost_end (results_none rfl _ _ _) rfl ⟨rfl, ?_⟩
      have h1 := HL.out
      have h2 := HN.out
      simp only [Fs.code, Fs.nodes, List.append_nil, Nat.add_zero] at h1 h2
      rw [← h1, ← h2]
      exact HW2.out
end
end Go.Proofs.YtckdgniecdfedaaGreatDoor
end
