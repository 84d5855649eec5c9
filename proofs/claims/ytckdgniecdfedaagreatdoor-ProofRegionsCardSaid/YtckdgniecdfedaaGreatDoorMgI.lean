/- A claim that can be read; claims of no kind. -/
import Derived.Test.YtckdgniecdfedaaGreatDoorMgH
import Derived.Test.YtckdgniecdfedaaGreatDoorMgE
import Derived.StillTailTactics
import Derived.Deep.Cut
import Derived.Deep.CutBlock
import Derived.Laws.ResultCell
import Derived.Test.YtckdgniecdfedaaGreatDoorWalk4
section
/- A claim that can be read in a world; the walk of Encode. -/
namespace Go.Proofs.YtckdgniecdfedaaGreatDoor
open Go.RowKit

/-- where the slices of a claim lie -/
structure Cv where
  a1 : Option Addr
  c1 : Nat
  a6 : Option Addr
  c6 : Nat
  a10 : Option Addr
  c10 : Nat
  a11 : Option Addr
  c11 : Nat
  a15 : Option Addr
  c15 : Nat
  a16 : Option Addr
  c16 : Nat
  a17 : Option Addr
  c17 : Nat
  a18 : Option Addr
  c18 : Nat
  a19 : Option Addr
  c19 : Nat
  a20 : Option Addr
  c20 : Nat
  a21 : Option Addr
  c21 : Nat
  a22 : Option Addr
  c22 : Nat
  a23 : Option Addr
  c23 : Nat
/-- the cells of a claim -/
def Cv.cells (x : Cv) (c : Cl) : Array Value :=
  #[.int .i64 c.kind, .slice x.a1 c.sigs.length x.c1, .int .i64 c.op, .string c.nm, .int .i64 c.val, .int .i64 c.bd, .slice x.a6 c.args.len x.c6,
    .int .i64 c.ctrl.ins, .int .i64 c.ctrl.outs, .int .i64 c.ctrl.start, .slice x.a10 c.ctrl.out.length x.c10, .slice x.a11 c.ctrl.next.length x.c11,
    .int .i64 c.env.ins, .int .i64 c.env.outs, .int .i64 c.env.start, .slice x.a15 c.env.inn.length x.c15, .slice x.a16 c.env.next.length x.c16,
    .slice x.a17 c.spots.length x.c17, .slice x.a18 c.game.owner.length x.c18, .slice x.a19 c.game.prio.length x.c19, .slice x.a20 c.game.succ.length x.c20, .slice x.a21 c.game.meas.length x.c21,
    .slice x.a22 c.letters.length x.c22, .slice x.a23 c.res.len x.c23]
/-- a claim can be read -/
structure ClV (w : World) (x : Cv) (c : Cl) : Prop where
  sigs : SgV w (.slice x.a1 c.sigs.length x.c1) c.sigs
  nm : c.nm.size ≤ 9223372036854775807
  args : FV w (.slice x.a6 c.args.len x.c6) c.args
  out : RowsV w (.slice x.a10 c.ctrl.out.length x.c10) c.ctrl.out
  next : RowsV w (.slice x.a11 c.ctrl.next.length x.c11) c.ctrl.next
  inn : Nums w (.slice x.a15 c.env.inn.length x.c15) c.env.inn
  innL : c.env.inn.length ≤ 9223372036854775807
  enext : RowsV w (.slice x.a16 c.env.next.length x.c16) c.env.next
  spots : SpV w (.slice x.a17 c.spots.length x.c17) c.spots
  owner : Nums w (.slice x.a18 c.game.owner.length x.c18) c.game.owner
  ownerL : c.game.owner.length ≤ 9223372036854775807
  prio : Nums w (.slice x.a19 c.game.prio.length x.c19) c.game.prio
  prioL : c.game.prio.length ≤ 9223372036854775807
  succ : RowsV w (.slice x.a20 c.game.succ.length x.c20) c.game.succ
  meas : RowsV w (.slice x.a21 c.game.meas.length x.c21) c.game.meas
  letters : Nums w (.slice x.a22 c.letters.length x.c22) c.letters
  lettersL : c.letters.length ≤ 9223372036854775807
  res : FV w (.slice x.a23 c.res.len x.c23) c.res
theorem ClV.keep {w w' : World} {x : Cv} {c : Cl} (h : ClV w x c) (hB : Below w.heap.size w w') : ClV w' x c :=
  ⟨h.sigs.keep hB, h.nm, h.args.keep hB, h.out.keep hB, h.next.keep hB, h.inn.keep hB, h.innL, h.enext.keep hB, h.spots.keep hB, h.owner.keep hB, h.ownerL, h.prio.keep hB, h.prioL, h.succ.keep hB, h.meas.keep hB, h.letters.keep hB, h.lettersL, h.res.keep hB⟩

/-- what Encode hands back -/
def Coded (w : World) (c : Cl) (e : Ending) (w' : World) : Prop :=
  Below w.heap.size w w' ∧ ∃ (az : Option Addr) (ln cz : Nat) (s k : Int) (L : List Int), e = .returned (.tuple #[.agg #[.slice az ln cz, .int .i64 s], .int .i64 k]) ∧ (k = 1 ∨ k = 2 ∨ (k = 0 ∧ Nums w' (.slice az ln cz) L ∧ L.length ≤ 20000 ∧ c.wrote L))

/-- a new writer -/
theorem Wr.start (w0 : World) : Wr w0 w0.heap.size (w0.alloc (.cells #[.slice none 0 0, .int .i64 0, .bool false, .bool false] 128)) [] 0 True [] :=
  ⟨⟨.slice none 0 0, false, false, heap_alloc_new _ _, ⟨rfl, .inl ⟨rfl, rfl⟩⟩, fun _ => trivial, fun p hp => by cases hp⟩, Nat.le_refl _, (Below.refl _ _).alloc (Nat.le_refl _) _, fun p hp => by cases hp⟩

theorem Fs.nil_of {f : Fs} (h : f.len = 0) : f = .nil := by cases f <;> simp [Fs.len] at h ⊢
theorem game_of {c : Cl} (h : c.game.owner.length = 0 ∧ c.game.prio.length = 0 ∧ c.game.succ.length = 0 ∧ c.game.meas.length = 0 ∧ (0 : Nat) = 0 ∧ (0 : Nat) = 0) : c.game.zero :=
  ⟨List.eq_nil_of_length_eq_zero h.1, List.eq_nil_of_length_eq_zero h.2.1, List.eq_nil_of_length_eq_zero h.2.2.1, List.eq_nil_of_length_eq_zero h.2.2.2.1⟩
theorem filled_of {c : Cl} (h : c.game.owner.length = 0 ∧ c.game.prio.length = 0 ∧ c.game.succ.length = 0 ∧ c.game.meas.length = 0 ∧ c.letters.length = 0 ∧ c.res.len = 0) : c.game.zero ∧ c.letters = [] ∧ c.res = .nil :=
  ⟨⟨List.eq_nil_of_length_eq_zero h.1, List.eq_nil_of_length_eq_zero h.2.1, List.eq_nil_of_length_eq_zero h.2.2.1, List.eq_nil_of_length_eq_zero h.2.2.2.1⟩, List.eq_nil_of_length_eq_zero h.2.2.2.2.1, Fs.nil_of h.2.2.2.2.2⟩
theorem loop_len (bs : ByteArray) : ∀ (n i : Nat) (r : List UInt8), bs.size - i = n → (ByteArray.toList.loop bs i r).length = r.length + n := by
  intro n
  induction n with
  | zero =>
    intro i r h
    unfold ByteArray.toList.loop
    rw [if_neg (by omega)]
    simp
  | succ n ih =>
    intro i r h
    unfold ByteArray.toList.loop
    rw [if_pos (by omega), ih (i + 1) _ (by omega)]
    simp
    omega
theorem nm_nil {nm : ByteArray} (h : nm.toList = []) : nm = ⟨#[]⟩ := by
  have h1 := loop_len nm nm.size 0 [] (by omega)
  have h2 : (ByteArray.toList.loop nm 0 []).length = 0 := by
    have : ByteArray.toList.loop nm 0 [] = [] := h
    rw [this]; rfl
  rw [h2] at h1
  simp at h1
  cases nm with | mk d =>
  congr 1
  have : d.size = 0 := h1.symm
  exact Array.eq_empty_of_size_eq_zero this
theorem form_of {c : Cl} (h : c.op = 0 ∧ c.nm.toList = [] ∧ c.val = 0 ∧ c.bd = 0 ∧ c.args.len = 0) : c.noForm := by
  refine ⟨h.1, ?_, h.2.2.1, h.2.2.2.1, Fs.nil_of h.2.2.2.2⟩
  exact nm_nil h.2.1
/-- the start of Encode -/
theorem claim_start (w : World) (cs : Array Value) : ∃ w0 w1 : World, w1 = ((w.alloc (.cells cs 59)).alloc (.cells #[.slice none 0 0, .int .i64 0] 30)).alloc (.cells #[.slice none 0 0, .int .i64 0, .bool false, .bool false] 128) ∧ Below w.heap.size w w0 ∧
    (∀ (wr : World) (L : List Int) (n : Nat) (P : Prop) (K : List (Nat × Obj)), Wr w0 (w.heap.size + 1 + 1) wr L n P K → ∀ j, wr.cell? ⟨w.heap.size, j, none⟩ = cs[j]?) ∧ (∀ (wr : World) (L : List Int) (n : Nat) (P : Prop) (K : List (Nat × Obj)), Wr w0 (w.heap.size + 1 + 1) wr L n P K → wr.heap[w.heap.size + 1]? = some (.cells #[.slice none 0 0, .int .i64 0] 30)) ∧
    w0.heap.size = w.heap.size + 1 + 1 ∧ Wr w0 (w.heap.size + 1 + 1) w1 [] 0 True [] := by
  have hs : ((w.alloc (.cells cs 59)).alloc (.cells #[.slice none 0 0, .int .i64 0] 30)).heap.size = w.heap.size + 1 + 1 := by simp
  have hc : ∀ j, ((w.alloc (.cells cs 59)).alloc (.cells #[.slice none 0 0, .int .i64 0] 30)).cell? ⟨w.heap.size, j, none⟩ = cs[j]? := fun j => (World.cell?_alloc_past _ _ _ (by simp)).trans (cell_new w _ 59 j)
  have hr : ((w.alloc (.cells cs 59)).alloc (.cells #[.slice none 0 0, .int .i64 0] 30)).heap[w.heap.size + 1]? = some (.cells #[.slice none 0 0, .int .i64 0] 30) := by
    have := heap_alloc_new (w.alloc (.cells cs 59)) (.cells #[.slice none 0 0, .int .i64 0] 30)
    rwa [World.size_alloc] at this
  have hb : Below w.heap.size w ((w.alloc (.cells cs 59)).alloc (.cells #[.slice none 0 0, .int .i64 0] 30)) := ((Below.refl _ _).alloc (Nat.le_refl _) _).alloc (by simp) _
  generalize (w.alloc (.cells cs 59)).alloc (.cells #[.slice none 0 0, .int .i64 0] 30) = w0 at *
  refine ⟨w0, _, rfl, hb, fun wr L n P K h j => (h.below.cell (p := ⟨w.heap.size, j, none⟩) (by rw [hs]; show w.heap.size < _; omega)).trans (hc j), fun wr L n P K h => (h.below.block _ (by rw [hs]; omega)).trans hr, hs, ?_⟩
  have := Wr.start w0
  rwa [hs] at this

theorem res23 {tmps : Array Value} {w : World} {g : Nat} {a b u : Value} (hp : tmps.getD 2 undef = .pointer (some ⟨g, 0, none⟩)) (hu : tmps.getD 3 undef = u) (h0 : w.cell? ⟨g, 0, none⟩ = some a) (h1 : w.cell? ⟨g, 1, none⟩ = some b) :
    (results Tryz.f23 tmps).run Tryz.prog w = .ok (.tuple #[.agg #[a, b], u]) w := by
  rw [results_cell_tmp rfl, hp, hu]
  simp [asAddr, go_sem, h0, h1]
theorem coded_end {tmps : Array Value} {w : World} {g : Nat} {a b u : Value} {R : Ending → World → Prop} (hp : tmps.getD 2 undef = .pointer (some ⟨g, 0, none⟩)) (hu : tmps.getD 3 undef = u) (h0 : w.cell? ⟨g, 0, none⟩ = some a) (h1 : w.cell? ⟨g, 1, none⟩ = some b)
    (hR : R (.returned (.tuple #[.agg #[a, b], u])) w) : bodyPost Tryz.prog Tryz.f23 R .ret { tmps := tmps, defers := [] } w := bodyPost_ret (res23 hp hu h0 h1) rfl hR
/-- a row of numbers that the call owns can be read -/
theorem nums_owned {W : World} {base n : Nat} {v : Value} {L : List Int} (h : W.ownsRow base 3 1 v n (L.map (Value.int .i64))) : Nums W v L := by
  have hn : L.length = n := by simpa using h.1
  rcases h.2 with ⟨rfl, h0⟩ | ⟨g, cap, cur, rfl, hg, hh, _⟩
  · rw [List.length_eq_zero_iff.1 (hn.trans h0)]
    exact ⟨none, 0, rfl, fun h => absurd rfl h⟩
  · refine ⟨some ⟨g, 0, none⟩, cap, by rw [hn], fun _ => ⟨g, 0, rfl, (Array.getElem?_eq_some_iff.1 hh).1, fun j hj => ?_⟩⟩
    have := h.cells (g := g) rfl j (.int .i64 (L.getD j 0)) (by
      rw [List.getElem?_map, List.getElem?_eq_getElem hj, List.getD_eq_getElem?_getD, List.getElem?_eq_getElem hj]; rfl)
    rcases Nat.eq_zero_or_pos j with rfl | h0
    · simpa [Addr.add] using this
    · simpa [Addr.add, Nat.pos_iff_ne_zero.1 h0] using this
/-- the result's two cells are stored -/
theorem stored {w wz : World} {bc : Nat} {a0 b0 : Value} (a b : Value) (hr : wz.heap[bc + 1]? = some (.cells #[a0, b0] 30 (0, 0))) (hb : Below bc w wz) (hbc : w.heap.size = bc) :
    ((wz.setCell ⟨bc + 1, 0, none⟩ a).setCell ⟨bc + 1, 1, none⟩ b).cell? ⟨bc + 1, 0, none⟩ = some a ∧ ((wz.setCell ⟨bc + 1, 0, none⟩ a).setCell ⟨bc + 1, 1, none⟩ b).cell? ⟨bc + 1, 1, none⟩ = some b ∧
    Below w.heap.size w ((wz.setCell ⟨bc + 1, 0, none⟩ a).setCell ⟨bc + 1, 1, none⟩ b) := by
  have k : ((wz.setCell ⟨bc + 1, 0, none⟩ a).setCell ⟨bc + 1, 1, none⟩ b).heap[bc + 1]? = some (.cells #[a, b] 30 (0, 0)) :=
    heap_setCell_same _ (bc + 1) 1 _ 30 b (heap_setCell_same wz (bc + 1) 0 _ 30 a hr)
  subst hbc
  exact ⟨by simp [World.cell?, k], by simp [World.cell?, k], (hb.setCell (show w.heap.size ≤ w.heap.size + 1 by omega) a).setCell (show w.heap.size ≤ w.heap.size + 1 by omega) b⟩
theorem nums_stored {wz : World} {bc n : Nat} {a b v : Value} {L : List Int} (h : wz.ownsRow (bc + 1 + 1 + 1) 3 1 v n (L.map (Value.int .i64))) : Nums (((wz.drewN 1).setCell ⟨bc + 1, 0, none⟩ a).setCell ⟨bc + 1, 1, none⟩ b) v L :=
  nums_owned (ownsRow_setCell_below (ownsRow_setCell_below (w := wz.drewN 1) h (a := ⟨bc + 1, 0, none⟩) (show bc + 1 < bc + 1 + 1 + 1 by omega) a) (a := ⟨bc + 1, 1, none⟩) (show bc + 1 < bc + 1 + 1 + 1 by omega) b)
theorem cut_eq {L cl : List Int} (h : cut20 L = cl) (hl : ¬ 20000 < cl.length) : L = cl := by
  subst h
  have h1 := cut20_le (L := L) (by omega)
  unfold cut20
  rw [List.take_of_length_le (by omega)]
theorem fw {w0 : World} {wb : Nat} {w : World} {L : List Int} {n : Nat} {P : Prop} {K : List (Nat × Obj)} {c : Cl} (_h : Wr w0 wb w L n P K) (f : P → c.wrote L) : Hid (P → c.wrote L) := Lib.hid f
end Go.Proofs.YtckdgniecdfedaaGreatDoor
end
section
/- The walk of Seal over any numbers: it hands back some number. -/
namespace Go.Proofs.YtckdgniecdfedaaGreatDoor
open Go.RowKit
set_option maxHeartbeats 1000000 in
theorem seal_some {v : Value} {zs : List Int} (w : World) (hv : Nums w v zs) (hl : zs.length ≤ 1000000) :
    Calls Tryz.prog 10 #[v] w fun e w' => (∃ s, e = .returned (.int .i64 s)) ∧ w = w' := by
  obtain ⟨a, c, rfl, hc⟩ := hv
  have HC := Lib.hid hc
  clear hc
  go_enter Tryz.func10, Tryz.ntmps10
  go_wp2
  go_loop [3, 4, 9] (fun s p i => ∃ (k : Nat) (x y : Int), k ≤ zs.length ∧ i = .int .i64 k ∧ s = .int .i64 x ∧ p = .int .i64 y ∧ 0 ≤ x ∧ x < 65521 ∧ 0 ≤ y ∧ y < 65521) (fun _ _ i => zs.length - (intOf i).toNat)
  case atStart => exact ⟨0, 0, 1, Nat.zero_le _, rfl, rfl, rfl, by omega, by omega, by omega, by omega⟩
  case round =>
    obtain ⟨k, x, y, hk, rfl, rfl, rfl, x0, x1, y0, y1⟩ := hrel
    by_cases hlt : k < zs.length
    · obtain ⟨b, off, rfl, hb, hcell⟩ := HC.out (fun e => by rw [e] at hlt; simp at hlt)
      have hck := hcell k hlt
      clear hcell
      generalize zs.getD k 0 = z at hck
      obtain ⟨r, hr⟩ : ∃ r, Int.tmod z 65521 = r := ⟨_, rfl⟩
      have hr1 : -65521 < r := by
        have h1 : (-z).tmod 65521 < 65521 := Int.tmod_lt_of_pos (-z) (by decide)
        rw [Int.neg_tmod, hr] at h1
        omega
      have hr2 : r < 65521 := by rw [← hr]; exact Int.tmod_lt_of_pos z (by decide)
      obtain ⟨q, hq⟩ : ∃ q, y * 3 % 65521 = q := ⟨_, rfl⟩
      have hq0 : 0 ≤ q := by rw [← hq]; exact Int.emod_nonneg _ (by decide)
      have hq1 : q < 65521 := by rw [← hq]; exact Int.emod_lt_of_pos _ (by decide)
      obtain ⟨t, ht⟩ : ∃ t, (r + 65521) % 65521 = t := ⟨_, rfl⟩
      have ht0 : 0 ≤ t := by rw [← ht]; exact Int.emod_nonneg _ (by decide)
      have ht1 : t < 65521 := by rw [← ht]; exact Int.emod_lt_of_pos _ (by decide)
      have hm0 : 0 ≤ t * q := Int.mul_nonneg ht0 hq0
      have hm1 : t * q ≤ 65521 * 65521 := Int.mul_le_mul (by omega) (by omega) hq0 (by omega)
      go_wp2
      go_round
      case rel => exact ⟨k + 1, _, _, by omega, by go_num, rfl, rfl, by omega, by omega, by omega, by omega⟩
      case measure => simp [intOf]; omega
    · have hge : k = zs.length := by omega
      subst hge
      go_wp2
      go_ret
      exact ⟨⟨_, rfl⟩, rfl⟩
end Go.Proofs.YtckdgniecdfedaaGreatDoor
end
section
/- The walk of Encode: claims of kind 0. -/
namespace Go.Proofs.YtckdgniecdfedaaGreatDoor
open Go.RowKit

set_option maxRecDepth 100000 in
set_option maxHeartbeats 4000000 in
theorem encode_0 (w : World) (x : Cv) (c : Cl) (h : ClV w x c) (hn : c.args.nodes + 1 + c.res.nodes < 33554432) (k1 : c.kind ≠ 1) (k2 : c.kind ≠ 2) (k3 : c.kind ≠ 3) (k4 : c.kind ≠ 4) : Calls Tryz.prog 23 #[.agg (x.cells c)] w (Coded w c) := by
  obtain ⟨w0, w1, e1, hB, hC, hR, hs, hW⟩ := claim_start w (x.cells c)
  have HV := Lib.hid (h.keep hB)
  have HBl := Lib.hid hB
  have HC := Lib.hid hC
  have HR := Lib.hid hR
  have HS0 := Lib.hid hs
  have HW := Lib.hid hW
  have E1 := Lib.hid e1
  have HNN : Hid (0 + c.form.nodes < 33554432) := Lib.hid (by simp only [Cl.form, Fs.nodes]; omega)
  have HNR : Hid (0 + c.form.nodes + c.res.nodes < 33554432) := Lib.hid (by simp only [Cl.form, Fs.nodes]; omega)
  clear h hB hC hR hs hW e1 hn
  unfold Cv.cells at HC E1 ⊢
  go_enter Tryz.func23, Tryz.ntmps23
  go_upto_region 2 with fail
  rw [← E1.out]
  clear E1
  generalize Value.agg #[.int .i64 c.kind, .slice x.a1 c.sigs.length x.c1, .int .i64 c.op, .string c.nm, .int .i64 c.val, .int .i64 c.bd, .slice x.a6 c.args.len x.c6, .int .i64 c.ctrl.ins, .int .i64 c.ctrl.outs, .int .i64 c.ctrl.start, .slice x.a10 c.ctrl.out.length x.c10, .slice x.a11 c.ctrl.next.length x.c11, .int .i64 c.env.ins, .int .i64 c.env.outs, .int .i64 c.env.start, .slice x.a15 c.env.inn.length x.c15, .slice x.a16 c.env.next.length x.c16, .slice x.a17 c.spots.length x.c17, .slice x.a18 c.game.owner.length x.c18, .slice x.a19 c.game.prio.length x.c19, .slice x.a20 c.game.succ.length x.c20, .slice x.a21 c.game.meas.length x.c21, .slice x.a22 c.letters.length x.c22, .slice x.a23 c.res.len x.c23] = v0
  have t0 := HC.out _ _ _ _ _ HW.out 0
  simp only [List.getElem?_toArray, List.getElem?_cons_zero] at t0
  generalize hbc : w.heap.size = bc at *
  have HBC := Lib.hid hbc
  clear hbc
  go_upto_region 3 with (first | (go_at_call 67; refine (put1 HW.out _).mono ?_; rintro e w2 ⟨rfl, h2⟩))
  have H2 := Lib.hid h2
  have t2 := HC.out _ _ _ _ _ h2 0
  simp only [List.getElem?_toArray, List.getElem?_cons_zero] at t2
  clear h2 t0
  have d1 : (c.kind == 1) = false := by simpa using k1
  have d2 : (c.kind == 2) = false := by simpa using k2
  have d3 : (c.kind == 3) = false := by simpa using k3
  have d4 : (c.kind == 4) = false := by simpa using k4
  clear k1 k2 k3 k4
  go_upto_region 5 with fail
  clear t2
  obtain ⟨aw, cw, b, g, hh, hown, hP, q0, q1, q2, q3, kf⟩ := H2.out.cells
  have f2 := kf 2
  clear hh hown hP q0 q1 q3 kf
  have H3 := Lib.hid (H2.out.bad true (Q := False) (fun h => by cases h))
  go_upto_region 29 with fail
  clear q2 f2
  generalize w2.setCell ⟨bc + 1 + 1, 2, none⟩ (.bool true) = w3 at *
  obtain ⟨az, cz, bz, gz, hh, hown, hP, z0, z1, z2, z3, kf⟩ := H3.out.cells
  have hr := HR.out _ _ _ _ _ H3.out
  have r0 : w3.cell? ⟨bc + 1, 0, none⟩ = some (.slice none 0 0) := by simp [World.cell?, hr]
  have r1 : w3.cell? ⟨bc + 1, 1, none⟩ = some (.int .i64 0) := by simp [World.cell?, hr]
  have s0 : w3.frozen? ⟨bc + 1, 0, none⟩ = false := by simp [World.frozen?, hr]
  have s1 : w3.frozen? ⟨bc + 1, 1, none⟩ = false := by simp [World.frozen?, hr]
  have HP := Lib.hid hP
  have HO := Lib.hid hown
  clear hh hown hP z1 kf hr
  have t17 := HC.out _ _ _ _ _ H3.out 17
  simp only [List.getElem?_toArray, List.getElem?_cons_succ, List.getElem?_cons_zero] at t17
  have HE : Hid (Below bc w w3) := Lib.hid (HBl.out.trans (H3.out.below.mono (by rw [HS0.out]; omega)))
  have FW := fw (c := c) H3.out (fun h => h.elim)
  have HRR := Lib.hid (HR.out _ _ _ _ _ H3.out)
  generalize hcl : cut20 _ = cl at z0 HO
  have HCL := Lib.hid hcl
  clear hcl
  cases bz with
  | true =>
    go_wp2_with fail
    obtain ⟨e0, e1, e2⟩ := stored (.slice none 0 0) (.int .i64 0) HRR.out HE.out HBC.out
    exact coded_end rfl rfl e0 e1 ⟨e2, _, _, _, _, 1, [], rfl, .inl rfl⟩
  | false =>
    exact (HP.out (by first | rfl | trivial)).elim
end Go.Proofs.YtckdgniecdfedaaGreatDoor
end
