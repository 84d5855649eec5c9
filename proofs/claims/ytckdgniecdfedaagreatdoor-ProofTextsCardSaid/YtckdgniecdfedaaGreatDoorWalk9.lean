/- The walk of the law ProofTexts: it hands back true, whatever the numbers, the second argument and the text are, if head does. -/
import Derived.Test.YtckdgniecdfedaaGreatDoorWalk8
import Derived.Test.YtckdgniecdfedaaGreatDoorWalk6
namespace Go.Proofs.YtckdgniecdfedaaGreatDoor
open Go.RowKit

/-- what is asked of the package's variables -/
structure Glob (m : Int) (w : World) : Prop where
  cell : w.cell? ⟨1, 0, none⟩ = some (.int .i64 m)
  lt : 1 < w.heap.size
  tab : Lib.TabIs Tryz.prog w "internal/strconv.uint64pow10" .u64 Lib.pow10Tab
theorem Glob.keep {m : Int} {w w' : World} (h : Glob m w) (hB : Below w.heap.size w w') : Glob m w' :=
  ⟨(hB.cell (p := ⟨1, 0, none⟩) h.lt).trans h.cell, Nat.lt_of_lt_of_le h.lt hB.size, Lib.tabBelow_of_tabIs h.tab w' hB⟩
theorem Glob.pow {m : Int} {w : World} (h : Glob m w) : Pow w.heap.size w := Lib.tabBelow_of_tabIs h.tab

/-- the numbers as natural ones -/
def nats (zs : List Int) : List Nat := zs.map (fun z => (z % 65520).toNat)
theorem nats_ints (zs : List Int) : ints (nats zs) = nums zs := by
  unfold nats nums ints
  rw [List.map_map]
  refine List.map_congr_left fun z _ => ?_
  show (((z % 65520).toNat : Nat) : Int) = z % 65520
  omega
theorem nats_le (zs : List Int) : ∀ n ∈ nats zs, n ≤ 99999 := fun n hn => by
  obtain ⟨z, _, rfl⟩ := List.mem_map.1 hn
  omega
theorem nats_len (zs : List Int) : (nats zs).length = zs.length := by simp [nats]
theorem text_len (sd : Nat) (ns : List Nat) (h0 : sd ≤ 99999) (hn : ∀ n ∈ ns, n ≤ 99999) : (Tx.text sd ns).length ≤ 6 * (ns.length + 1) := by
  have h1 := pre_len (sd :: ns) (ns.length + 1) (by simp) (fun n h => (List.mem_cons.1 h).elim (fun e => e ▸ h0) (hn n))
  have e : pre (sd :: ns) (ns.length + 1) = Tx.text sd ns := by unfold pre Tx.text; rw [List.take_of_length_le (by simp)]
  rwa [e] at h1

theorem parse_len {l : List UInt8} {sx : Nat} {nx : List Nat} (h : Tx.parse l = some (sx, nx)) : nx.length ≤ l.length := by
  unfold Tx.parse at h
  split at h
  · rename_i n ms hm
    have h1 := split_len l
    have h2 : ∀ (ws : List (List UInt8)) (ns : List Nat), Tx.nums ws = some ns → ns.length = ws.length := fun ws => by
      induction ws with
      | nil => intro ns h; simp [Tx.nums] at h; subst h; rfl
      | cons w ws ih =>
        intro ns h
        simp only [Tx.nums] at h
        split at h
        · obtain ⟨ms, h1, rfl⟩ := Option.map_eq_some_iff.1 h
          simp [ih ms h1]
        · cases h
    have h3 := h2 _ _ hm
    injection h with h
    injection h with h4 h5
    subst h5
    simp at h3
    omega
  · cases h
theorem texts_long (w : World) (hh : HeadAt w) (a : Option Addr) (n c : Nat) (x : Int) (s : ByteArray) (h : 200 < n ∨ 2000 < s.size) :
    Calls Tryz.prog 4 #[.slice a n c, .int .u16 x, .string s] w (Yes w) := by
  by_cases hna : 200 < n
  · go_enter Tryz.func4, Tryz.ntmps4
    go_wp2_with (first | (go_at_call 8; refine hh.mono ?_; rintro e w' ⟨rfl, hB⟩))
    go_ret
    exact ⟨rfl, hB⟩
  · have hmb : 2000 < s.size := by omega
    go_enter Tryz.func4, Tryz.ntmps4
    go_wp2_with (first | (go_at_call 8; refine hh.mono ?_; rintro e w' ⟨rfl, hB⟩))
    go_ret
    exact ⟨rfl, hB⟩

set_option maxRecDepth 100000 in
set_option maxHeartbeats 4000000 in
theorem texts_short (w : World) (m : Int) (hh : HeadAt w) (hG : Glob m w) (a : Option Addr) (c : Nat) (zs : List Int) (x : Int) (s : ByteArray) (hA : Words w (.slice a zs.length c) zs) (lz : zs.length ≤ 200) (ls : s.size ≤ 2000) (x0 : 0 ≤ x) (x1 : x < 65536) :
    Calls Tryz.prog 4 #[.slice a zs.length c, .int .u16 x, .string s] w (Yes w) := by
  go_enter Tryz.func4, Tryz.ntmps4
  go_wp2_with fail
  refine hh.mono ?_; rintro e w1 ⟨rfl, hB1⟩
  have hA1 := hA.keep hB1
  have hG1 := hG.keep hB1
  have hz1 := hB1.size
  go_wp2_with fail
  refine (numbers_any w1 hA1 (by omega)).mono ?_; rintro e w2 ⟨v, rfl, hX2, hB2⟩
  have hG2 := hG1.keep hB2
  have hz2 := hB2.size
  have hN2 := hX2.nums
  rw [← nats_ints] at hN2
  obtain ⟨sd, rfl⟩ := Int.eq_ofNat_of_zero_le x0
  have lns : (nats zs).length ≤ 200 := by rw [nats_len]; exact lz
  have hle := nats_le zs
  generalize nats zs = ns at *
  have HN2 := Lib.hid hN2
  have HG2 := Lib.hid hG2
  have HLE := Lib.hid hle
  obtain ⟨a1, c1, rfl, -⟩ := hN2
  rw [List.length_map] at HN2 ⊢
  clear hX2 hA hA1 hG hG1 hG2 hle
  go_wp2_with fail
  have hB3 : Below w2.heap.size w2 (w2.alloc (.cells #[.slice a1 ns.length c1, .int .i64 (sd : Int)] 30)) := (Below.refl _ _).alloc (Nat.le_refl _) _
  have c30 : (w2.alloc (.cells #[.slice a1 ns.length c1, .int .i64 (sd : Int)] 30)).heap[w2.heap.size]? = some (.cells #[.slice a1 ns.length c1, .int .i64 (sd : Int)] 30 (0, 0)) := heap_alloc_new w2 _
  have hz3 : (w2.alloc (.cells #[.slice a1 ns.length c1, .int .i64 (sd : Int)] 30)).heap.size = w2.heap.size + 1 := by simp
  generalize w2.alloc (.cells #[.slice a1 ns.length c1, .int .i64 (sd : Int)] 30) = w3 at *
  have HN3 := Lib.hid (HN2.out.keep hB3)
  have HG3 := Lib.hid (HG2.out.keep hB3)
  have C30 := Lib.hid c30
  have Z3 := Lib.hid hz3
  have hz3' : w2.heap.size < w3.heap.size := by omega
  clear c30 hz3
  refine (text_any sd ns w3 HN3.out (by omega) (by omega) HLE.out HG3.out.pow).mono ?_; rintro e w4 ⟨rfl, hB4⟩
  have hz4 := hB4.size
  have HG4 := Lib.hid (HG3.out.keep hB4)
  have C40 := Lib.hid ((hB4.block w2.heap.size hz3').trans C30.out)
  have HN4 := Lib.hid (HN3.out.keep hB4)
  have HTL : Hid ((Tx.text sd ns).length ≤ 100000) := Lib.hid (by have := text_len sd ns (by omega) HLE.out; omega)
  have HPT : Hid (Tx.parse (Tx.text sd ns) = some (sd, ns)) := Lib.hid (Tx.parse_text sd ns (by omega) HLE.out)
  generalize Tx.text sd ns = tl at *
  go_wp2_with fail
  refine (parse_any ⟨tl.toArray⟩ m w4 (by show tl.toArray.size ≤ _; rw [List.size_toArray]; have := HTL.out; omega) HG4.out.cell HG4.out.lt).mono ?_
  rintro e w5 (⟨sd', ns', v5, hp, rfl, hN5, hB5⟩ | ⟨hp, _, _⟩)
  case inr => have e1 := HPT.out; have : Tx.parse tl = none := hp; rw [e1] at this; cases this
  have e1 := HPT.out
  have e2 : Tx.parse tl = some (sd', ns') := hp
  rw [e1] at e2
  simp only [Option.some.injEq, Prod.mk.injEq] at e2
  obtain ⟨rfl, rfl⟩ := e2
  clear hp e1
  have hz5 := hB5.size
  have HG5 := Lib.hid (HG4.out.keep hB5)
  have C50 := Lib.hid ((hB5.block w2.heap.size (by omega)).trans C40.out)
  have HN5 := Lib.hid (HN4.out.keep hB5)
  have HV5 := Lib.hid hN5
  obtain ⟨a5, c5, rfl, -⟩ := hN5
  rw [List.length_map] at HV5 ⊢
  have k0 : w5.cell? ⟨w2.heap.size, 0, none⟩ = some (.slice a1 ns.length c1) := by simp [World.cell?, C50.out]
  have k1 : w5.cell? ⟨w2.heap.size, 1, none⟩ = some (.int .i64 (sd : Int)) := by simp [World.cell?, C50.out]
  have hlt5 : w2.heap.size < w5.heap.size := by omega
  have HB1 := Lib.hid hB1
  have HB2 := Lib.hid hB2
  have HB3 := Lib.hid hB3
  have HB4 := Lib.hid hB4
  have HB5 := Lib.hid hB5
  have HZ := Lib.hid (And.intro hz1 (And.intro hz2 (And.intro hz4 hz5)))
  clear hB1 hB2 hB3 hB4 hB5 hz1 hz2 hz4 hz5 hz3'
  go_wp2_with fail
  have hB6 : Below w5.heap.size w5 (w5.alloc (.cells #[.slice a5 ns.length c5, .int .i64 (sd : Int)] 30)) := (Below.refl _ _).alloc (Nat.le_refl _) _
  have hz6 := hB6.size
  generalize w5.alloc (.cells #[.slice a5 ns.length c5, .int .i64 (sd : Int)] 30) = w6 at *
  have HB6 := Lib.hid hB6
  have HG6 := Lib.hid (HG5.out.keep hB6)
  refine (same_yes (sd : Int) w6 (HN5.out.keep hB6) (HV5.out.keep hB6) (by rw [List.length_map]; omega)).mono ?_
  rintro e w7 ⟨rfl, hB7⟩
  have HB7 := Lib.hid hB7
  have HG7 := Lib.hid (HG6.out.keep hB7)
  have hz7 := hB7.size
  have hBW : Below w.heap.size w w7 := by
    obtain ⟨z1, z2, z4, z5⟩ := HZ.out
    have z3 := Z3.out
    exact HB1.out.trans ((HB2.out.mono z1).trans ((HB3.out.mono (by omega)).trans ((HB4.out.mono (by omega)).trans ((HB5.out.mono (by omega)).trans ((hB6.mono (by omega)).trans (hB7.mono (by omega)))))))
  have HBW := Lib.hid hBW
  have hzw : w.heap.size ≤ w7.heap.size := hBW.size
  clear hB6 hB7 hBW hlt5 k0 k1 C30 C40 C50
  go_wp2_with fail
  refine (parse_any s m w7 (by omega) HG7.out.cell HG7.out.lt).mono ?_
  rintro e w8 (⟨sx, nx, vx, hp, rfl, hN8, hB8⟩ | ⟨hp, rfl, hB8⟩)
  · have hz8 := hB8.size
    have HB8 := Lib.hid hB8
    have HG8 := Lib.hid (HG7.out.keep hB8)
    obtain ⟨ht, h9, hn9⟩ := Tx.text_parse hp
    have hlx := parse_len hp
    have HN8 := Lib.hid hN8
    obtain ⟨ax, cx, rfl, -⟩ := hN8
    rw [List.length_map] at HN8 ⊢
    have HT := Lib.hid ht
    have HN9 := Lib.hid hn9
    have hlx : nx.length ≤ 1000000 := by have : s.data.toList.length = s.size := Array.length_toList; omega
    clear hp ht hn9 hB8
    go_wp2_with fail
    have hB9 : Below w8.heap.size w8 (w8.alloc (.cells #[.slice ax nx.length cx, .int .i64 (sx : Int)] 30)) := (Below.refl _ _).alloc (Nat.le_refl _) _
    have hz9 := hB9.size
    generalize w8.alloc (.cells #[.slice ax nx.length cx, .int .i64 (sx : Int)] 30) = w9 at *
    have HG9 := Lib.hid (HG8.out.keep hB9)
    refine (text_any sx nx w9 (HN8.out.keep hB9) hlx h9 HN9.out HG9.out.pow).mono ?_; rintro e w10 ⟨rfl, hB10⟩
    have es : (⟨(Tx.text sx nx).toArray⟩ : ByteArray) = s := by rw [HT.out]
    rw [es]
    have HB9 := Lib.hid hB9
    clear hB9 es
    go_wp2_with fail
    go_ret
    exact ⟨rfl, HBW.out.trans ((HB8.out.mono hzw).trans ((HB9.out.mono (by omega)).trans (hB10.mono (by omega))))⟩
  · have HB8 := Lib.hid hB8
    clear hB8 hp
    go_wp2_with fail
    go_ret
    exact ⟨rfl, HBW.out.trans ((HB8.out.mono hzw).trans ((Below.refl _ _).alloc (by have := HB8.out.size; omega) _))⟩
end Go.Proofs.YtckdgniecdfedaaGreatDoor
