/- The walk of ProofClaims: it hands back true. -/
import Derived.Test.YtckdgniecdfedaaGreatDoorMgJ
import Derived.Test.YtckdgniecdfedaaGreatDoorCmp13
import Derived.Test.YtckdgniecdfedaaGreatDoorEncE
import Derived.Laws.Rows
namespace Go.Proofs.YtckdgniecdfedaaGreatDoor
open Go.RowKit

theorem few_nodes {f : Fs} {l : Int} (h : f.few l) : (f.nodes : Int) ≤ f.len * l := by
  induction f with
  | nil => simp [Fs.nodes, Fs.len]
  | cons op nm v bd a r _ ih =>
    obtain ⟨h1, h2⟩ := h
    have := ih h2
    simp only [Fs.nodes, Fs.len]
    have e : ((r.len + 1 : Nat) : Int) * l = (r.len : Int) * l + l := by rw [Int.natCast_add, Int.add_mul]; simp
    rw [e]
    omega
theorem Cl.nodes_of {c : Cl} (h : c.little) : c.args.nodes + 1 + c.res.nodes < 33554432 := by
  obtain ⟨h1, h2, h3⟩ := h
  have h4 := few_nodes h3
  have h5 : (c.res.len : Int) * 450 ≤ 12 * 450 := by omega
  omega
/-- the parts of two claims, as they are compared -/
def Cl.alike (a b : Cl) : Prop := a.kind = b.kind ∧ a.sigs = b.sigs ∧ (a.op = b.op ∧ a.nm = b.nm ∧ a.val = b.val ∧ a.bd = b.bd ∧ a.args = b.args) ∧ a.letters = b.letters ∧ a.res = b.res ∧ a.ctrl = b.ctrl ∧ a.env = b.env ∧ (a.game.owner = b.game.owner ∧ a.game.prio = b.game.prio ∧ a.game.succ = b.game.succ) ∧ a.game.meas = b.game.meas ∧ a.spots = b.spots
theorem Cl.alike_iff {a b : Cl} : a.alike b ↔ a = b := by
  constructor
  · rintro ⟨h0, h1, ⟨h2, h3, h4, h5, h6⟩, h7, h8, h9, h10, ⟨h11, h12, h13⟩, h14, h15⟩
    refine Cl.ext' h0 h1 (by unfold Cl.form; rw [h2, h3, h4, h5, h6]) h9 h10 h15 ?_ h7 h8
    cases hg : a.game; cases hg' : b.game
    rw [hg, hg'] at h11 h12 h13 h14
    simp only at h11 h12 h13 h14
    rw [h11, h12, h13, h14]
  · rintro rfl
    exact ⟨rfl, rfl, ⟨rfl, rfl, rfl, rfl, rfl⟩, rfl, rfl, rfl, rfl, ⟨rfl, rfl, rfl⟩, rfl, rfl⟩

theorem Tryz.underlying59 : ∃ fs, Tryz.prog.underlying 59 = some (.struct fs) := by
  cases h : Tryz.prog.underlying 59 with
  | none => exact absurd (show (Tryz.prog.underlying 59).isSome = true by kernel_rfl) (by rw [h]; simp)
  | some d =>
    cases d with
    | struct fs => exact ⟨fs, rfl⟩
    | _ => exact absurd (show (match Tryz.prog.underlying 59 with | some (.struct _) => true | _ => false) = true by kernel_rfl) (by rw [h]; simp)
theorem Tryz.size59 : (Tryz.prog.info? 59).map (·.size) = some 24 := by kernel_rfl
theorem cmp18 {v u : Value} {A B : List Int} (w : World) (hA : Nums w v A) (hB : Nums w u B) (la : A.length ≤ 9223372036854775807) (lb : B.length ≤ 9223372036854775807) : Calls Tryz.prog 18 #[v, u] w (Cmp w (A = B)) :=
  (ints18 w hA hB la lb).mono fun _ _ ⟨e, n, h⟩ => ⟨_, e, by simp [sameB], by rw [h]; exact below_drawn (Below.refl _ _) n⟩
theorem cmp31 {v u : Value} {A B : List (List Int)} (w : World) (hA : RowsV w v A) (hB : RowsV w u B) : Calls Tryz.prog 31 #[v, u] w (Cmp w (A = B)) :=
  (rows31 w hA hB).mono fun _ _ ⟨e, n, h⟩ => ⟨_, e, by simp [rowsB], by rw [h]; exact below_drawn (Below.refl _ _) n⟩
/-- a guarded load of a whole block -/
theorem wpList_load_row_on {P : Program} {ops : Array Oper} {rest : List Oper} {o : Oper} {a : Act} {w : World} {Q : Exit → Act → World → Prop} (hw : Region.wanted o (yielded ops a.tmps) = true) (ty : TypeId) (x : Operand) (ho : o.op = .load ty x)
    (g : Nat) (hx : a.eval x = .pointer (some ⟨g, 0, none⟩)) (t : TypeId) (cs : Array Value) (fr : Nat × Nat) (d : TypeDesc) (hg : w.heap[g]? = some (.cells cs t fr))
    (hu : P.underlying ty = some d) (hd : (match d with | .struct _ | .array _ _ => true | _ => false) = true) (hi : (P.info? ty).map (·.size) = some cs.size)
    (h : wpList P ops Q rest (a.put o.dst (.agg cs)) w) : wpList P ops Q (o :: rest) a w := by
  unfold wpList
  rw [if_pos hw]
  exact .inl (wp_load_row ty x ho g hx t cs fr d hg hu hd hi h)
/-- the world with two blocks more, and what lies in them -/
theorem two_rows (w : World) (cs ds : Array Value) (t u : TypeId) : ∃ w2, w2 = (w.alloc (.cells cs t)).alloc (.cells ds u) ∧ w2.heap.size = w.heap.size + 1 + 1 ∧ Below w.heap.size w w2 ∧
    (∀ wr, Below (w.heap.size + 1 + 1) w2 wr → wr.heap[w.heap.size]? = some (.cells cs t (0, 0)) ∧ wr.heap[w.heap.size + 1]? = some (.cells ds u (0, 0))) := by
  refine ⟨_, rfl, by simp, ((Below.refl _ _).alloc (Nat.le_refl _) _).alloc (by simp) _, fun wr hB => ⟨?_, ?_⟩⟩
  · exact (hB.block _ (by omega)).trans ((heap_alloc_old _ _ (by simp)).trans (heap_alloc_new w _))
  · refine (hB.block _ (by omega)).trans ?_
    have h := heap_alloc_new (w.alloc (.cells cs t)) (.cells ds u)
    rwa [World.size_alloc] at h

set_option maxRecDepth 100000 in
set_option maxHeartbeats 4000000 in
theorem claims_any (W : World) (hh : ∀ w', Below W.heap.size W w' → HeadAt w') (x y : Cv) (a b : Cl) (ca cb : Array Value) (eca : ca = x.cells a) (ecb : cb = y.cells b) (ha : ClV W x a) (hb : ClV W y b) : Calls Tryz.prog 7 #[.agg ca, .agg cb] W (Yes W) := by
  obtain ⟨w2, e2, hs2, hb2, hc2⟩ := two_rows W ca cb 59 59
  obtain ⟨fs59, hu59⟩ := Tryz.underlying59
  have HA := Lib.hid ha
  have HB' := Lib.hid hb
  have HH := Lib.hid (hh w2 hb2)
  have E2 := Lib.hid e2
  have HS := Lib.hid hs2
  have HB2 := Lib.hid hb2
  have HC := Lib.hid hc2
  have HU := Lib.hid hu59
  have HX2 : Hid (Below (W.heap.size + 1 + 1) w2 w2) := Lib.hid (Below.refl _ _)
  have HIA : Hid ((Tryz.prog.info? 59).map (·.size) = some ca.size) := Lib.hid (by rw [eca]; exact Tryz.size59)
  have HIB : Hid ((Tryz.prog.info? 59).map (·.size) = some cb.size) := Lib.hid (by rw [ecb]; exact Tryz.size59)
  have HMA : Hid (∀ wk, ClV wk x a → Calls Tryz.prog 24 #[.agg ca] wk (ToldQ wk a.little)) := Lib.hid (by rw [eca]; exact fun wk h => small24 wk x a h)
  have HMB : Hid (∀ wk, ClV wk y b → Calls Tryz.prog 24 #[.agg cb] wk (ToldQ wk b.little)) := Lib.hid (by rw [ecb]; exact fun wk h => small24 wk y b h)
  have HEA : Hid (∀ wk, ClV wk x a → a.little → Calls Tryz.prog 23 #[.agg ca] wk (Coded wk a)) := Lib.hid (by rw [eca]; exact fun wk h hl => encode_any wk x a h (Cl.nodes_of hl))
  have HEB : Hid (∀ wk, ClV wk y b → b.little → Calls Tryz.prog 23 #[.agg cb] wk (Coded wk b)) := Lib.hid (by rw [ecb]; exact fun wk h hl => encode_any wk y b h (Cl.nodes_of hl))
  have ECA := Lib.hid eca
  have ECB := Lib.hid ecb
  clear ha hb hh e2 hs2 hb2 hc2 hu59 eca ecb
  go_enter Tryz.func7, Tryz.ntmps7
  go_upto_region 1 with fail
  rw [← E2.out]
  clear E2
  generalize hbc : W.heap.size = bc at HS HC HX2 ⊢
  have HBC := Lib.hid hbc
  clear hbc
  go_wp2_with fail
  refine HH.out.mono ?_
  rintro e w3 ⟨rfl, hB⟩
  have HB3 : Hid (Below W.heap.size W w3) := Lib.hid (HB2.out.trans (hB.mono HB2.out.size))
  have HX3 : Hid (Below (bc + 1 + 1) w2 w3) := Lib.hid (HX2.out.trans (hB.mono (by have h1 := HX2.out.size; have h2 := HS.out; omega)))
  clear hB
  go_wp2_with (first | (refine wpList_load_row rfl 59 _ rfl bc rfl 59 _ (0, 0) _ (HC.out w3 HX3.out).1 HU.out rfl HIA.out ?_) | (refine wpList_load_row_on rfl 59 _ rfl bc rfl 59 _ (0, 0) _ (HC.out w3 HX3.out).1 HU.out rfl HIA.out ?_))
  refine (HMA.out w3 (HA.out.keep HB3.out)).mono ?_
  rintro e w4 ⟨y4, rfl, hq, hB⟩
  have HQ4 := Lib.hid hq
  clear hq
  have HB4 : Hid (Below W.heap.size W w4) := Lib.hid (HB3.out.trans (hB.mono HB3.out.size))
  have HX4 : Hid (Below (bc + 1 + 1) w2 w4) := Lib.hid (HX3.out.trans (hB.mono (by have h1 := HX3.out.size; have h2 := HS.out; omega)))
  clear hB
  by_cases hy : y4 = true
  case neg =>
    obtain rfl : y4 = false := by simpa using hy
    go_wp2_with fail
    go_ret
    exact ⟨rfl, HB4.out⟩
  subst hy
  go_wp2_with (first | (refine wpList_load_row rfl 59 _ rfl (bc + 1) rfl 59 _ (0, 0) _ (HC.out w4 HX4.out).2 HU.out rfl HIB.out ?_) | (refine wpList_load_row_on rfl 59 _ rfl (bc + 1) rfl 59 _ (0, 0) _ (HC.out w4 HX4.out).2 HU.out rfl HIB.out ?_))
  refine (HMB.out w4 (HB'.out.keep HB4.out)).mono ?_
  rintro e w5 ⟨y5, rfl, hq, hB⟩
  have HQ5 := Lib.hid hq
  clear hq
  have HB5 : Hid (Below W.heap.size W w5) := Lib.hid (HB4.out.trans (hB.mono HB4.out.size))
  have HX5 : Hid (Below (bc + 1 + 1) w2 w5) := Lib.hid (HX4.out.trans (hB.mono (by have h1 := HX4.out.size; have h2 := HS.out; omega)))
  clear hB
  by_cases hy : y5 = true
  case neg =>
    obtain rfl : y5 = false := by simpa using hy
    go_wp2_with fail
    go_ret
    exact ⟨rfl, HB5.out⟩
  subst hy
  go_wp2_with (first | (refine wpList_load_row rfl 59 _ rfl bc rfl 59 _ (0, 0) _ (HC.out w5 HX5.out).1 HU.out rfl HIA.out ?_) | (refine wpList_load_row_on rfl 59 _ rfl bc rfl 59 _ (0, 0) _ (HC.out w5 HX5.out).1 HU.out rfl HIA.out ?_))
  refine (HEA.out w5 (HA.out.keep HB5.out) (HQ4.out (by first | rfl | trivial))).mono ?_
  rintro e w6 ⟨hB, az6, n6, cz6, s6, k6, L6, rfl, hk⟩
  have HK6 := Lib.hid hk
  clear hk
  have HB6 : Hid (Below W.heap.size W w6) := Lib.hid (HB5.out.trans (hB.mono HB5.out.size))
  have HX6 : Hid (Below (bc + 1 + 1) w2 w6) := Lib.hid (HX5.out.trans (hB.mono (by have h1 := HX5.out.size; have h2 := HS.out; omega)))
  clear hB
  go_upto_region 5 with fail
  obtain ⟨w7, e7, hs7, hB, hc7⟩ := one_box w6 #[.slice az6 n6 cz6, .int .i64 s6] 30
  rw [← e7]
  have HS7 := Lib.hid hs7
  have HC7 := Lib.hid hc7
  clear e7 hs7 hc7
  have HD7 : Hid (Below w6.heap.size w6 w7) := Lib.hid hB
  have HB7 : Hid (Below W.heap.size W w7) := Lib.hid (HB6.out.trans (hB.mono HB6.out.size))
  have HX7 : Hid (Below (bc + 1 + 1) w2 w7) := Lib.hid (HX6.out.trans (hB.mono (by have h1 := HX6.out.size; have h2 := HS.out; omega)))
  clear hB
  generalize hbc6 : w6.heap.size = bc6 at HC7 HS7 ⊢
  have HBC6 := Lib.hid hbc6
  clear hbc6
  go_wp2_with (first | (refine wpList_load_row rfl 59 _ rfl (bc + 1) rfl 59 _ (0, 0) _ (HC.out w7 HX7.out).2 HU.out rfl HIB.out ?_) | (refine wpList_load_row_on rfl 59 _ rfl (bc + 1) rfl 59 _ (0, 0) _ (HC.out w7 HX7.out).2 HU.out rfl HIB.out ?_))
  refine (HEB.out w7 (HB'.out.keep HB7.out) (HQ5.out (by first | rfl | trivial))).mono ?_
  rintro e w8 ⟨hB, az8, n8, cz8, s8, k8, L8, rfl, hk⟩
  have HK8 := Lib.hid hk
  clear hk
  have HB8 : Hid (Below W.heap.size W w8) := Lib.hid (HB7.out.trans (hB.mono HB7.out.size))
  have HX8 : Hid (Below (bc + 1 + 1) w2 w8) := Lib.hid (HX7.out.trans (hB.mono (by have h1 := HX7.out.size; have h2 := HS.out; omega)))
  have HD8 : Hid (Below w7.heap.size w7 w8) := Lib.hid hB
  clear hB
  go_upto_region 6 with fail
  obtain ⟨w9, e9, hs9, hB, hc9⟩ := one_box w8 #[.slice az8 n8 cz8, .int .i64 s8] 30
  rw [← e9]
  have HS9 := Lib.hid hs9
  have HC9 := Lib.hid hc9
  clear e9 hs9 hc9
  have HD9 : Hid (Below w8.heap.size w8 w9) := Lib.hid hB
  have HB9 : Hid (Below W.heap.size W w9) := Lib.hid (HB8.out.trans (hB.mono HB8.out.size))
  have HX9 : Hid (Below (bc + 1 + 1) w2 w9) := Lib.hid (HX8.out.trans (hB.mono (by have h1 := HX8.out.size; have h2 := HS.out; omega)))
  clear hB
  generalize hbc8 : w8.heap.size = bc8 at HC9 HS9 ⊢
  have HBC8 := Lib.hid hbc8
  clear hbc8
  have fin : ∀ k : Int, k = 1 ∨ k = 2 → (k != 0) = true := by
    rintro k (rfl | rfl) <;> rfl
  have FIN := Lib.hid fin
  clear fin
  rcases HK6.out with h6 | h6 | ⟨h6, m6, l6, r6⟩
  · subst h6
    go_wp2_with fail
    go_ret
    exact ⟨rfl, HB9.out⟩
  · subst h6
    go_wp2_with fail
    go_ret
    exact ⟨rfl, HB9.out⟩
  subst h6
  rcases HK8.out with h8 | h8 | ⟨h8, m8, l8, r8⟩
  · subst h8
    go_wp2_with fail
    go_ret
    exact ⟨rfl, HB9.out⟩
  · subst h8
    go_wp2_with fail
    go_ret
    exact ⟨rfl, HB9.out⟩
  subst h8
  have HN6 : Hid (Nums w9 (.slice az6 n6 cz6) L6) := Lib.hid (m6.keep (HD7.out.trans ((HD8.out.trans (HD9.out.mono HD8.out.size)).mono HD7.out.size)))
  have HN8 : Hid (Nums w9 (.slice az8 n8 cz8) L8) := Lib.hid (m8.keep HD9.out)
  have HR6 := Lib.hid r6
  have HR8 := Lib.hid r8
  have HL6 := Lib.hid l6
  have HL8 := Lib.hid l8
  have HG6 : Hid (∀ wr, Below w9.heap.size w9 wr → wr.cell? ⟨bc6, 0, none⟩ = some (.slice az6 n6 cz6)) := Lib.hid fun wr h => by
    have h1 := HC7.out wr ((HD8.out.trans ((HD9.out.trans (h.mono (HD9.out.size))).mono HD8.out.size)).mono (by rw [HS7.out]; exact Nat.le_refl _)) 0
    simpa using h1
  have HG8 : Hid (∀ wr, Below w9.heap.size w9 wr → wr.cell? ⟨bc8, 0, none⟩ = some (.slice az8 n8 cz8)) := Lib.hid fun wr h => by
    have h1 := HC9.out wr (h.mono (by rw [HS9.out]; exact Nat.le_refl _)) 0
    simpa using h1
  clear m6 l6 r6 m8 l8 r8 HK6 HK8
  have HZ9 : Hid (Below w9.heap.size w9 w9) := Lib.hid (Below.refl _ _)
  go_upto_region 8 with fail
  go_cut [10] from 50 (fun s wx => ∃ sm : Bool, s = .bool sm ∧ Hid (sm = true ↔ a.alike b) ∧ Hid (Below w9.heap.size w9 wx))
  case first =>
    have CAJ : Hid (∀ j : Nat, ca[j]? = (#[.int .i64 a.kind, .slice x.a1 a.sigs.length x.c1, .int .i64 a.op, .string a.nm, .int .i64 a.val, .int .i64 a.bd, .slice x.a6 a.args.len x.c6, .int .i64 a.ctrl.ins, .int .i64 a.ctrl.outs, .int .i64 a.ctrl.start, .slice x.a10 a.ctrl.out.length x.c10, .slice x.a11 a.ctrl.next.length x.c11, .int .i64 a.env.ins, .int .i64 a.env.outs, .int .i64 a.env.start, .slice x.a15 a.env.inn.length x.c15, .slice x.a16 a.env.next.length x.c16, .slice x.a17 a.spots.length x.c17, .slice x.a18 a.game.owner.length x.c18, .slice x.a19 a.game.prio.length x.c19, .slice x.a20 a.game.succ.length x.c20, .slice x.a21 a.game.meas.length x.c21, .slice x.a22 a.letters.length x.c22, .slice x.a23 a.res.len x.c23] : Array Value)[j]?) := Lib.hid fun j => by rw [ECA.out]; rfl
    have CBJ : Hid (∀ j : Nat, cb[j]? = (#[.int .i64 b.kind, .slice y.a1 b.sigs.length y.c1, .int .i64 b.op, .string b.nm, .int .i64 b.val, .int .i64 b.bd, .slice y.a6 b.args.len y.c6, .int .i64 b.ctrl.ins, .int .i64 b.ctrl.outs, .int .i64 b.ctrl.start, .slice y.a10 b.ctrl.out.length y.c10, .slice y.a11 b.ctrl.next.length y.c11, .int .i64 b.env.ins, .int .i64 b.env.outs, .int .i64 b.env.start, .slice y.a15 b.env.inn.length y.c15, .slice y.a16 b.env.next.length y.c16, .slice y.a17 b.spots.length y.c17, .slice y.a18 b.game.owner.length y.c18, .slice y.a19 b.game.prio.length y.c19, .slice y.a20 b.game.succ.length y.c20, .slice y.a21 b.game.meas.length y.c21, .slice y.a22 b.letters.length y.c22, .slice y.a23 b.res.len y.c23] : Array Value)[j]?) := Lib.hid fun j => by rw [ECB.out]; rfl
    have HBk : Hid (Below W.heap.size W w9) := Lib.hid (HB9.out.trans (HZ9.out.mono HB9.out.size))
    have HXk : Hid (Below (bc + 1 + 1) w2 w9) := Lib.hid (HX9.out.trans (HZ9.out.mono (by have h1 := HX9.out.size; have h2 := HS.out; omega)))
    have t0 := (cell_of_row _ bc 0 _ _ _ (HC.out w9 HXk.out).1).trans (CAJ.out 0)
    have u0 := (cell_of_row _ (bc + 1) 0 _ _ _ (HC.out w9 HXk.out).2).trans (CBJ.out 0)
    have t1 := (cell_of_row _ bc 1 _ _ _ (HC.out w9 HXk.out).1).trans (CAJ.out 1)
    have u1 := (cell_of_row _ (bc + 1) 1 _ _ _ (HC.out w9 HXk.out).2).trans (CBJ.out 1)
    simp only [List.getElem?_toArray, List.getElem?_cons_succ, List.getElem?_cons_zero] at t0 u0 t1 u1
    by_cases hkd : a.kind = b.kind
    case neg =>
      have hd : (a.kind == b.kind) = false := by simpa using hkd
      have HKD := Lib.hid hkd
      clear hkd
      go_wp2_with fail
      go_meet
      exact ⟨false, rfl, Lib.hid ⟨fun h => (by cases h), fun h => absurd h.1 HKD.out⟩, HZ9⟩
    have hd : (a.kind == b.kind) = true := by simpa using hkd
    have HKD := Lib.hid hkd
    clear hkd
    go_wp2_with fail
    refine (same25 w9 (HA.out.keep HBk.out).sigs (HB'.out.keep HBk.out).sigs).mono ?_
    rintro e p1 ⟨g1, rfl, hq, hB⟩
    have HZp1 : Hid (Below w9.heap.size w9 p1) := Lib.hid (HZ9.out.trans (hB.mono HZ9.out.size))
    clear hB HBk HXk
    by_cases hy : g1 = true
    case neg =>
      have HNQ := Lib.hid (fun h => hy (hq.2 h))
      obtain rfl : g1 = false := by simpa using hy
      clear hq hy
      go_wp2_with fail
      go_meet
      exact ⟨false, rfl, Lib.hid ⟨fun h => (by cases h), fun h => absurd h.2.1 HNQ.out⟩, HZp1⟩
    have HQp1 := Lib.hid (hq.1 hy)
    subst hy
    clear hq
    have HBk : Hid (Below W.heap.size W p1) := Lib.hid (HB9.out.trans (HZp1.out.mono HB9.out.size))
    have HXk : Hid (Below (bc + 1 + 1) w2 p1) := Lib.hid (HX9.out.trans (HZp1.out.mono (by have h1 := HX9.out.size; have h2 := HS.out; omega)))
    clear t0 u0 t1 u1
    have t2 := (cell_of_row _ bc 2 _ _ _ (HC.out p1 HXk.out).1).trans (CAJ.out 2)
    have u2 := (cell_of_row _ (bc + 1) 2 _ _ _ (HC.out p1 HXk.out).2).trans (CBJ.out 2)
    have t3 := (cell_of_row _ bc 3 _ _ _ (HC.out p1 HXk.out).1).trans (CAJ.out 3)
    have u3 := (cell_of_row _ (bc + 1) 3 _ _ _ (HC.out p1 HXk.out).2).trans (CBJ.out 3)
    have t4 := (cell_of_row _ bc 4 _ _ _ (HC.out p1 HXk.out).1).trans (CAJ.out 4)
    have u4 := (cell_of_row _ (bc + 1) 4 _ _ _ (HC.out p1 HXk.out).2).trans (CBJ.out 4)
    have t5 := (cell_of_row _ bc 5 _ _ _ (HC.out p1 HXk.out).1).trans (CAJ.out 5)
    have u5 := (cell_of_row _ (bc + 1) 5 _ _ _ (HC.out p1 HXk.out).2).trans (CBJ.out 5)
    have t6 := (cell_of_row _ bc 6 _ _ _ (HC.out p1 HXk.out).1).trans (CAJ.out 6)
    have u6 := (cell_of_row _ (bc + 1) 6 _ _ _ (HC.out p1 HXk.out).2).trans (CBJ.out 6)
    simp only [List.getElem?_toArray, List.getElem?_cons_succ, List.getElem?_cons_zero] at t2 u2 t3 u3 t4 u4 t5 u5 t6 u6
    go_wp2_with fail
    refine (same26 a.args b.args p1 a.op a.val a.bd b.op b.val b.bd a.nm b.nm x.a6 y.a6 x.c6 y.c6 (HA.out.keep HBk.out).args.args.1 (HB'.out.keep HBk.out).args.args.1 (HA.out.keep HBk.out).args.args.2 (HB'.out.keep HBk.out).args.args.2).mono ?_
    rintro e p2 ⟨g2, rfl, hq, hB⟩
    have HZp2 : Hid (Below w9.heap.size w9 p2) := Lib.hid (HZp1.out.trans (hB.mono HZp1.out.size))
    clear hB HBk HXk
    by_cases hy : g2 = true
    case neg =>
      have HNQ := Lib.hid (fun h => hy (hq.2 h))
      obtain rfl : g2 = false := by simpa using hy
      clear hq hy
      go_wp2_with fail
      go_meet
      exact ⟨false, rfl, Lib.hid ⟨fun h => (by cases h), fun h => absurd h.2.2.1 HNQ.out⟩, HZp2⟩
    have HQp2 := Lib.hid (hq.1 hy)
    subst hy
    clear hq
    have HBk : Hid (Below W.heap.size W p2) := Lib.hid (HB9.out.trans (HZp2.out.mono HB9.out.size))
    have HXk : Hid (Below (bc + 1 + 1) w2 p2) := Lib.hid (HX9.out.trans (HZp2.out.mono (by have h1 := HX9.out.size; have h2 := HS.out; omega)))
    clear t2 u2 t3 u3 t4 u4 t5 u5 t6 u6
    have t22 := (cell_of_row _ bc 22 _ _ _ (HC.out p2 HXk.out).1).trans (CAJ.out 22)
    have u22 := (cell_of_row _ (bc + 1) 22 _ _ _ (HC.out p2 HXk.out).2).trans (CBJ.out 22)
    simp only [List.getElem?_toArray, List.getElem?_cons_succ, List.getElem?_cons_zero] at t22 u22
    go_wp2_with fail
    refine (cmp18 p2 (HA.out.keep HBk.out).letters (HB'.out.keep HBk.out).letters (HA.out.keep HBk.out).lettersL (HB'.out.keep HBk.out).lettersL).mono ?_
    rintro e p3 ⟨g3, rfl, hq, hB⟩
    have HZp3 : Hid (Below w9.heap.size w9 p3) := Lib.hid (HZp2.out.trans (hB.mono HZp2.out.size))
    clear hB HBk HXk
    by_cases hy : g3 = true
    case neg =>
      have HNQ := Lib.hid (fun h => hy (hq.2 h))
      obtain rfl : g3 = false := by simpa using hy
      clear hq hy
      go_wp2_with fail
      go_meet
      exact ⟨false, rfl, Lib.hid ⟨fun h => (by cases h), fun h => absurd h.2.2.2.1 HNQ.out⟩, HZp3⟩
    have HQp3 := Lib.hid (hq.1 hy)
    subst hy
    clear hq
    have HBk : Hid (Below W.heap.size W p3) := Lib.hid (HB9.out.trans (HZp3.out.mono HB9.out.size))
    have HXk : Hid (Below (bc + 1 + 1) w2 p3) := Lib.hid (HX9.out.trans (HZp3.out.mono (by have h1 := HX9.out.size; have h2 := HS.out; omega)))
    clear t22 u22
    have t23 := (cell_of_row _ bc 23 _ _ _ (HC.out p3 HXk.out).1).trans (CAJ.out 23)
    have u23 := (cell_of_row _ (bc + 1) 23 _ _ _ (HC.out p3 HXk.out).2).trans (CBJ.out 23)
    simp only [List.getElem?_toArray, List.getElem?_cons_succ, List.getElem?_cons_zero] at t23 u23
    go_wp2_with fail
    refine (sameList27 a.res b.res p3 (HA.out.keep HBk.out).res (HB'.out.keep HBk.out).res).mono ?_
    rintro e p4 ⟨g4, rfl, hq, hB⟩
    have HZp4 : Hid (Below w9.heap.size w9 p4) := Lib.hid (HZp3.out.trans (hB.mono HZp3.out.size))
    clear hB HBk HXk
    by_cases hy : g4 = true
    case neg =>
      have HNQ := Lib.hid (fun h => hy (hq.2 h))
      obtain rfl : g4 = false := by simpa using hy
      clear hq hy
      go_wp2_with fail
      go_meet
      exact ⟨false, rfl, Lib.hid ⟨fun h => (by cases h), fun h => absurd h.2.2.2.2.1 HNQ.out⟩, HZp4⟩
    have HQp4 := Lib.hid (hq.1 hy)
    subst hy
    clear hq
    have HBk : Hid (Below W.heap.size W p4) := Lib.hid (HB9.out.trans (HZp4.out.mono HB9.out.size))
    have HXk : Hid (Below (bc + 1 + 1) w2 p4) := Lib.hid (HX9.out.trans (HZp4.out.mono (by have h1 := HX9.out.size; have h2 := HS.out; omega)))
    clear t23 u23
    have t7 := (cell_of_row _ bc 7 _ _ _ (HC.out p4 HXk.out).1).trans (CAJ.out 7)
    have u7 := (cell_of_row _ (bc + 1) 7 _ _ _ (HC.out p4 HXk.out).2).trans (CBJ.out 7)
    have t8 := (cell_of_row _ bc 8 _ _ _ (HC.out p4 HXk.out).1).trans (CAJ.out 8)
    have u8 := (cell_of_row _ (bc + 1) 8 _ _ _ (HC.out p4 HXk.out).2).trans (CBJ.out 8)
    have t9 := (cell_of_row _ bc 9 _ _ _ (HC.out p4 HXk.out).1).trans (CAJ.out 9)
    have u9 := (cell_of_row _ (bc + 1) 9 _ _ _ (HC.out p4 HXk.out).2).trans (CBJ.out 9)
    have t10 := (cell_of_row _ bc 10 _ _ _ (HC.out p4 HXk.out).1).trans (CAJ.out 10)
    have u10 := (cell_of_row _ (bc + 1) 10 _ _ _ (HC.out p4 HXk.out).2).trans (CBJ.out 10)
    have t11 := (cell_of_row _ bc 11 _ _ _ (HC.out p4 HXk.out).1).trans (CAJ.out 11)
    have u11 := (cell_of_row _ (bc + 1) 11 _ _ _ (HC.out p4 HXk.out).2).trans (CBJ.out 11)
    simp only [List.getElem?_toArray, List.getElem?_cons_succ, List.getElem?_cons_zero] at t7 u7 t8 u8 t9 u9 t10 u10 t11 u11
    go_wp2_with fail
    refine (same28 p4 a.ctrl b.ctrl (HA.out.keep HBk.out).out (HB'.out.keep HBk.out).out (HA.out.keep HBk.out).next (HB'.out.keep HBk.out).next).mono ?_
    rintro e p5 ⟨g5, rfl, hq, hB⟩
    have HZp5 : Hid (Below w9.heap.size w9 p5) := Lib.hid (HZp4.out.trans (hB.mono HZp4.out.size))
    clear hB HBk HXk
    by_cases hy : g5 = true
    case neg =>
      have HNQ := Lib.hid (fun h => hy (hq.2 h))
      obtain rfl : g5 = false := by simpa using hy
      clear hq hy
      go_wp2_with fail
      go_meet
      exact ⟨false, rfl, Lib.hid ⟨fun h => (by cases h), fun h => absurd h.2.2.2.2.2.1 HNQ.out⟩, HZp5⟩
    have HQp5 := Lib.hid (hq.1 hy)
    subst hy
    clear hq
    have HBk : Hid (Below W.heap.size W p5) := Lib.hid (HB9.out.trans (HZp5.out.mono HB9.out.size))
    have HXk : Hid (Below (bc + 1 + 1) w2 p5) := Lib.hid (HX9.out.trans (HZp5.out.mono (by have h1 := HX9.out.size; have h2 := HS.out; omega)))
    clear t7 u7 t8 u8 t9 u9 t10 u10 t11 u11
    have t12 := (cell_of_row _ bc 12 _ _ _ (HC.out p5 HXk.out).1).trans (CAJ.out 12)
    have u12 := (cell_of_row _ (bc + 1) 12 _ _ _ (HC.out p5 HXk.out).2).trans (CBJ.out 12)
    have t13 := (cell_of_row _ bc 13 _ _ _ (HC.out p5 HXk.out).1).trans (CAJ.out 13)
    have u13 := (cell_of_row _ (bc + 1) 13 _ _ _ (HC.out p5 HXk.out).2).trans (CBJ.out 13)
    have t14 := (cell_of_row _ bc 14 _ _ _ (HC.out p5 HXk.out).1).trans (CAJ.out 14)
    have u14 := (cell_of_row _ (bc + 1) 14 _ _ _ (HC.out p5 HXk.out).2).trans (CBJ.out 14)
    have t15 := (cell_of_row _ bc 15 _ _ _ (HC.out p5 HXk.out).1).trans (CAJ.out 15)
    have u15 := (cell_of_row _ (bc + 1) 15 _ _ _ (HC.out p5 HXk.out).2).trans (CBJ.out 15)
    have t16 := (cell_of_row _ bc 16 _ _ _ (HC.out p5 HXk.out).1).trans (CAJ.out 16)
    have u16 := (cell_of_row _ (bc + 1) 16 _ _ _ (HC.out p5 HXk.out).2).trans (CBJ.out 16)
    simp only [List.getElem?_toArray, List.getElem?_cons_succ, List.getElem?_cons_zero] at t12 u12 t13 u13 t14 u14 t15 u15 t16 u16
    go_wp2_with fail
    refine (same29 p5 a.env b.env (HA.out.keep HBk.out).inn (HB'.out.keep HBk.out).inn (HA.out.keep HBk.out).innL (HB'.out.keep HBk.out).innL (HA.out.keep HBk.out).enext (HB'.out.keep HBk.out).enext).mono ?_
    rintro e p6 ⟨g6, rfl, hq, hB⟩
    have HZp6 : Hid (Below w9.heap.size w9 p6) := Lib.hid (HZp5.out.trans (hB.mono HZp5.out.size))
    clear hB HBk HXk
    by_cases hy : g6 = true
    case neg =>
      have HNQ := Lib.hid (fun h => hy (hq.2 h))
      obtain rfl : g6 = false := by simpa using hy
      clear hq hy
      go_wp2_with fail
      go_meet
      exact ⟨false, rfl, Lib.hid ⟨fun h => (by cases h), fun h => absurd h.2.2.2.2.2.2.1 HNQ.out⟩, HZp6⟩
    have HQp6 := Lib.hid (hq.1 hy)
    subst hy
    clear hq
    have HBk : Hid (Below W.heap.size W p6) := Lib.hid (HB9.out.trans (HZp6.out.mono HB9.out.size))
    have HXk : Hid (Below (bc + 1 + 1) w2 p6) := Lib.hid (HX9.out.trans (HZp6.out.mono (by have h1 := HX9.out.size; have h2 := HS.out; omega)))
    clear t12 u12 t13 u13 t14 u14 t15 u15 t16 u16
    have t18 := (cell_of_row _ bc 18 _ _ _ (HC.out p6 HXk.out).1).trans (CAJ.out 18)
    have u18 := (cell_of_row _ (bc + 1) 18 _ _ _ (HC.out p6 HXk.out).2).trans (CBJ.out 18)
    have t19 := (cell_of_row _ bc 19 _ _ _ (HC.out p6 HXk.out).1).trans (CAJ.out 19)
    have u19 := (cell_of_row _ (bc + 1) 19 _ _ _ (HC.out p6 HXk.out).2).trans (CBJ.out 19)
    have t20 := (cell_of_row _ bc 20 _ _ _ (HC.out p6 HXk.out).1).trans (CAJ.out 20)
    have u20 := (cell_of_row _ (bc + 1) 20 _ _ _ (HC.out p6 HXk.out).2).trans (CBJ.out 20)
    simp only [List.getElem?_toArray, List.getElem?_cons_succ, List.getElem?_cons_zero] at t18 u18 t19 u19 t20 u20
    go_wp2_with fail
    refine (same30 p6 a.game.owner a.game.prio b.game.owner b.game.prio a.game.succ b.game.succ (HA.out.keep HBk.out).owner (HA.out.keep HBk.out).prio (HA.out.keep HBk.out).succ (HB'.out.keep HBk.out).owner (HB'.out.keep HBk.out).prio (HB'.out.keep HBk.out).succ (HA.out.keep HBk.out).ownerL (HA.out.keep HBk.out).prioL (HB'.out.keep HBk.out).ownerL (HB'.out.keep HBk.out).prioL).mono ?_
    rintro e p7 ⟨g7, rfl, hq, hB⟩
    have HZp7 : Hid (Below w9.heap.size w9 p7) := Lib.hid (HZp6.out.trans (hB.mono HZp6.out.size))
    clear hB HBk HXk
    by_cases hy : g7 = true
    case neg =>
      have HNQ := Lib.hid (fun h => hy (hq.2 h))
      obtain rfl : g7 = false := by simpa using hy
      clear hq hy
      go_wp2_with fail
      go_meet
      exact ⟨false, rfl, Lib.hid ⟨fun h => (by cases h), fun h => absurd h.2.2.2.2.2.2.2.1 HNQ.out⟩, HZp7⟩
    have HQp7 := Lib.hid (hq.1 hy)
    subst hy
    clear hq
    have HBk : Hid (Below W.heap.size W p7) := Lib.hid (HB9.out.trans (HZp7.out.mono HB9.out.size))
    have HXk : Hid (Below (bc + 1 + 1) w2 p7) := Lib.hid (HX9.out.trans (HZp7.out.mono (by have h1 := HX9.out.size; have h2 := HS.out; omega)))
    clear t18 u18 t19 u19 t20 u20
    have t21 := (cell_of_row _ bc 21 _ _ _ (HC.out p7 HXk.out).1).trans (CAJ.out 21)
    have u21 := (cell_of_row _ (bc + 1) 21 _ _ _ (HC.out p7 HXk.out).2).trans (CBJ.out 21)
    simp only [List.getElem?_toArray, List.getElem?_cons_succ, List.getElem?_cons_zero] at t21 u21
    go_wp2_with fail
    refine (cmp31 p7 (HA.out.keep HBk.out).meas (HB'.out.keep HBk.out).meas).mono ?_
    rintro e p8 ⟨g8, rfl, hq, hB⟩
    have HZp8 : Hid (Below w9.heap.size w9 p8) := Lib.hid (HZp7.out.trans (hB.mono HZp7.out.size))
    clear hB HBk HXk
    by_cases hy : g8 = true
    case neg =>
      have HNQ := Lib.hid (fun h => hy (hq.2 h))
      obtain rfl : g8 = false := by simpa using hy
      clear hq hy
      go_wp2_with fail
      go_meet
      exact ⟨false, rfl, Lib.hid ⟨fun h => (by cases h), fun h => absurd h.2.2.2.2.2.2.2.2.1 HNQ.out⟩, HZp8⟩
    have HQp8 := Lib.hid (hq.1 hy)
    subst hy
    clear hq
    have HBk : Hid (Below W.heap.size W p8) := Lib.hid (HB9.out.trans (HZp8.out.mono HB9.out.size))
    have HXk : Hid (Below (bc + 1 + 1) w2 p8) := Lib.hid (HX9.out.trans (HZp8.out.mono (by have h1 := HX9.out.size; have h2 := HS.out; omega)))
    clear t21 u21
    have t17 := (cell_of_row _ bc 17 _ _ _ (HC.out p8 HXk.out).1).trans (CAJ.out 17)
    have u17 := (cell_of_row _ (bc + 1) 17 _ _ _ (HC.out p8 HXk.out).2).trans (CBJ.out 17)
    simp only [List.getElem?_toArray, List.getElem?_cons_succ, List.getElem?_cons_zero] at t17 u17
    go_wp2_with fail
    refine (spots32 p8 (HA.out.keep HBk.out).spots (HB'.out.keep HBk.out).spots).mono ?_
    rintro e p9 ⟨g9, rfl, hq, hB⟩
    have HZp9 : Hid (Below w9.heap.size w9 p9) := Lib.hid (HZp8.out.trans (hB.mono HZp8.out.size))
    clear hB HBk HXk
    by_cases hy : g9 = true
    case neg =>
      have HNQ := Lib.hid (fun h => hy (hq.2 h))
      obtain rfl : g9 = false := by simpa using hy
      clear hq hy
      go_wp2_with fail
      go_meet
      exact ⟨false, rfl, Lib.hid ⟨fun h => (by cases h), fun h => absurd h.2.2.2.2.2.2.2.2.2 HNQ.out⟩, HZp9⟩
    have HQp9 := Lib.hid (hq.1 hy)
    subst hy
    clear hq
    clear t17 u17
    go_wp2_with fail
    go_meet
    exact ⟨true, rfl, Lib.hid ⟨fun _ => ⟨HKD.out, HQp1.out, HQp2.out, HQp3.out, HQp4.out, HQp5.out, HQp6.out, HQp7.out, HQp8.out, HQp9.out⟩, fun _ => rfl⟩, HZp9⟩
  case rest =>
    obtain ⟨sm, rfl, HSM, HZ⟩ := hcut
    have r6 := HG6.out wc HZ.out
    have r8 := HG8.out wc HZ.out
    obtain rfl : sm = sameB L6 L8 := (by
      have h1 := HSM.out
      by_cases h : L6 = L8
      · rw [same_of h]
        have h2 := HR6.out
        rw [h] at h2
        exact h1.2 (Cl.alike_iff.2 (Cl.inj h2 HR8.out))
      · rw [same_not h]
        cases sm with
        | false => rfl
        | true =>
          have h2 := Cl.alike_iff.1 (h1.1 (by first | rfl | trivial))
          have h3 := HR6.out
          rw [h2] at h3
          exact absurd (Cl.one h3 HR8.out) h)
    have HF : Hid (Below W.heap.size W wc) := Lib.hid (HB9.out.trans (HZ.out.mono HB9.out.size))
    go_wp2_with fail
    refine (ints18 wc (HN6.out.keep HZ.out) (HN8.out.keep HZ.out) (by have := HL6.out; omega) (by have := HL8.out; omega)).mono ?_
    rintro e w11 ⟨rfl, n11, rfl⟩
    go_wp2_with fail
    go_ret
    exact ⟨by simp, below_drawn HF.out n11⟩
end Go.Proofs.YtckdgniecdfedaaGreatDoor
