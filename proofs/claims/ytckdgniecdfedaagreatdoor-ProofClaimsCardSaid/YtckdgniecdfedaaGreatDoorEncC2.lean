/- The walk of Encode: claims of kind 2. -/
import Derived.Test.YtckdgniecdfedaaGreatDoorMgI
namespace Go.Proofs.YtckdgniecdfedaaGreatDoor
open Go.RowKit

set_option maxRecDepth 100000 in
set_option maxHeartbeats 4000000 in
theorem encode_2 (w : World) (x : Cv) (c : Cl) (h : ClV w x c) (hn : c.args.nodes + 1 + c.res.nodes < 33554432) (hk : c.kind = 2) : Calls Tryz.prog 23 #[.agg (x.cells c)] w (Coded w c) := by
  have K := Lib.hid hk
  clear hk
  obtain ⟨w0, w1, e1, hB, hC, hR, hs, hW⟩ := claim_start w (x.cells c)
  have HV := Lib.hid (h.keep hB)
  have HBl := Lib.hid hB
  have HC := Lib.hid hC
  have HR := Lib.hid hR
  have HS0 := Lib.hid hs
  have HW := Lib.hid hW
  have E1 := Lib.hid e1
  have HNN : Hid (0 + c.form.nodes < 33554432) := Lib.hid (by simp only [Cl.form, Fs.nodes]; omega)
  have HNR : Hid (0 + c.form.nodes + c.res.nodes < 33554432) := Lib.hid (by simp only [Cl.form, Fs.nodes]; omega)
  clear h hB hC hR hs hW e1 hn
  unfold Cv.cells at HC E1 ⊢
  go_enter Tryz.func23, Tryz.ntmps23
  go_upto_region 2 with fail
  rw [← E1.out]
  clear E1
  generalize Value.agg #[.int .i64 c.kind, .slice x.a1 c.sigs.length x.c1, .int .i64 c.op, .string c.nm, .int .i64 c.val, .int .i64 c.bd, .slice x.a6 c.args.len x.c6, .int .i64 c.ctrl.ins, .int .i64 c.ctrl.outs, .int .i64 c.ctrl.start, .slice x.a10 c.ctrl.out.length x.c10, .slice x.a11 c.ctrl.next.length x.c11, .int .i64 c.env.ins, .int .i64 c.env.outs, .int .i64 c.env.start, .slice x.a15 c.env.inn.length x.c15, .slice x.a16 c.env.next.length x.c16, .slice x.a17 c.spots.length x.c17, .slice x.a18 c.game.owner.length x.c18, .slice x.a19 c.game.prio.length x.c19, .slice x.a20 c.game.succ.length x.c20, .slice x.a21 c.game.meas.length x.c21, .slice x.a22 c.letters.length x.c22, .slice x.a23 c.res.len x.c23] = v0
  have t0 := HC.out _ _ _ _ _ HW.out 0
  simp only [List.getElem?_toArray, List.getElem?_cons_zero] at t0
  generalize hbc : w.heap.size = bc at *
  have HBC := Lib.hid hbc
  clear hbc
  go_upto_region 3 with (first | (go_at_call 67; refine (put1 HW.out _).mono ?_; rintro e w2 ⟨rfl, h2⟩))
  have H2 := Lib.hid h2
  have t2 := HC.out _ _ _ _ _ h2 0
  simp only [List.getElem?_toArray, List.getElem?_cons_zero] at t2
  clear h2 t0
  have d1 : (c.kind == 1) = false := by simp [K.out]
  have d2 : (c.kind == 2) = true := by simpa using K.out
  go_upto_region 5 with fail
  clear t2
  go_upto_region 7 with fail
  go_cut [] from 20 (fun wx => Wr w0 (bc + 1 + 1) wx ([] ++ [c.kind]) (0) ((True) ∧ (c.game.zero ∧ c.letters = [] ∧ c.res = .nil)) [])
  case first =>
    obtain ⟨aw, cw, b, g, hh, hown, hP, q0, q1, q2, q3, kf⟩ := H2.out.cells
    have f2 := kf 2
    have HP := Lib.hid hP
    clear hh hown hP q0 q1 q3 kf
    have t18 := HC.out _ _ _ _ _ H2.out 18
    have t19 := HC.out _ _ _ _ _ H2.out 19
    have t20 := HC.out _ _ _ _ _ H2.out 20
    have t21 := HC.out _ _ _ _ _ H2.out 21
    have t22 := HC.out _ _ _ _ _ H2.out 22
    have t23 := HC.out _ _ _ _ _ H2.out 23
    simp only [List.getElem?_toArray, List.getElem?_cons_succ, List.getElem?_cons_zero] at t18 t19 t20 t21 t22 t23
    cases b with
    | true =>
      have A := Lib.hid (H2.out.bad true (Q := (True) ∧ (c.game.zero ∧ c.letters = [] ∧ c.res = .nil)) (fun h => by cases h))
      go_wp2_with fail
      go_meet
      exact A.out
    | false =>
      go_wp2_with fail
      refine (filled_any _ x.a18 x.a19 x.a20 x.a21 x.a22 x.a23 c.game.owner.length c.game.prio.length c.game.succ.length c.game.meas.length c.letters.length c.res.len x.c18 x.c19 x.c20 x.c21 x.c22 x.c23).mono ?_
      rintro e ww ⟨cc, rfl, rfl, hcc⟩
      have HN := Lib.hid (H2.out.alloc (.cells #[.slice x.a18 c.game.owner.length x.c18, .slice x.a19 c.game.prio.length x.c19, .slice x.a20 c.game.succ.length x.c20] 39)).tail
      have FC := Lib.hid hcc
      clear hcc f2
      generalize w2.alloc (.cells #[.slice x.a18 c.game.owner.length x.c18, .slice x.a19 c.game.prio.length x.c19, .slice x.a20 c.game.succ.length x.c20] 39) = wn at *
      clear t18 t19 t20 t21 t22 t23
      obtain ⟨aw2, cw2, b2, g2, hh, hown, hP, q0, q1, q2', q3, kf⟩ := HN.out.cells
      have f2 := kf 2
      clear hh hown hP q0 q1 q3 kf
      have A := Lib.hid (HN.out.bad cc (Q := (True) ∧ (c.game.zero ∧ c.letters = [] ∧ c.res = .nil)) (fun h => ⟨HP.out (by first | rfl | trivial), filled_of (FC.out h)⟩))
      go_wp2_with fail
      go_meet
      exact A.out
  case rest =>
    have H3 := Lib.hid hcut
    clear hcut
    have t1 := HC.out _ _ _ _ _ H3.out 1
    simp only [List.getElem?_toArray, List.getElem?_cons_succ, List.getElem?_cons_zero] at t1
    go_wp2_with fail
    refine (signals_any H3.out HV.out.sigs).mono ?_
    rintro e w4 ⟨rfl, hz⟩
    have H4 := Lib.hid hz
    clear hz t1
    have t2 := HC.out _ _ _ _ _ H4.out 2
    have t3 := HC.out _ _ _ _ _ H4.out 3
    have t4 := HC.out _ _ _ _ _ H4.out 4
    have t5 := HC.out _ _ _ _ _ H4.out 5
    have t6 := HC.out _ _ _ _ _ H4.out 6
    simp only [List.getElem?_toArray, List.getElem?_cons_succ, List.getElem?_cons_zero] at t2 t3 t4 t5 t6
    go_wp2_with fail
    refine (formulas_any (H4.out.alloc (.cells #[.int .i64 c.op, .string c.nm, .int .i64 c.val, .int .i64 c.bd, .slice x.a6 c.args.len x.c6] 48)) (f := c.form) (.inr ⟨w4.heap.size, 1, c.op, c.nm, c.val, c.bd, x.a6, x.c6, c.args, rfl, Nat.le_refl _, List.mem_cons_self, rfl, HV.out.nm, HV.out.args⟩) HNN.out).mono ?_
    rintro e w5 ⟨rfl, hz⟩
    have H5 := Lib.hid hz.tail
    clear hz t2 t3 t4 t5 t6
    have t0 := HC.out _ _ _ _ _ H5.out 0
    simp only [List.getElem?_toArray, List.getElem?_cons_zero] at t0
    go_upto_region 13 with fail
    clear t0
    go_upto_region 13 with fail
    go_cut [] from 67 (fun wx => Wr w0 (bc + 1 + 1) wx ([] ++ [c.kind] ++ (c.sigs.length : Int) :: sgs c.sigs ++ c.form.code) (0 + c.form.nodes) (((True) ∧ (c.game.zero ∧ c.letters = [] ∧ c.res = .nil)) ∧ c.ctrl.zero) [])
    case first =>
      obtain ⟨aw, cw, b, g, hh, hown, hP, q0, q1, q2, q3, kf⟩ := H5.out.cells
      have f2 := kf 2
      have HP := Lib.hid hP
      clear hh hown hP q0 q1 q3 kf
      have t7 := HC.out _ _ _ _ _ H5.out 7
      have t8 := HC.out _ _ _ _ _ H5.out 8
      have t9 := HC.out _ _ _ _ _ H5.out 9
      have t10 := HC.out _ _ _ _ _ H5.out 10
      have t11 := HC.out _ _ _ _ _ H5.out 11
      simp only [List.getElem?_toArray, List.getElem?_cons_succ, List.getElem?_cons_zero] at t7 t8 t9 t10 t11
      cases b with
      | true =>
        have A := Lib.hid (H5.out.bad true (Q := ((True) ∧ (c.game.zero ∧ c.letters = [] ∧ c.res = .nil)) ∧ c.ctrl.zero) (fun h => by cases h))
        go_wp2_with fail
        go_meet
        exact A.out
      | false =>
        go_wp2_with fail
        refine (noCtrl_any _ c.ctrl x.a10 x.a11 x.c10 x.c11).mono ?_
        rintro e ww ⟨cc, rfl, rfl, hcc⟩
        have HNctrl := Lib.hid (H5.out.alloc (.cells #[.int .i64 c.ctrl.ins, .int .i64 c.ctrl.outs, .int .i64 c.ctrl.start, .slice x.a10 c.ctrl.out.length x.c10, .slice x.a11 c.ctrl.next.length x.c11] 54)).tail
        have FCctrl := Lib.hid hcc
        clear hcc
        generalize w5.alloc (.cells #[.int .i64 c.ctrl.ins, .int .i64 c.ctrl.outs, .int .i64 c.ctrl.start, .slice x.a10 c.ctrl.out.length x.c10, .slice x.a11 c.ctrl.next.length x.c11] 54) = wctrl at *
        clear f2 t7 t8 t9 t10 t11
        obtain ⟨aw2, cw2, b2, g2, hh, hown, hP, q0, q1, q2', q3, kf⟩ := HNctrl.out.cells
        have f2 := kf 2
        clear hh hown hP q0 q1 q3 kf
        cases cc with
        | false =>
          have A := Lib.hid (HNctrl.out.bad true (Q := ((True) ∧ (c.game.zero ∧ c.letters = [] ∧ c.res = .nil)) ∧ c.ctrl.zero) (fun h => by cases h))
          go_wp2_with fail
          go_meet
          exact A.out
        | true =>
          have A := Lib.hid (HNctrl.out.bad false (Q := ((True) ∧ (c.game.zero ∧ c.letters = [] ∧ c.res = .nil)) ∧ c.ctrl.zero) (fun _ => ⟨HP.out (by first | rfl | trivial), FCctrl.out (by first | rfl | trivial)⟩))
          go_wp2_with fail
          go_meet
          exact A.out
    case rest =>
      have H6 := Lib.hid hcut
      clear hcut
      have t12 := HC.out _ _ _ _ _ H6.out 12
      have t13 := HC.out _ _ _ _ _ H6.out 13
      have t14 := HC.out _ _ _ _ _ H6.out 14
      have t15 := HC.out _ _ _ _ _ H6.out 15
      have t16 := HC.out _ _ _ _ _ H6.out 16
      simp only [List.getElem?_toArray, List.getElem?_cons_succ, List.getElem?_cons_zero] at t12 t13 t14 t15 t16
      go_wp2_with fail
      refine (env_wr H6.out c.env _ _ HV.out.inn HV.out.innL HV.out.enext).mono ?_
      rintro e w7 ⟨rfl, hz⟩
      have H7 := Lib.hid hz
      clear hz t12 t13 t14 t15 t16
      have t17 := HC.out _ _ _ _ _ H7.out 17
      simp only [List.getElem?_toArray, List.getElem?_cons_succ, List.getElem?_cons_zero] at t17
      go_wp2_with fail
      refine (spots_wr H7.out HV.out.spots).mono ?_
      rintro e w8 ⟨rfl, hz⟩
      have H8 := Lib.hid hz
      clear hz t17
      obtain ⟨az, cz, bz, gz, hh, hown, hP, z0, z1, z2, z3, kf⟩ := H8.out.cells
      have hr := HR.out _ _ _ _ _ H8.out
      have r0 : w8.cell? ⟨bc + 1, 0, none⟩ = some (.slice none 0 0) := by simp [World.cell?, hr]
      have r1 : w8.cell? ⟨bc + 1, 1, none⟩ = some (.int .i64 0) := by simp [World.cell?, hr]
      have s0 : w8.frozen? ⟨bc + 1, 0, none⟩ = false := by simp [World.frozen?, hr]
      have s1 : w8.frozen? ⟨bc + 1, 1, none⟩ = false := by simp [World.frozen?, hr]
      have HP := Lib.hid hP
      have HO := Lib.hid hown
      clear hh hown hP z1 kf hr
      have t17 := HC.out _ _ _ _ _ H8.out 17
      simp only [List.getElem?_toArray, List.getElem?_cons_succ, List.getElem?_cons_zero] at t17
      have HE : Hid (Below bc w w8) := Lib.hid (HBl.out.trans (H8.out.below.mono (by rw [HS0.out]; omega)))
      have FW := fw (c := c) H8.out (fun ⟨⟨⟨_, a1, a2, a3⟩, a4⟩, a5⟩ => .inr <| .inl ⟨⟨K.out, a1, a2, a3, a4, a5⟩, by simp [Cl.code2, Cl.head]⟩)
      have HRR := Lib.hid (HR.out _ _ _ _ _ H8.out)
      generalize hcl : cut20 _ = cl at z0 HO
      have HCL := Lib.hid hcl
      clear hcl
      cases bz with
      | true =>
        go_wp2_with fail
        obtain ⟨e0, e1, e2⟩ := stored (.slice none 0 0) (.int .i64 0) HRR.out HE.out HBC.out
        exact coded_end rfl rfl e0 e1 ⟨e2, _, _, _, _, 1, [], rfl, .inl rfl⟩
      | false =>
        cases gz with
        | true =>
          go_wp2_with fail
          obtain ⟨e0, e1, e2⟩ := stored (.slice none 0 0) (.int .i64 0) HRR.out HE.out HBC.out
          exact coded_end rfl rfl e0 e1 ⟨e2, _, _, _, _, 2, [], rfl, .inr (.inl rfl)⟩
        | false =>
          by_cases hsp : 3000 < c.spots.length
          case pos =>
            have hd8 : decide (3000 < c.spots.length) = true := by simpa using hsp
            have hd8' : decide ((3000 : Int) < (c.spots.length : Int)) = true := by simp; omega
            clear hsp
            go_wp2_with fail
            obtain ⟨e0, e1, e2⟩ := stored (.slice none 0 0) (.int .i64 0) HRR.out HE.out HBC.out
            exact coded_end rfl rfl e0 e1 ⟨e2, _, _, _, _, 2, [], rfl, .inr (.inl rfl)⟩
          have hd8 : decide (3000 < c.spots.length) = false := by simpa using hsp
          have hd8' : decide ((3000 : Int) < (c.spots.length : Int)) = false := by simp; omega
          clear hsp
          by_cases hln : 20000 < cl.length
          case pos =>
            have hd9 : decide (20000 < cl.length) = true := by simpa using hln
            have hd9' : decide ((20000 : Int) < (cl.length : Int)) = true := by simp; omega
            clear hln
            go_wp2_with fail
            obtain ⟨e0, e1, e2⟩ := stored (.slice none 0 0) (.int .i64 0) HRR.out HE.out HBC.out
            exact coded_end rfl rfl e0 e1 ⟨e2, _, _, _, _, 2, [], rfl, .inr (.inl rfl)⟩
          have hd9 : decide (20000 < cl.length) = false := by simpa using hln
          have hd9' : decide ((20000 : Int) < (cl.length : Int)) = false := by simp; omega
          have HLL := Lib.hid hln
          clear hln
          have NZ : Hid (Nums w8 (.slice az cl.length cz) cl) := Lib.hid (nums_owned HO.out)
          go_wp2_with fail
          go_region_held3 (fun w' => w'.cell? ⟨bc + 1 + 1, 0, none⟩ = some (.slice az cl.length cz)) (go_keep) (first | (go_at_call 10; refine (seal_some _ (NZ.out.drawn 1) (by have := HLL.out; omega)).mono ?_; rintro e w9 ⟨⟨sl, rfl⟩, rfl⟩))
          go_wp2_with fail
          obtain ⟨e0, e1, e2⟩ := stored (wz := w8.drewN 1) (.slice az cl.length cz) (.int .i64 sl) HRR.out (below_drawn HE.out 1) HBC.out
          exact coded_end rfl rfl e0 e1 ⟨e2, _, _, _, _, 0, cl, rfl, .inr (.inr ⟨rfl, nums_stored HO.out, by have := HLL.out; omega, cut_eq HCL.out HLL.out ▸ FW.out (HP.out (by first | rfl | trivial))⟩)⟩
end Go.Proofs.YtckdgniecdfedaaGreatDoor
