/- Empty parts of a claim; the numbers of a claim tell the claim. -/
import Derived.Test.YtckdgniecdfedaaGreatDoorMgC
import Derived.Test.YtckdgniecdfedaaGreatDoorMgD
section
/- The walks of the functions that ask whether a part of a claim is empty. -/
namespace Go.Proofs.YtckdgniecdfedaaGreatDoor
open Go.RowKit

/-- a truth value is handed back, and nothing is changed but for a new block; if it is b, then Q -/
def Asked (w : World) (o : Obj) (b : Bool) (Q : Prop) (e : Ending) (w' : World) : Prop := ∃ c : Bool, e = .returned (.bool c) ∧ w' = w.alloc o ∧ (c = b → Q)

/-- what an empty environment is -/
def Ev.zero (e : Ev) : Prop := e.ins = 0 ∧ e.outs = 0 ∧ e.start = 0 ∧ e.inn = [] ∧ e.next = []
/-- what an empty controller is -/
def Ct.zero (e : Ct) : Prop := e.ins = 0 ∧ e.outs = 0 ∧ e.start = 0 ∧ e.out = [] ∧ e.next = []
theorem cell_new (w : World) (cs : Array Value) (t : TypeId) (j : Nat) : (w.alloc (.cells cs t)).cell? ⟨w.heap.size, j, none⟩ = cs[j]? := by
  simp only [World.cell?]
  rw [heap_alloc_new]
  rfl

set_option maxRecDepth 100000 in
set_option maxHeartbeats 1000000 in
theorem noEnv_any (w : World) (e : Ev) (au av : Option Addr) (cu cv : Nat) :
    Calls Tryz.prog 71 #[.agg #[.int .i64 e.ins, .int .i64 e.outs, .int .i64 e.start, .slice au e.inn.length cu, .slice av e.next.length cv]] w (Asked w (.cells #[.int .i64 e.ins, .int .i64 e.outs, .int .i64 e.start, .slice au e.inn.length cu, .slice av e.next.length cv] 56) true (e.zero)) := by
  have d0 := cell_new w #[.int .i64 e.ins, .int .i64 e.outs, .int .i64 e.start, .slice au e.inn.length cu, .slice av e.next.length cv] 56 0
  have d1 := cell_new w #[.int .i64 e.ins, .int .i64 e.outs, .int .i64 e.start, .slice au e.inn.length cu, .slice av e.next.length cv] 56 1
  have d2 := cell_new w #[.int .i64 e.ins, .int .i64 e.outs, .int .i64 e.start, .slice au e.inn.length cu, .slice av e.next.length cv] 56 2
  have d3 := cell_new w #[.int .i64 e.ins, .int .i64 e.outs, .int .i64 e.start, .slice au e.inn.length cu, .slice av e.next.length cv] 56 3
  have d4 := cell_new w #[.int .i64 e.ins, .int .i64 e.outs, .int .i64 e.start, .slice au e.inn.length cu, .slice av e.next.length cv] 56 4
  simp only [List.getElem?_toArray, List.getElem?_cons_succ, List.getElem?_cons_zero] at d0 d1 d2 d3 d4
  by_cases h0 : e.ins = 0
  case neg =>
    have g0 : (e.ins == 0) = false := by simpa using h0
    clear h0
    go_enter Tryz.func71, Tryz.ntmps71
    go_wp2_with fail
    go_ret
    exact ⟨_, rfl, rfl, fun h => by cases h⟩
  have g0 : (e.ins == 0) = true := by simpa using h0
  by_cases h1 : e.outs = 0
  case neg =>
    have g1 : (e.outs == 0) = false := by simpa using h1
    clear h0 h1
    go_enter Tryz.func71, Tryz.ntmps71
    go_wp2_with fail
    go_ret
    exact ⟨_, rfl, rfl, fun h => by cases h⟩
  have g1 : (e.outs == 0) = true := by simpa using h1
  by_cases h2 : e.start = 0
  case neg =>
    have g2 : (e.start == 0) = false := by simpa using h2
    clear h0 h1 h2
    go_enter Tryz.func71, Tryz.ntmps71
    go_wp2_with fail
    go_ret
    exact ⟨_, rfl, rfl, fun h => by cases h⟩
  have g2 : (e.start == 0) = true := by simpa using h2
  by_cases h3 : e.inn = []
  case neg =>
    have g3 : ((e.inn.length : Int) == 0) = false := by simpa using h3
    clear h0 h1 h2 h3
    go_enter Tryz.func71, Tryz.ntmps71
    go_wp2_with fail
    go_ret
    exact ⟨_, rfl, rfl, fun h => by cases h⟩
  have g3 : ((e.inn.length : Int) == 0) = true := by simpa using h3
  by_cases h4 : e.next = []
  case neg =>
    have g4 : ((e.next.length : Int) == 0) = false := by simpa using h4
    clear h0 h1 h2 h3 h4
    go_enter Tryz.func71, Tryz.ntmps71
    go_wp2_with fail
    go_ret
    exact ⟨_, rfl, rfl, fun h => by cases h⟩
  have g4 : ((e.next.length : Int) == 0) = true := by simpa using h4
  have HZ : Hid (e.zero) := Lib.hid ⟨h0, h1, h2, h3, h4⟩
  clear h0 h1 h2 h3 h4
  go_enter Tryz.func71, Tryz.ntmps71
  go_wp2_with fail
  go_ret
  exact ⟨_, rfl, rfl, fun _ => HZ.out⟩

set_option maxRecDepth 100000 in
set_option maxHeartbeats 1000000 in
theorem noCtrl_any (w : World) (e : Ct) (au av : Option Addr) (cu cv : Nat) :
    Calls Tryz.prog 73 #[.agg #[.int .i64 e.ins, .int .i64 e.outs, .int .i64 e.start, .slice au e.out.length cu, .slice av e.next.length cv]] w (Asked w (.cells #[.int .i64 e.ins, .int .i64 e.outs, .int .i64 e.start, .slice au e.out.length cu, .slice av e.next.length cv] 54) true (e.zero)) := by
  have d0 := cell_new w #[.int .i64 e.ins, .int .i64 e.outs, .int .i64 e.start, .slice au e.out.length cu, .slice av e.next.length cv] 54 0
  have d1 := cell_new w #[.int .i64 e.ins, .int .i64 e.outs, .int .i64 e.start, .slice au e.out.length cu, .slice av e.next.length cv] 54 1
  have d2 := cell_new w #[.int .i64 e.ins, .int .i64 e.outs, .int .i64 e.start, .slice au e.out.length cu, .slice av e.next.length cv] 54 2
  have d3 := cell_new w #[.int .i64 e.ins, .int .i64 e.outs, .int .i64 e.start, .slice au e.out.length cu, .slice av e.next.length cv] 54 3
  have d4 := cell_new w #[.int .i64 e.ins, .int .i64 e.outs, .int .i64 e.start, .slice au e.out.length cu, .slice av e.next.length cv] 54 4
  simp only [List.getElem?_toArray, List.getElem?_cons_succ, List.getElem?_cons_zero] at d0 d1 d2 d3 d4
  by_cases h0 : e.ins = 0
  case neg =>
    have g0 : (e.ins == 0) = false := by simpa using h0
    clear h0
    go_enter Tryz.func73, Tryz.ntmps73
    go_wp2_with fail
    go_ret
    exact ⟨_, rfl, rfl, fun h => by cases h⟩
  have g0 : (e.ins == 0) = true := by simpa using h0
  by_cases h1 : e.outs = 0
  case neg =>
    have g1 : (e.outs == 0) = false := by simpa using h1
    clear h0 h1
    go_enter Tryz.func73, Tryz.ntmps73
    go_wp2_with fail
    go_ret
    exact ⟨_, rfl, rfl, fun h => by cases h⟩
  have g1 : (e.outs == 0) = true := by simpa using h1
  by_cases h2 : e.start = 0
  case neg =>
    have g2 : (e.start == 0) = false := by simpa using h2
    clear h0 h1 h2
    go_enter Tryz.func73, Tryz.ntmps73
    go_wp2_with fail
    go_ret
    exact ⟨_, rfl, rfl, fun h => by cases h⟩
  have g2 : (e.start == 0) = true := by simpa using h2
  by_cases h3 : e.out = []
  case neg =>
    have g3 : ((e.out.length : Int) == 0) = false := by simpa using h3
    clear h0 h1 h2 h3
    go_enter Tryz.func73, Tryz.ntmps73
    go_wp2_with fail
    go_ret
    exact ⟨_, rfl, rfl, fun h => by cases h⟩
  have g3 : ((e.out.length : Int) == 0) = true := by simpa using h3
  by_cases h4 : e.next = []
  case neg =>
    have g4 : ((e.next.length : Int) == 0) = false := by simpa using h4
    clear h0 h1 h2 h3 h4
    go_enter Tryz.func73, Tryz.ntmps73
    go_wp2_with fail
    go_ret
    exact ⟨_, rfl, rfl, fun h => by cases h⟩
  have g4 : ((e.next.length : Int) == 0) = true := by simpa using h4
  have HZ : Hid (e.zero) := Lib.hid ⟨h0, h1, h2, h3, h4⟩
  clear h0 h1 h2 h3 h4
  go_enter Tryz.func73, Tryz.ntmps73
  go_wp2_with fail
  go_ret
  exact ⟨_, rfl, rfl, fun _ => HZ.out⟩

set_option maxRecDepth 100000 in
set_option maxHeartbeats 1000000 in
theorem noFormula_any (w : World) (op val bd : Int) (nm : ByteArray) (a : Option Addr) (m c : Nat) :
    Calls Tryz.prog 76 #[.agg #[.int .i64 op, .string nm, .int .i64 val, .int .i64 bd, .slice a m c]] w (Asked w (.cells #[.int .i64 op, .string nm, .int .i64 val, .int .i64 bd, .slice a m c] 48) true (op = 0 ∧ nm.toList = [] ∧ val = 0 ∧ bd = 0 ∧ m = 0)) := by
  have d0 := cell_new w #[.int .i64 op, .string nm, .int .i64 val, .int .i64 bd, .slice a m c] 48 0
  have d1 := cell_new w #[.int .i64 op, .string nm, .int .i64 val, .int .i64 bd, .slice a m c] 48 1
  have d2 := cell_new w #[.int .i64 op, .string nm, .int .i64 val, .int .i64 bd, .slice a m c] 48 2
  have d3 := cell_new w #[.int .i64 op, .string nm, .int .i64 val, .int .i64 bd, .slice a m c] 48 3
  have d4 := cell_new w #[.int .i64 op, .string nm, .int .i64 val, .int .i64 bd, .slice a m c] 48 4
  simp only [List.getElem?_toArray, List.getElem?_cons_succ, List.getElem?_cons_zero] at d0 d1 d2 d3 d4
  by_cases h0 : op = 0
  case neg =>
    have g0 : (op == 0) = false := by simpa using h0
    clear h0
    go_enter Tryz.func76, Tryz.ntmps76
    go_wp2_with fail
    go_ret
    exact ⟨_, rfl, rfl, fun h => by cases h⟩
  have g0 : (op == 0) = true := by simpa using h0
  by_cases h1 : nm.toList = []
  case neg =>
    have g1 := h1
    clear h0 h1
    go_enter Tryz.func76, Tryz.ntmps76
    go_wp2_with fail
    go_ret
    exact ⟨_, rfl, rfl, fun h => by cases h⟩
  have g1 := h1
  by_cases h2 : val = 0
  case neg =>
    have g2 : (val == 0) = false := by simpa using h2
    clear h0 h1 h2
    go_enter Tryz.func76, Tryz.ntmps76
    go_wp2_with fail
    go_ret
    exact ⟨_, rfl, rfl, fun h => by cases h⟩
  have g2 : (val == 0) = true := by simpa using h2
  by_cases h3 : bd = 0
  case neg =>
    have g3 : (bd == 0) = false := by simpa using h3
    clear h0 h1 h2 h3
    go_enter Tryz.func76, Tryz.ntmps76
    go_wp2_with fail
    go_ret
    exact ⟨_, rfl, rfl, fun h => by cases h⟩
  have g3 : (bd == 0) = true := by simpa using h3
  by_cases h4 : m = 0
  case neg =>
    have g4 : ((m : Int) == 0) = false := by simpa using h4
    clear h0 h1 h2 h3 h4
    go_enter Tryz.func76, Tryz.ntmps76
    go_wp2_with fail
    go_ret
    exact ⟨_, rfl, rfl, fun h => by cases h⟩
  have g4 : ((m : Int) == 0) = true := by simpa using h4
  have HZ : Hid (op = 0 ∧ nm.toList = [] ∧ val = 0 ∧ bd = 0 ∧ m = 0) := Lib.hid ⟨h0, h1, h2, h3, h4⟩
  clear h0 h1 h2 h3 h4
  go_enter Tryz.func76, Tryz.ntmps76
  go_wp2_with fail
  go_ret
  exact ⟨_, rfl, rfl, fun _ => HZ.out⟩
end Go.Proofs.YtckdgniecdfedaaGreatDoor
end
section
/- The walk of filled: whether something is in a game, in measures, letters or residuals. -/
namespace Go.Proofs.YtckdgniecdfedaaGreatDoor
open Go.RowKit

set_option maxRecDepth 100000 in
set_option maxHeartbeats 1000000 in
theorem filled_any (w : World) (a1 a2 a3 a4 a5 a6 : Option Addr) (n1 n2 n3 n4 n5 n6 c1 c2 c3 c4 c5 c6 : Nat) :
    Calls Tryz.prog 68 #[.agg #[.slice a1 n1 c1, .slice a2 n2 c2, .slice a3 n3 c3], .slice a4 n4 c4, .slice a5 n5 c5, .slice a6 n6 c6] w (Asked w (.cells #[.slice a1 n1 c1, .slice a2 n2 c2, .slice a3 n3 c3] 39) false (n1 = 0 ∧ n2 = 0 ∧ n3 = 0 ∧ n4 = 0 ∧ n5 = 0 ∧ n6 = 0)) := by
  have d0 := cell_new w #[.slice a1 n1 c1, .slice a2 n2 c2, .slice a3 n3 c3] 39 0
  have d1 := cell_new w #[.slice a1 n1 c1, .slice a2 n2 c2, .slice a3 n3 c3] 39 1
  have d2 := cell_new w #[.slice a1 n1 c1, .slice a2 n2 c2, .slice a3 n3 c3] 39 2
  simp only [List.getElem?_toArray, List.getElem?_cons_succ, List.getElem?_cons_zero] at d0 d1 d2
  by_cases h0 : n1 = 0
  case neg =>
    have p0 : 0 < n1 := by omega
    have g0 : decide (0 < n1) = true := by simpa using p0
    clear h0
    go_enter Tryz.func68, Tryz.ntmps68
    go_wp2_with fail
    go_ret
    exact ⟨_, rfl, rfl, fun h => by cases h⟩
  subst h0
  by_cases h1 : n2 = 0
  case neg =>
    have p1 : 0 < n2 := by omega
    have g1 : decide (0 < n2) = true := by simpa using p1
    clear h1
    go_enter Tryz.func68, Tryz.ntmps68
    go_wp2_with fail
    go_ret
    exact ⟨_, rfl, rfl, fun h => by cases h⟩
  subst h1
  by_cases h2 : n3 = 0
  case neg =>
    have p2 : 0 < n3 := by omega
    have g2 : decide (0 < n3) = true := by simpa using p2
    clear h2
    go_enter Tryz.func68, Tryz.ntmps68
    go_wp2_with fail
    go_ret
    exact ⟨_, rfl, rfl, fun h => by cases h⟩
  subst h2
  by_cases h3 : n4 = 0
  case neg =>
    have p3 : 0 < n4 := by omega
    have g3 : decide (0 < n4) = true := by simpa using p3
    clear h3
    go_enter Tryz.func68, Tryz.ntmps68
    go_wp2_with fail
    go_ret
    exact ⟨_, rfl, rfl, fun h => by cases h⟩
  subst h3
  by_cases h4 : n5 = 0
  case neg =>
    have p4 : 0 < n5 := by omega
    have g4 : decide (0 < n5) = true := by simpa using p4
    clear h4
    go_enter Tryz.func68, Tryz.ntmps68
    go_wp2_with fail
    go_ret
    exact ⟨_, rfl, rfl, fun h => by cases h⟩
  subst h4
  by_cases h5 : n6 = 0
  case neg =>
    have p5 : 0 < n6 := by omega
    have g5 : decide (0 < n6) = true := by simpa using p5
    clear h5
    go_enter Tryz.func68, Tryz.ntmps68
    go_wp2_with fail
    go_ret
    exact ⟨_, rfl, rfl, fun h => by cases h⟩
  subst h5
  go_enter Tryz.func68, Tryz.ntmps68
  go_wp2_with fail
  go_ret
  exact ⟨_, rfl, rfl, fun _ => by simp⟩
end Go.Proofs.YtckdgniecdfedaaGreatDoor
end
section
/- The numbers of a claim that can be written tell the claim: plain law, with no program in sight. -/
namespace Go.Proofs.YtckdgniecdfedaaGreatDoor

/-- a claim as it is read -/
structure Cl where
  kind : Int
  sigs : List Sg
  op : Int
  nm : ByteArray
  val : Int
  bd : Int
  args : Fs
  ctrl : Ct
  env : Ev
  spots : List Sp
  game : Gm
  letters : List Int
  res : Fs
/-- its formula -/
def Cl.form (c : Cl) : Fs := .cons c.op c.nm c.val c.bd c.args .nil
/-- the numbers of signals and formula -/
def Cl.head (c : Cl) : List Int := [c.kind, (c.sigs.length : Int)] ++ sgs c.sigs ++ c.form.code
def Cl.code1 (c : Cl) : List Int := c.head ++ c.ctrl.code ++ [(c.spots.length : Int)] ++ sps c.spots
def Cl.code2 (c : Cl) : List Int := c.head ++ c.env.code ++ [(c.spots.length : Int)] ++ sps c.spots
def Cl.code3 (c : Cl) : List Int := [c.kind] ++ c.game.code
def Cl.code4 (c : Cl) : List Int := c.head ++ lst c.letters ++ [(c.res.len : Int)] ++ c.res.code
def Gm.zero (g : Gm) : Prop := g.owner = [] ∧ g.prio = [] ∧ g.succ = [] ∧ g.meas = []
def Cl.noForm (c : Cl) : Prop := c.op = 0 ∧ c.nm = ⟨#[]⟩ ∧ c.val = 0 ∧ c.bd = 0 ∧ c.args = .nil
def Cl.fit1 (c : Cl) : Prop := c.kind = 1 ∧ c.game.zero ∧ c.letters = [] ∧ c.res = .nil ∧ c.env.zero ∧ c.ctrl.fit
def Cl.fit2 (c : Cl) : Prop := c.kind = 2 ∧ c.game.zero ∧ c.letters = [] ∧ c.res = .nil ∧ c.ctrl.zero ∧ c.env.fit
def Cl.fit3 (c : Cl) : Prop := c.kind = 3 ∧ c.sigs = [] ∧ c.noForm ∧ c.ctrl.zero ∧ c.env.zero ∧ c.spots = [] ∧ c.letters = [] ∧ c.res = .nil ∧ c.game.fit
def Cl.fit4 (c : Cl) : Prop := c.kind = 4 ∧ c.game.zero ∧ c.ctrl.zero ∧ c.env.zero ∧ c.spots = [] ∧ c.res.len = c.letters.length
/-- L are the numbers of c, and c can be written -/
def Cl.wrote (c : Cl) (L : List Int) : Prop := (c.fit1 ∧ L = c.code1) ∨ (c.fit2 ∧ L = c.code2) ∨ (c.fit3 ∧ L = c.code3) ∨ (c.fit4 ∧ L = c.code4)

theorem Gm.zero_eq {a b : Gm} (h : a.zero) (k : b.zero) : a = b := by
  obtain ⟨h1, h2, h3, h4⟩ := h
  obtain ⟨k1, k2, k3, k4⟩ := k
  cases a; cases b
  simp only at h1 h2 h3 h4 k1 k2 k3 k4
  rw [h1, h2, h3, h4, k1, k2, k3, k4]
theorem Ct.zero_eq {a b : Ct} (h : a.zero) (k : b.zero) : a = b := by
  obtain ⟨h1, h2, h3, h4, h5⟩ := h
  obtain ⟨k1, k2, k3, k4, k5⟩ := k
  cases a; cases b
  simp only at h1 h2 h3 h4 h5 k1 k2 k3 k4 k5
  rw [h1, h2, h3, h4, h5, k1, k2, k3, k4, k5]
theorem Ev.zero_eq {a b : Ev} (h : a.zero) (k : b.zero) : a = b := by
  obtain ⟨h1, h2, h3, h4, h5⟩ := h
  obtain ⟨k1, k2, k3, k4, k5⟩ := k
  cases a; cases b
  simp only at h1 h2 h3 h4 h5 k1 k2 k3 k4 k5
  rw [h1, h2, h3, h4, h5, k1, k2, k3, k4, k5]
theorem Cl.head_inj {a b : Cl} {x y : List Int} (h : a.head ++ x = b.head ++ y) : a.kind = b.kind ∧ a.sigs = b.sigs ∧ a.form = b.form ∧ x = y := by
  unfold Cl.head at h
  simp only [List.append_assoc, List.cons_append, List.nil_append, List.cons.injEq] at h
  obtain ⟨h1, h2, h3⟩ := h
  obtain ⟨h4, h5⟩ := sgs_inj _ _ _ _ (by omega) h3
  obtain ⟨h6, h7⟩ := Fs.inj a.form b.form _ _ rfl h5
  exact ⟨h1, h4, h6, h7⟩
theorem Cl.kind_of {c : Cl} {L : List Int} (h : c.wrote L) : L.head? = some c.kind := by
  rcases h with ⟨_, rfl⟩ | ⟨_, rfl⟩ | ⟨_, rfl⟩ | ⟨_, rfl⟩ <;> simp [Cl.code1, Cl.code2, Cl.code3, Cl.code4, Cl.head]
theorem Cl.ext' {a b : Cl} (h0 : a.kind = b.kind) (h1 : a.sigs = b.sigs) (h2 : a.form = b.form) (h3 : a.ctrl = b.ctrl) (h4 : a.env = b.env) (h5 : a.spots = b.spots) (h6 : a.game = b.game) (h7 : a.letters = b.letters) (h8 : a.res = b.res) : a = b := by
  cases a; cases b
  simp only [Cl.form, Fs.cons.injEq, and_true] at h2
  obtain ⟨e1, e2, e3, e4, e5⟩ := h2
  simp only at h0 h1 h3 h4 h5 h6 h7 h8
  rw [h0, h1, h3, h4, h5, h6, h7, h8, e1, e2, e3, e4, e5]
theorem Cl.inj {a b : Cl} {L : List Int} (ha : a.wrote L) (hb : b.wrote L) : a = b := by
  have hk : a.kind = b.kind := by
    have h1 := Cl.kind_of ha
    rw [Cl.kind_of hb] at h1
    injection h1 with h1
    exact h1.symm
  rcases ha with ⟨fa, rfl⟩ | ⟨fa, rfl⟩ | ⟨fa, rfl⟩ | ⟨fa, rfl⟩
  · rcases hb with ⟨fb, e⟩ | ⟨fb, _⟩ | ⟨fb, _⟩ | ⟨fb, _⟩
    · obtain ⟨_, a1, a2, a3, a4, a5⟩ := fa
      obtain ⟨_, b1, b2, b3, b4, b5⟩ := fb
      unfold Cl.code1 at e
      simp only [List.append_assoc] at e
      obtain ⟨_, e1, e2, e3⟩ := Cl.head_inj e
      obtain ⟨e4, e5⟩ := Ct.inj a5 b5 e3
      simp only [List.cons_append, List.nil_append, List.cons.injEq] at e5
      obtain ⟨e6, e7⟩ := e5
      obtain ⟨e8, _⟩ := sps_inj a.spots b.spots [] [] (by omega) (by simpa using e7)
      exact Cl.ext' hk e1 e2 e4 (Ev.zero_eq a4 b4) e8 (Gm.zero_eq a1 b1) (by rw [a2, b2]) (by rw [a3, b3])
    · have := fa.1; have := fb.1; omega
    · have := fa.1; have := fb.1; omega
    · have := fa.1; have := fb.1; omega
  · rcases hb with ⟨fb, _⟩ | ⟨fb, e⟩ | ⟨fb, _⟩ | ⟨fb, _⟩
    · have := fa.1; have := fb.1; omega
    · obtain ⟨_, a1, a2, a3, a4, a5⟩ := fa
      obtain ⟨_, b1, b2, b3, b4, b5⟩ := fb
      unfold Cl.code2 at e
      simp only [List.append_assoc] at e
      obtain ⟨_, e1, e2, e3⟩ := Cl.head_inj e
      obtain ⟨e4, e5⟩ := Ev.inj a5 b5 e3
      simp only [List.cons_append, List.nil_append, List.cons.injEq] at e5
      obtain ⟨e6, e7⟩ := e5
      obtain ⟨e8, _⟩ := sps_inj a.spots b.spots [] [] (by omega) (by simpa using e7)
      exact Cl.ext' hk e1 e2 (Ct.zero_eq a4 b4) e4 e8 (Gm.zero_eq a1 b1) (by rw [a2, b2]) (by rw [a3, b3])
    · have := fa.1; have := fb.1; omega
    · have := fa.1; have := fb.1; omega
  · rcases hb with ⟨fb, _⟩ | ⟨fb, _⟩ | ⟨fb, e⟩ | ⟨fb, _⟩
    · have := fa.1; have := fb.1; omega
    · have := fa.1; have := fb.1; omega
    · obtain ⟨_, a1, ⟨n1, n2, n3, n4, n5⟩, a3, a4, a5, a6, a7, a8⟩ := fa
      obtain ⟨_, b1, ⟨m1, m2, m3, m4, m5⟩, b3, b4, b5, b6, b7, b8⟩ := fb
      unfold Cl.code3 at e
      simp only [List.cons_append, List.nil_append, List.cons.injEq] at e
      obtain ⟨e1, _⟩ := Gm.inj (x := []) (y := []) a8 b8 (by simpa using e.2)
      exact Cl.ext' hk (by rw [a1, b1]) (by unfold Cl.form; rw [n1, n2, n3, n4, n5, m1, m2, m3, m4, m5]) (Ct.zero_eq a3 b3) (Ev.zero_eq a4 b4) (by rw [a5, b5]) e1 (by rw [a6, b6]) (by rw [a7, b7])
    · have := fa.1; have := fb.1; omega
  · rcases hb with ⟨fb, _⟩ | ⟨fb, _⟩ | ⟨fb, _⟩ | ⟨fb, e⟩
    · have := fa.1; have := fb.1; omega
    · have := fa.1; have := fb.1; omega
    · have := fa.1; have := fb.1; omega
    · obtain ⟨_, a1, a2, a3, a4, a5⟩ := fa
      obtain ⟨_, b1, b2, b3, b4, b5⟩ := fb
      unfold Cl.code4 at e
      simp only [List.append_assoc] at e
      obtain ⟨_, e1, e2, e3⟩ := Cl.head_inj e
      obtain ⟨e4, e5⟩ := lst_inj e3
      simp only [List.cons_append, List.nil_append, List.cons.injEq] at e5
      obtain ⟨e6, e7⟩ := e5
      obtain ⟨e8, _⟩ := Fs.inj a.res b.res [] [] (by omega) (by simpa using e7)
      exact Cl.ext' hk e1 e2 (Ct.zero_eq a2 b2) (Ev.zero_eq a3 b3) (by rw [a4, b4]) (Gm.zero_eq a1 b1) e4 e8
/-- and a claim has one list of numbers -/
theorem Cl.one {c : Cl} {L M : List Int} (h : c.wrote L) (k : c.wrote M) : L = M := by
  rcases h with ⟨f, rfl⟩ | ⟨f, rfl⟩ | ⟨f, rfl⟩ | ⟨f, rfl⟩ <;> rcases k with ⟨g, rfl⟩ | ⟨g, rfl⟩ | ⟨g, rfl⟩ | ⟨g, rfl⟩ <;> first | rfl | (have := f.1; have := g.1; omega)
end Go.Proofs.YtckdgniecdfedaaGreatDoor
end
