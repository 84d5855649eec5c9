/- The walks that count a formula's nodes. -/
import Derived.Test.YtckdgniecdfedaaGreatDoorMgD
import Derived.Test.YtckdgniecdfedaaGreatDoorMgF
section
/- The walk of capped: the number of a formula's nodes, as far as it is small. -/
namespace Go.Proofs.YtckdgniecdfedaaGreatDoor
open Go.RowKit

/-- the arguments of a node that can be read -/
def FArgs (w : World) (a : Option Addr) (f : Fs) : Prop := f.len ≠ 0 → ∃ b o, a = some ⟨b, o, none⟩ ∧ b < w.heap.size ∧ FAt w f b o
theorem FArgs.keep {w w' : World} {a : Option Addr} {f : Fs} (h : FArgs w a f) (hB : Below w.heap.size w w') : FArgs w' a f := fun h0 => by
  obtain ⟨b, o, e', hb, h'⟩ := h h0
  exact ⟨b, o, e', Nat.lt_of_lt_of_le hb hB.size, FAt.keep hB hb h'⟩
/-- what capped hands back -/
def Capped (w : World) (f : Fs) (l : Int) (e : Ending) (w' : World) : Prop := ∃ n : Int, e = .returned (.int .i64 n) ∧ 1 ≤ n ∧ n ≤ l + 1 ∧ (n ≤ l → n = f.nodes + 1) ∧ Below w.heap.size w w'

theorem Fs.drop_succ {f : Fs} {j : Nat} {op v bd : Int} {nm : ByteArray} {a r : Fs} (h : f.drop j = .cons op nm v bd a r) : f.drop (j + 1) = r := by
  induction j generalizing f with
  | zero => cases f <;> simp_all [Fs.drop]
  | succ j ih =>
    cases f with
    | nil => simp [Fs.drop] at h
    | cons _ _ _ _ _ r' => exact ih h
theorem Fs.drop_nodes : ∀ (f : Fs) (j : Nat), (f.drop j).nodes ≤ f.nodes
  | .nil, 0 => Nat.le_refl _
  | .nil, j + 1 => Nat.le_refl _
  | .cons .., 0 => Nat.le_refl _
  | .cons _ _ _ _ a r, j + 1 => by
    have := Fs.drop_nodes r j
    simp only [Fs.drop, Fs.nodes]
    omega

set_option maxRecDepth 100000 in
set_option maxHeartbeats 4000000 in
theorem capped_any : ∀ (N : Nat) (f : Fs), f.nodes < N → ∀ (w : World) (op v bd : Int) (nm : ByteArray) (a : Option Addr) (c : Nat) (l : Int), f.len ≤ 9223372036854775807 → FArgs w a f → 0 ≤ l → l ≤ 1000000 →
    Calls Tryz.prog 58 #[.agg #[.int .i64 op, .string nm, .int .i64 v, .int .i64 bd, .slice a f.len c], .int .i64 l] w (Capped w f l) := by
  intro N
  induction N with
  | zero =>
    intro f hf
    omega
  | succ N ih =>
    intro f hf w op v bd nm a c l hl hv l0 l1
    have HV := Lib.hid hv
    have HI := Lib.hid ih
    clear hv ih
    have d4 := cell_new w #[.int .i64 op, .string nm, .int .i64 v, .int .i64 bd, .slice a f.len c] 48 4
    simp only [List.getElem?_toArray, List.getElem?_cons_succ, List.getElem?_cons_zero] at d4
    have HB : Hid (Below w.heap.size w (w.alloc (.cells #[.int .i64 op, .string nm, .int .i64 v, .int .i64 bd, .slice a f.len c] 48))) := Lib.hid ((Below.refl _ _).alloc (Nat.le_refl _) _)
    go_enter Tryz.func58, Tryz.ntmps58
    go_wp2_with fail
    go_loopw [5, 6] (fun x i wr => ∃ (k : Nat) (n : Int), k ≤ f.len ∧ i = .int .i64 k ∧ x = .int .i64 n ∧ 1 ≤ n ∧ n ≤ l + 1 ∧ (n ≤ l → n + (f.drop k).nodes = f.nodes + 1) ∧ Below (w.heap.size + 1) (w.alloc (.cells #[.int .i64 op, .string nm, .int .i64 v, .int .i64 bd, .slice a f.len c] 48)) wr) (fun _ i _ => f.len - (intOf i).toNat)
    case atStart => exact ⟨0, 1, Nat.zero_le _, rfl, rfl, by omega, by omega, fun _ => by cases f <;> simp [Fs.drop] <;> omega, Below.refl _ _⟩
    case round =>
      obtain ⟨k, n, hk, rfl, rfl, n1, n2, n3, hB⟩ := hrel
      have e4 := (hB.cell (p := ⟨w.heap.size, 4, none⟩) (by show w.heap.size < w.heap.size + 1; omega)).trans d4
      have HN := Lib.hid n3
      have HR := Lib.hid hB
      clear n3 hB
      by_cases hlt : k < f.len
      · have hd : decide (k < f.len) = true := by simpa using hlt
        by_cases hn : n ≤ l
        · have hd1 : decide (n ≤ l) = true := by simpa using hn
          have HW2 : Hid (Below w.heap.size w wr) := Lib.hid (HB.out.trans (HR.out.mono (by simp)))
          obtain ⟨b1, o1, rfl, hb1, hat⟩ := HV.out (by omega)
          have hat' := FAt.keep HW2.out hb1 (FAt.drop k hat)
          have hdl := Fs.drop_len f k
          cases hfd : f.drop k with
          | nil => rw [hfd] at hdl; simp [Fs.len] at hdl; omega
          | cons op' nm' v' bd' sub rest =>
            rw [hfd] at hat'
            have hdn := Fs.drop_nodes f k
            rw [hfd] at hdn
            obtain ⟨c0, c1, c2, c3, c4, c5, ⟨a', c', c6, -, c7⟩, -⟩ := hat'
            have hnd : n + (sub.nodes + rest.nodes + 1 : Nat) = f.nodes + 1 := by have := HN.out hn; rw [hfd] at this; exact this
            have HS := Lib.hid (Fs.drop_succ hfd)
            have HC := Lib.hid (HI.out sub (by simp only [Fs.nodes] at hdn; omega) wr op' v' bd' nm' a' c' (l - n) c5 c7 (by omega) (by omega))
            clear hat hfd c7 hdl hdn
            go_wp2_with fail
            refine HC.out.mono ?_
            rintro e w3 ⟨n', rfl, p1, p2, p3, hB3⟩
            have HB3 := Lib.hid hB3
            have HP3 := Lib.hid p3
            clear hB3 p3 c0 c1 c2 c3 c4 c6
            go_wp2_with fail
            go_roundw
            case rel => exact ⟨k + 1, n + n', by omega, by go_num, by go_num, by omega, by omega, fun h => by rw [HS.out]; have := HP3.out (by omega); omega, HR.out.trans (HB3.out.mono (by have := HR.out.size; rw [World.size_alloc] at this; exact this))⟩
            case measure => simp [intOf]; omega
        · have hd1 : decide (n ≤ l) = false := by simpa using hn
          go_wp2_with fail
          go_ret
          exact ⟨n, rfl, n1, n2, fun h => absurd h (by omega), HB.out.trans (HR.out.mono (by simp))⟩
      · have hd : decide (k < f.len) = false := by simpa using hlt
        go_wp2_with fail
        go_ret
        refine ⟨n, rfl, n1, n2, fun h => ?_, HB.out.trans (HR.out.mono (by simp))⟩
        have := HN.out h
        have hdl := Fs.drop_len f k
        cases hfd : f.drop k with
        | nil => rw [hfd] at this; simpa [Fs.nodes] using this
        | cons => rw [hfd] at hdl; simp [Fs.len] at hdl; omega
end Go.Proofs.YtckdgniecdfedaaGreatDoor
end
section
/- The walks of Small and SmallList: whether formulas have few nodes. -/
namespace Go.Proofs.YtckdgniecdfedaaGreatDoor
open Go.RowKit

/-- some truth value is handed back, and if it is true, then Q -/
def ToldQ (w : World) (Q : Prop) (e : Ending) (w' : World) : Prop := ∃ c : Bool, e = .returned (.bool c) ∧ (c = true → Q) ∧ Below w.heap.size w w'

set_option maxRecDepth 100000 in
set_option maxHeartbeats 1000000 in
theorem small19 (f : Fs) (w : World) (op v bd : Int) (nm : ByteArray) (a : Option Addr) (c : Nat) (l : Int) (hl : f.len ≤ 9223372036854775807) (hv : FArgs w a f) (l0 : 0 ≤ l) (l1 : l ≤ 1000000) :
    Calls Tryz.prog 19 #[.agg #[.int .i64 op, .string nm, .int .i64 v, .int .i64 bd, .slice a f.len c], .int .i64 l] w (ToldQ w ((f.nodes : Int) + 1 ≤ l)) := by
  have HV := Lib.hid hv
  have p0 := cell_new w #[.int .i64 op, .string nm, .int .i64 v, .int .i64 bd, .slice a f.len c] 48 0
  have p1 := cell_new w #[.int .i64 op, .string nm, .int .i64 v, .int .i64 bd, .slice a f.len c] 48 1
  have p2 := cell_new w #[.int .i64 op, .string nm, .int .i64 v, .int .i64 bd, .slice a f.len c] 48 2
  have p3 := cell_new w #[.int .i64 op, .string nm, .int .i64 v, .int .i64 bd, .slice a f.len c] 48 3
  have p4 := cell_new w #[.int .i64 op, .string nm, .int .i64 v, .int .i64 bd, .slice a f.len c] 48 4
  simp only [List.getElem?_toArray, List.getElem?_cons_succ, List.getElem?_cons_zero] at p0 p1 p2 p3 p4
  have HB : Hid (Below w.heap.size w (w.alloc (.cells #[.int .i64 op, .string nm, .int .i64 v, .int .i64 bd, .slice a f.len c] 48))) := Lib.hid ((Below.refl _ _).alloc (Nat.le_refl _) _)
  clear hv
  go_enter Tryz.func19, Tryz.ntmps19
  go_wp2_with fail
  refine (capped_any (f.nodes + 1) f (Nat.lt_succ_self _) _ op v bd nm a c l hl (HV.out.keep HB.out) l0 l1).mono ?_
  rintro e w1 ⟨n, rfl, q1, q2, q3, hB⟩
  have HB1 := Lib.hid hB
  have HQ := Lib.hid q3
  clear hB q3
  go_wp2_with fail
  go_ret
  exact ⟨_, rfl, fun h => by have h' : n ≤ l := of_decide_eq_true h; have := HQ.out h'; omega, HB.out.trans (HB1.out.mono (by simp))⟩

/-- each formula of a forest has less than l nodes -/
def Fs.few (l : Int) : Fs → Prop
  | .nil => True
  | .cons _ _ _ _ a r => (a.nodes : Int) + 1 ≤ l ∧ r.few l
/-- .. each of the first k -/
def Fs.fewTo (l : Int) : Fs → Nat → Prop
  | _, 0 => True
  | .nil, _ + 1 => True
  | .cons _ _ _ _ a r, k + 1 => (a.nodes : Int) + 1 ≤ l ∧ r.fewTo l k
theorem Fs.fewTo_snoc {l : Int} : ∀ {f : Fs} {k : Nat} {op v bd : Int} {nm : ByteArray} {a r : Fs}, f.fewTo l k → f.drop k = .cons op nm v bd a r → (a.nodes : Int) + 1 ≤ l → f.fewTo l (k + 1)
  | .nil, 0, _, _, _, _, _, _, _, h, _ => by simp [Fs.drop] at h
  | .nil, k + 1, _, _, _, _, _, _, _, h, _ => by simp [Fs.drop] at h
  | .cons .., 0, _, _, _, _, _, _, _, h, hn => by
    simp only [Fs.drop, Fs.cons.injEq] at h
    obtain ⟨-, -, -, -, rfl, rfl⟩ := h
    exact ⟨hn, by simp [Fs.fewTo]⟩
  | .cons _ _ _ _ _ r, k + 1, _, _, _, _, _, _, h1, h, hn => ⟨h1.1, Fs.fewTo_snoc h1.2 h hn⟩
theorem Fs.few_of {l : Int} : ∀ {f : Fs}, f.fewTo l f.len → f.few l
  | .nil, _ => trivial
  | .cons _ _ _ _ _ _, h => ⟨h.1, Fs.few_of h.2⟩

set_option maxRecDepth 100000 in
set_option maxHeartbeats 2000000 in
theorem smallList84 {v : Value} (f : Fs) (w : World) (l : Int) (hv : FV w v f) (l0 : 0 ≤ l) (l1 : l ≤ 1000000) : Calls Tryz.prog 84 #[v, .int .i64 l] w (ToldQ w (f.len ≤ 12 ∧ f.few l)) := by
  obtain ⟨hl, a, c, rfl, -, hv⟩ := hv
  have HV := Lib.hid hv
  clear hv
  by_cases hm : 12 < f.len
  · have hd : decide (12 < f.len) = true := by simpa using hm
    go_enter Tryz.func84, Tryz.ntmps84
    go_wp2_with fail
    go_ret
    exact ⟨_, rfl, fun h => (by cases h), Below.refl _ _⟩
  · have hd : decide (12 < f.len) = false := by simpa using hm
    go_enter Tryz.func84, Tryz.ntmps84
    go_wp2_with fail
    go_loopw [5] (fun i wr => ∃ k : Nat, k ≤ f.len ∧ i = .int .i64 k ∧ Below w.heap.size w wr ∧ Hid (f.fewTo l k)) (fun i _ => f.len - (intOf i).toNat)
    case atStart => exact ⟨0, Nat.zero_le _, rfl, Below.refl _ _, Lib.hid (by cases f <;> trivial)⟩
    case round =>
      obtain ⟨k, hk, rfl, hB, HF⟩ := hrel
      have HB := Lib.hid hB
      clear hB
      by_cases hlt : k < f.len
      · have hd1 : decide (k < f.len) = true := by simpa using hlt
        obtain ⟨b1, o1, rfl, hb1, hat⟩ := HV.out (by omega)
        have hat' := FAt.keep HB.out hb1 (FAt.drop k hat)
        have hdl := Fs.drop_len f k
        cases hfd : f.drop k with
        | nil => rw [hfd] at hdl; simp [Fs.len] at hdl; omega
        | cons op' nm' v' bd' sub rest =>
          rw [hfd] at hat'
          obtain ⟨c0, c1, c2, c3, c4, c5, ⟨a', c', c6, -, c7⟩, -⟩ := hat'
          have HS := Lib.hid fun h => Fs.fewTo_snoc HF.out hfd h
          have HC := Lib.hid (small19 sub wr op' v' bd' nm' a' c' l c5 c7 l0 l1)
          clear hat hfd c7 hdl
          go_wp2_with fail
          refine HC.out.mono ?_
          rintro e w3 ⟨x, rfl, hx, hB3⟩
          have HB3 := Lib.hid hB3
          have HX := Lib.hid hx
          clear hB3 hx c0 c1 c2 c3 c4 c6
          cases x with
          | false =>
            go_wp2_with fail
            go_ret
            exact ⟨_, rfl, fun h => (by cases h), HB.out.trans (HB3.out.mono HB.out.size)⟩
          | true =>
            go_wp2_with fail
            go_roundw
            case rel => exact ⟨k + 1, by omega, by go_num, HB.out.trans (HB3.out.mono HB.out.size), Lib.hid (HS.out (HX.out (by simp)))⟩
            case measure => simp [intOf]; omega
      · obtain rfl : k = f.len := by omega
        go_wp2_with fail
        go_ret
        exact ⟨_, rfl, fun _ => ⟨by omega, Fs.few_of HF.out⟩, HB.out⟩
end Go.Proofs.YtckdgniecdfedaaGreatDoor
end
section
/- The walk of ints: the order of two numbers. -/
namespace Go.Proofs.YtckdgniecdfedaaGreatDoor
open Go.RowKit

/-- -1, 0 or 1 -/
def ord (x y : Int) : Int := if x < y then -1 else if y < x then 1 else 0
theorem ord_zero {x y : Int} : ord x y = 0 ↔ x = y := by
  unfold ord
  split
  · constructor
    · intro h; omega
    · intro h; omega
  · split
    · constructor
      · intro h; omega
      · intro h; omega
    · constructor
      · intro _; omega
      · intro _; rfl
theorem ints135 (w : World) (x y : Int) : Calls Tryz.prog 135 #[.int .i64 x, .int .i64 y] w fun e w' => e = .returned (.int .i64 (ord x y)) ∧ w' = w := by
  by_cases h : x < y
  · have hd : decide (x < y) = true := by simpa using h
    have HO : Hid (ord x y = -1) := Lib.hid (by simp [ord, h])
    go_enter Tryz.func135, Tryz.ntmps135
    go_wp2_with fail
    go_ret
    exact ⟨by (rw [HO.out]; try rfl), rfl⟩
  · have hd : decide (x < y) = false := by simpa using h
    by_cases h' : y < x
    · have hd' : decide (y < x) = true := by simpa using h'
      have HO : Hid (ord x y = 1) := Lib.hid (by simp [ord, h, h'])
      go_enter Tryz.func135, Tryz.ntmps135
      go_wp2_with fail
      go_ret
      exact ⟨by (rw [HO.out]; try rfl), rfl⟩
    · have hd' : decide (y < x) = false := by simpa using h'
      have HO : Hid (ord x y = 0) := Lib.hid (by simp [ord, h, h'])
      go_enter Tryz.func135, Tryz.ntmps135
      go_wp2_with fail
      go_ret
      exact ⟨by (rw [HO.out]; try rfl), rfl⟩
end Go.Proofs.YtckdgniecdfedaaGreatDoor
end
