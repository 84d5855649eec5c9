/- Forests of formulas: their numbers tell them; forests that can be read. -/
import Derived.Test.YtckdgniecdfedaaGreatDoorMgC
section
/- The numbers of the parts of a claim tell the parts: plain law, with no program in sight. -/
namespace Go.Proofs.YtckdgniecdfedaaGreatDoor

/-- a forest of formulas: a first one, its arguments, and those behind it -/
inductive Fs where
  | nil
  | cons (op : Int) (name : ByteArray) (val bound : Int) (args rest : Fs)
def Fs.len : Fs → Nat
  | .nil => 0
  | .cons _ _ _ _ _ r => r.len + 1
def Fs.nodes : Fs → Nat
  | .nil => 0
  | .cons _ _ _ _ a r => a.nodes + r.nodes + 1
/-- their numbers, one after the other -/
def Fs.code : Fs → List Int
  | .nil => []
  | .cons op nm v b a r => [op] ++ txt nm.data.toList ++ [v, b, (a.len : Int)] ++ (a.code ++ r.code)

theorem bytes_inj : ∀ {s t : List UInt8}, s.map (fun c => (c.toNat : Int)) = t.map (fun c => (c.toNat : Int)) → s = t
  | [], [], _ => rfl
  | [], _ :: _, h => by simp at h
  | _ :: _, [], h => by simp at h
  | c :: s, d :: t, h => by
    simp only [List.map_cons, List.cons.injEq] at h
    have e : c = d := by rw [← UInt8.toNat_inj]; exact Int.ofNat.inj h.1
    rw [e, bytes_inj h.2]
theorem txt_inj {s t : List UInt8} {x y : List Int} (h : txt s ++ x = txt t ++ y) : s = t ∧ x = y := by
  unfold txt at h
  simp only [List.cons_append, List.cons.injEq] at h
  obtain ⟨h1, h2⟩ := h
  have hl : s.length = t.length := by omega
  obtain ⟨h3, h4⟩ := List.append_inj h2 (by simp [hl])
  exact ⟨bytes_inj h3, h4⟩
theorem bytes_eq {a b : ByteArray} (h : a.data.toList = b.data.toList) : a = b := by
  cases a; cases b
  congr 1
  exact Array.toList_inj.1 h
theorem Fs.inj : ∀ (f g : Fs) (x y : List Int), f.len = g.len → f.code ++ x = g.code ++ y → f = g ∧ x = y
  | .nil, .nil, x, y, _, h => ⟨rfl, by simpa [Fs.code] using h⟩
  | .nil, .cons .., x, y, hl, _ => by simp [Fs.len] at hl
  | .cons .., .nil, x, y, hl, _ => by simp [Fs.len] at hl
  | .cons op nm v b a r, .cons op' nm' v' b' a' r', x, y, hl, h => by
    simp only [Fs.len, Nat.add_right_cancel_iff] at hl
    simp only [Fs.code, List.append_assoc, List.cons_append, List.nil_append, List.cons.injEq] at h
    obtain ⟨rfl, k1⟩ := h
    obtain ⟨hn, k2⟩ := txt_inj k1
    simp only [List.cons.injEq] at k2
    obtain ⟨rfl, rfl, h1, k3⟩ := k2
    obtain ⟨rfl, k4⟩ := Fs.inj a a' _ _ (by omega) k3
    obtain ⟨rfl, k5⟩ := Fs.inj r r' _ _ hl k4
    rw [bytes_eq hn]
    exact ⟨rfl, k5⟩
theorem lst_inj {r s : List Int} {x y : List Int} (h : lst r ++ x = lst s ++ y) : r = s ∧ x = y := by
  unfold lst at h
  simp only [List.cons_append, List.cons.injEq] at h
  exact List.append_inj h.2 (by omega)
theorem Sg.inj {a b : Sg} {x y : List Int} (h : a.code ++ x = b.code ++ y) : a = b ∧ x = y := by
  unfold Sg.code at h
  simp only [List.append_assoc, List.cons_append, List.nil_append] at h
  obtain ⟨hn, k1⟩ := txt_inj h
  simp only [List.cons.injEq] at k1
  obtain ⟨h1, h2, h3⟩ := k1
  refine ⟨?_, h3⟩
  cases a; cases b
  rename_i i s _ i' s'
  simp only at hn h1 h2
  rw [bytes_eq hn, h2]
  congr 1
  cases i <;> cases i' <;> simp_all
theorem sgs_inj : ∀ (l m : List Sg) (x y : List Int), l.length = m.length → sgs l ++ x = sgs m ++ y → l = m ∧ x = y
  | [], [], x, y, _, h => ⟨rfl, by simpa [sgs] using h⟩
  | [], _ :: _, _, _, hl, _ => by simp at hl
  | _ :: _, [], _, _, hl, _ => by simp at hl
  | a :: l, b :: m, x, y, hl, h => by
    simp only [sgs, List.append_assoc] at h
    obtain ⟨rfl, k1⟩ := Sg.inj h
    obtain ⟨rfl, k2⟩ := sgs_inj l m x y (by simpa using hl) k1
    exact ⟨rfl, k2⟩
theorem Sp.inj {a b : Sp} {x y : List Int} (h : a.code ++ x = b.code ++ y) : a = b ∧ x = y := by
  unfold Sp.code at h
  simp only [List.append_assoc, List.cons_append, List.nil_append, List.cons.injEq] at h
  obtain ⟨h1, h2, k1⟩ := h
  obtain ⟨h3, k2⟩ := lst_inj k1
  simp only [List.cons.injEq] at k2
  obtain ⟨h4, h5, h6⟩ := k2
  refine ⟨?_, h6⟩
  cases a; cases b
  simp only at h1 h2 h3 h4 h5
  rw [h1, h2, h3, h4, h5]
theorem sps_inj : ∀ (l m : List Sp) (x y : List Int), l.length = m.length → sps l ++ x = sps m ++ y → l = m ∧ x = y
  | [], [], x, y, _, h => ⟨rfl, by simpa [sps] using h⟩
  | [], _ :: _, _, _, hl, _ => by simp at hl
  | _ :: _, [], _, _, hl, _ => by simp at hl
  | a :: l, b :: m, x, y, hl, h => by
    simp only [sps, List.append_assoc] at h
    obtain ⟨rfl, k1⟩ := Sp.inj h
    obtain ⟨rfl, k2⟩ := sps_inj l m x y (by simpa using hl) k1
    exact ⟨rfl, k2⟩
theorem lsts_inj : ∀ (l m : List (List Int)) (x y : List Int), l.length = m.length → lsts l ++ x = lsts m ++ y → l = m ∧ x = y
  | [], [], x, y, _, h => ⟨rfl, by simpa [lsts] using h⟩
  | [], _ :: _, _, _, hl, _ => by simp at hl
  | _ :: _, [], _, _, hl, _ => by simp at hl
  | a :: l, b :: m, x, y, hl, h => by
    simp only [lsts, List.append_assoc] at h
    obtain ⟨rfl, k1⟩ := lst_inj h
    obtain ⟨rfl, k2⟩ := lsts_inj l m x y (by simpa using hl) k1
    exact ⟨rfl, k2⟩
theorem ers_inj (c : Int) : ∀ (xs ys : List Int) (rs ts : List (List Int)) (x y : List Int), xs.length = ys.length → rs.length = xs.length → ts.length = ys.length → (∀ r ∈ rs, (r.length : Int) = c) → (∀ r ∈ ts, (r.length : Int) = c) →
    ers xs rs ++ x = ers ys ts ++ y → xs = ys ∧ rs = ts ∧ x = y
  | [], [], [], [], x, y, _, _, _, _, _, h => ⟨rfl, rfl, by simpa [ers] using h⟩
  | [], _ :: _, _, _, _, _, h, _, _, _, _, _ => by simp at h
  | _ :: _, [], _, _, _, _, h, _, _, _, _, _ => by simp at h
  | [], [], _ :: _, _, _, _, _, h, _, _, _, _ => by simp at h
  | [], [], [], _ :: _, _, _, _, _, h, _, _, _ => by simp at h
  | _ :: _, _ :: _, [], _, _, _, _, h, _, _, _, _ => by simp at h
  | _ :: _, _ :: _, _ :: _, [], _, _, _, _, h, _, _, _ => by simp at h
  | a :: xs, b :: ys, r :: rs, t :: ts, x, y, h1, h2, h3, h4, h5, h => by
    simp only [ers, List.cons_append, List.append_assoc, List.cons.injEq] at h
    obtain ⟨rfl, k1⟩ := h
    have e1 := h4 r (by simp)
    have e2 := h5 t (by simp)
    obtain ⟨rfl, k2⟩ := List.append_inj k1 (by omega)
    obtain ⟨rfl, rfl, k3⟩ := ers_inj c xs ys rs ts x y (by simpa using h1) (by simpa using h2) (by simpa using h3) (fun r hr => h4 r (by simp [hr])) (fun r hr => h5 r (by simp [hr])) k2
    exact ⟨rfl, rfl, k3⟩
theorem Ev.inj {e g : Ev} {x y : List Int} (he : e.fit) (hg : g.fit) (h : e.code ++ x = g.code ++ y) : e = g ∧ x = y := by
  unfold Ev.code at h
  simp only [List.cons_append, List.nil_append, List.cons.injEq] at h
  obtain ⟨h1, h2, h3, h4, k1⟩ := h
  obtain ⟨f1, f2⟩ := he
  obtain ⟨g1, g2⟩ := hg
  obtain ⟨h5, h6, h7⟩ := ers_inj e.outs e.inn g.inn e.next g.next x y (by omega) f1 g1 f2 (fun r hr => by rw [g2 r hr, h2]) k1
  refine ⟨?_, h7⟩
  cases e; cases g
  simp only at h1 h2 h3 h5 h6
  rw [h1, h2, h3, h5, h6]
theorem zs2_inj : ∀ (a b c d : List Int) (x y : List Int), a.length = c.length → b.length = a.length → d.length = c.length → zs2 a b ++ x = zs2 c d ++ y → a = c ∧ b = d ∧ x = y
  | [], [], [], [], x, y, _, _, _, h => ⟨rfl, rfl, by simpa [zs2] using h⟩
  | [], _, _ :: _, _, _, _, h, _, _, _ => by simp at h
  | _ :: _, _, [], _, _, _, h, _, _, _ => by simp at h
  | [], _ :: _, [], _, _, _, _, h, _, _ => by simp at h
  | [], [], [], _ :: _, _, _, _, _, h, _ => by simp at h
  | _ :: _, [], _ :: _, _, _, _, _, h, _, _ => by simp at h
  | _ :: _, _ :: _, _ :: _, [], _, _, _, _, h, _ => by simp at h
  | p :: a, q :: b, r :: c, s :: d, x, y, h1, h2, h3, h => by
    simp only [zs2, List.cons_append, List.cons.injEq] at h
    obtain ⟨rfl, rfl, k1⟩ := h
    obtain ⟨rfl, rfl, k2⟩ := zs2_inj a b c d x y (by simpa using h1) (by simpa using h2) (by simpa using h3) k1
    exact ⟨rfl, rfl, k2⟩
theorem crs_inj (c : Int) : ∀ (xs ys rs ts : List (List Int)) (x y : List Int), xs.length = ys.length → rs.length = xs.length → ts.length = ys.length → (∀ r ∈ xs, (r.length : Int) = c) → (∀ r ∈ ys, (r.length : Int) = c) → (∀ r ∈ rs, (r.length : Int) = c) → (∀ r ∈ ts, (r.length : Int) = c) →
    crs xs rs ++ x = crs ys ts ++ y → xs = ys ∧ rs = ts ∧ x = y
  | [], [], [], [], x, y, _, _, _, _, _, _, _, h => ⟨rfl, rfl, by simpa [crs] using h⟩
  | [], _ :: _, _, _, _, _, h, _, _, _, _, _, _, _ => by simp at h
  | _ :: _, [], _, _, _, _, h, _, _, _, _, _, _, _ => by simp at h
  | [], [], _ :: _, _, _, _, _, h, _, _, _, _, _, _ => by simp at h
  | [], [], [], _ :: _, _, _, _, _, h, _, _, _, _, _ => by simp at h
  | _ :: _, _ :: _, [], _, _, _, _, h, _, _, _, _, _, _ => by simp at h
  | _ :: _, _ :: _, _ :: _, [], _, _, _, _, h, _, _, _, _, _ => by simp at h
  | a :: xs, b :: ys, r :: rs, t :: ts, x, y, h1, h2, h3, h4, h5, h6, h7, h => by
    simp only [crs, List.append_assoc] at h
    have e1 := h4 a (by simp)
    have e2 := h5 b (by simp)
    have e3 := h6 r (by simp)
    have e4 := h7 t (by simp)
    obtain ⟨rfl, rfl, k1⟩ := zs2_inj a r b t _ _ (by omega) (by omega) (by omega) h
    obtain ⟨rfl, rfl, k2⟩ := crs_inj c xs ys rs ts x y (by simpa using h1) (by simpa using h2) (by simpa using h3) (fun r hr => h4 r (by simp [hr])) (fun r hr => h5 r (by simp [hr])) (fun r hr => h6 r (by simp [hr])) (fun r hr => h7 r (by simp [hr])) k1
    exact ⟨rfl, rfl, k2⟩
theorem Ct.inj {e g : Ct} {x y : List Int} (he : e.fit) (hg : g.fit) (h : e.code ++ x = g.code ++ y) : e = g ∧ x = y := by
  unfold Ct.code at h
  simp only [List.cons_append, List.nil_append, List.cons.injEq] at h
  obtain ⟨h1, h2, h3, h4, k1⟩ := h
  obtain ⟨f1, f2, f3⟩ := he
  obtain ⟨g1, g2, g3⟩ := hg
  obtain ⟨h5, h6, h7⟩ := crs_inj e.ins e.out g.out e.next g.next x y (by omega) f1 g1 f2 (fun r hr => by rw [g2 r hr, h1]) f3 (fun r hr => by rw [g3 r hr, h1]) k1
  refine ⟨?_, h7⟩
  cases e; cases g
  simp only at h1 h2 h3 h5 h6
  rw [h1, h2, h3, h5, h6]
theorem gps_inj : ∀ (a b c d : List Int) (rs ts : List (List Int)) (x y : List Int), a.length = c.length → b.length = a.length → d.length = c.length → rs.length = a.length → ts.length = c.length → gps a b rs ++ x = gps c d ts ++ y → a = c ∧ b = d ∧ rs = ts ∧ x = y
  | [], b, [], d, rs, ts, x, y, _, h2, h3, h4, h5, h => by
    simp only [List.length_nil, List.length_eq_zero_iff] at h2 h3 h4 h5
    subst h2 h3 h4 h5
    exact ⟨rfl, rfl, rfl, by simpa [gps] using h⟩
  | [], _, _ :: _, _, _, _, _, _, h, _, _, _, _, _ => by simp at h
  | _ :: _, _, [], _, _, _, _, _, h, _, _, _, _, _ => by simp at h
  | _ :: _, [], _ :: _, _, _, _, _, _, _, h, _, _, _, _ => by simp at h
  | _ :: _, _ :: _, _ :: _, [], _, _, _, _, _, _, h, _, _, _ => by simp at h
  | _ :: _, _ :: _, _ :: _, _ :: _, [], _, _, _, _, _, _, h, _, _ => by simp at h
  | _ :: _, _ :: _, _ :: _, _ :: _, _ :: _, [], _, _, _, _, _, _, h, _ => by simp at h
  | p :: a, q :: b, r :: c, s :: d, u :: rs, v :: ts, x, y, h1, h2, h3, h4, h5, h => by
    simp only [gps, List.append_assoc, List.cons_append, List.nil_append, List.cons.injEq] at h
    obtain ⟨rfl, rfl, k1⟩ := h
    obtain ⟨rfl, k2⟩ := lst_inj k1
    obtain ⟨rfl, rfl, rfl, k3⟩ := gps_inj a b c d rs ts x y (by simpa using h1) (by simpa using h2) (by simpa using h3) (by simpa using h4) (by simpa using h5) k2
    exact ⟨rfl, rfl, rfl, k3⟩
theorem Gm.inj {e g : Gm} {x y : List Int} (he : e.fit) (hg : g.fit) (h : e.code ++ x = g.code ++ y) : e = g ∧ x = y := by
  unfold Gm.code at h
  simp only [List.append_assoc, List.cons_append, List.nil_append, List.cons.injEq] at h
  obtain ⟨h1, k1⟩ := h
  obtain ⟨f1, f2, f3⟩ := he
  obtain ⟨g1, g2, g3⟩ := hg
  obtain ⟨h2, h3, h4, k2⟩ := gps_inj e.owner e.prio g.owner g.prio e.succ g.succ _ _ (by omega) f1 g1 f2 g2 k1
  obtain ⟨h5, k3⟩ := lsts_inj e.meas g.meas x y (by omega) k2
  refine ⟨?_, k3⟩
  cases e; cases g
  simp only at h2 h3 h4 h5
  rw [h2, h3, h4, h5]
end Go.Proofs.YtckdgniecdfedaaGreatDoor
end
section
/- A forest of formulas that can be read in a world. -/
namespace Go.Proofs.YtckdgniecdfedaaGreatDoor
open Go.RowKit

/-- the formulas lie at block b from off on -/
def FAt (w : World) : Fs → Nat → Nat → Prop
  | .nil, _, _ => True
  | .cons op nm v bd args rest, b, off =>
    w.cell? ⟨b, off, none⟩ = some (.int .i64 op) ∧ w.cell? ⟨b, off + 1, none⟩ = some (.string nm) ∧ nm.size ≤ 9223372036854775807 ∧ w.cell? ⟨b, off + 2, none⟩ = some (.int .i64 v) ∧ w.cell? ⟨b, off + 3, none⟩ = some (.int .i64 bd) ∧
    args.len ≤ 9223372036854775807 ∧ (∃ a c, w.cell? ⟨b, off + 4, none⟩ = some (.slice a args.len c) ∧ args.len ≤ c ∧ (args.len ≠ 0 → ∃ b' o', a = some ⟨b', o', none⟩ ∧ b' < w.heap.size ∧ FAt w args b' o')) ∧ FAt w rest b (off + 5)
/-- a slice of formulas -/
def FV (w : World) (v : Value) (f : Fs) : Prop := f.len ≤ 9223372036854775807 ∧ ∃ a c, v = .slice a f.len c ∧ f.len ≤ c ∧ (f.len ≠ 0 → ∃ b o, a = some ⟨b, o, none⟩ ∧ b < w.heap.size ∧ FAt w f b o)

theorem FAt.keep {w w' : World} (hB : Below w.heap.size w w') : ∀ {f : Fs} {b off : Nat}, b < w.heap.size → FAt w f b off → FAt w' f b off
  | .nil, _, _, _, _ => trivial
  | .cons op nm v bd args rest, b, off, hb, ⟨c0, c1, c2, c3, c4, c5, ⟨a, c, c6, cc, c7⟩, c8⟩ =>
    ⟨(hB.cell (p := ⟨b, off, none⟩) hb).trans c0, (hB.cell (p := ⟨b, off + 1, none⟩) hb).trans c1, c2, (hB.cell (p := ⟨b, off + 2, none⟩) hb).trans c3, (hB.cell (p := ⟨b, off + 3, none⟩) hb).trans c4, c5,
      ⟨a, c, (hB.cell (p := ⟨b, off + 4, none⟩) hb).trans c6, cc, fun h => by
        obtain ⟨b', o', e, hb', h'⟩ := c7 h
        exact ⟨b', o', e, Nat.lt_of_lt_of_le hb' hB.size, FAt.keep hB hb' h'⟩⟩, FAt.keep hB hb c8⟩
theorem FV.keep {w w' : World} {v : Value} {f : Fs} (h : FV w v f) (hB : Below w.heap.size w w') : FV w' v f := by
  obtain ⟨hl, a, c, e, hc, h⟩ := h
  refine ⟨hl, a, c, e, hc, fun h0 => ?_⟩
  obtain ⟨b, o, e', hb, h'⟩ := h h0
  exact ⟨b, o, e', Nat.lt_of_lt_of_le hb hB.size, FAt.keep hB hb h'⟩
theorem FAt.drawn {w : World} (n : Nat) : ∀ {f : Fs} {b off : Nat}, FAt w f b off → FAt (w.drewN n) f b off
  | .nil, _, _, _ => trivial
  | .cons _ _ _ _ _ _, _, _, ⟨c0, c1, c2, c3, c4, c5, ⟨a, c, c6, cc, c7⟩, c8⟩ =>
    ⟨c0, c1, c2, c3, c4, c5, ⟨a, c, c6, cc, fun h => by
      obtain ⟨b', o', e, hb', h'⟩ := c7 h
      exact ⟨b', o', e, hb', FAt.drawn n h'⟩⟩, FAt.drawn n c8⟩
/-- the formulas from the j-th on -/
def Fs.drop : Fs → Nat → Fs
  | f, 0 => f
  | .nil, _ => .nil
  | .cons _ _ _ _ _ r, j + 1 => r.drop j
theorem Fs.drop_len : ∀ (f : Fs) (j : Nat), (f.drop j).len = f.len - j
  | .nil, 0 => rfl
  | .nil, j + 1 => by simp [Fs.drop, Fs.len]
  | .cons .., 0 => rfl
  | .cons _ _ _ _ _ r, j + 1 => by
    have := Fs.drop_len r j
    simp only [Fs.drop, Fs.len, this]
    omega
theorem FAt.drop {w : World} : ∀ {f : Fs} {b off : Nat} (j : Nat), FAt w f b off → FAt w (f.drop j) b (off + j * 5)
  | .nil, _, _, 0, _ => trivial
  | .nil, _, _, j + 1, _ => trivial
  | .cons _ _ _ _ _ _, _, _, 0, h => h
  | .cons _ _ _ _ _ r, b, off, j + 1, h => by
    have := FAt.drop j h.2.2.2.2.2.2.2
    have e : off + 5 + j * 5 = off + (j + 1) * 5 := by omega
    rw [e] at this
    exact this
end Go.Proofs.YtckdgniecdfedaaGreatDoor
end
