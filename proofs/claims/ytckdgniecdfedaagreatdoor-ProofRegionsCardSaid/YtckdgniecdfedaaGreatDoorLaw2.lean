/- Numbers in decimal and the texts of certificates, in plain terms: what is written is read back, and what is read is what would be written. -/
import Derived.Lib.ItoaNum
namespace Go.Proofs.YtckdgniecdfedaaGreatDoor
namespace Tx
open Go.Lib

def dig (c : UInt8) : Bool := 48 ≤ c.toNat && c.toNat ≤ 57
def val (w : List UInt8) : Nat := w.foldl (fun n c => 10 * n + (c.toNat - 48)) 0
/-- no sign, no leading zero -/
def canon (w : List UInt8) : Bool := !w.isEmpty && w.all dig && (w.length == 1 || w.head? != some 48)
def num (w : List UInt8) : Option Nat := if canon w && decide (w.length ≤ 5) then some (val w) else none

theorem snocInd {p : List UInt8 → Prop} (h0 : p []) (h1 : ∀ v c, p v → p (v ++ [c])) (w : List UInt8) : p w := by
  have : ∀ l : List UInt8, p l.reverse := fun l => by
    induction l with
    | nil => exact h0
    | cons c l ih => rw [List.reverse_cons]; exact h1 _ _ ih
  have := this w.reverse
  rwa [List.reverse_reverse] at this
theorem val_snoc (v : List UInt8) (c : UInt8) : val (v ++ [c]) = 10 * val v + (c.toNat - 48) := by simp [val, List.foldl_append]
theorem val_lt : ∀ (w : List UInt8), w.all dig = true → val w < 10 ^ w.length := fun w => by
  induction w using snocInd with
  | h0 => intro _; simp [val]
  | h1 v c ih =>
    intro h
    rw [List.all_append, Bool.and_eq_true] at h
    have h1 := ih h.1
    have h2 : dig c = true := by simpa using h.2
    simp only [dig, Bool.and_eq_true, decide_eq_true_eq] at h2
    rw [val_snoc, List.length_append, List.length_singleton, Nat.pow_succ]
    omega
theorem byte_of {c : UInt8} (h : dig c = true) : UInt8.ofNat (48 + (c.toNat - 48)) = c := by
  simp only [dig, Bool.and_eq_true, decide_eq_true_eq] at h
  rw [show 48 + (c.toNat - 48) = c.toNat by omega]
  simp
theorem dec_val : ∀ (w : List UInt8), canon w = true → decDigits (val w) = w ∧ (w.head? ≠ some 48 → 1 ≤ val w) := fun w => by
  induction w using snocInd with
  | h0 => intro h; simp [canon] at h
  | h1 v c ih =>
    intro h
    simp only [canon, Bool.and_eq_true, List.all_append, List.all_cons, List.all_nil, Bool.and_true] at h
    obtain ⟨⟨_, hv, hc⟩, hz⟩ := h
    have hd := hc
    simp only [dig, Bool.and_eq_true, decide_eq_true_eq] at hd
    by_cases hn : v = []
    · subst hn
      rw [val_snoc]
      simp only [val, List.foldl_nil, List.nil_append, Nat.mul_zero, Nat.zero_add]
      refine ⟨?_, fun h0 => ?_⟩
      · rw [decDigits_one (by omega), byte_of hc]
      · have : c ≠ 48 := by simpa using h0
        have : c.toNat ≠ 48 := fun e => this (by rw [← UInt8.toNat_inj]; exact e)
        omega
    · have hl : v.length ≠ 0 := fun e => hn (List.length_eq_zero_iff.1 e)
      have hh : (v ++ [c]).head? = v.head? := by cases v with | nil => exact absurd rfl hn | cons a l => rfl
      have hz' : (v.head? != some 48) = true := by
        rw [hh] at hz
        have e1 : ((v ++ [c]).length == 1) = false := by simp; omega
        rw [e1] at hz
        simpa using hz
      obtain ⟨h1, h2⟩ := ih (by
        simp only [canon, Bool.and_eq_true]
        refine ⟨⟨by simp [hn], hv⟩, ?_⟩
        rw [hz']; simp)
      have h3 := h2 (by simpa using hz')
      refine ⟨?_, fun _ => by rw [val_snoc]; omega⟩
      rw [val_snoc, decDigits, dif_neg (by omega), show (10 * val v + (c.toNat - 48)) / 10 = val v by omega, show (10 * val v + (c.toNat - 48)) % 10 = c.toNat - 48 by omega, h1, byte_of hc]

theorem dec_canon (n : Nat) : canon (decDigits n) = true ∧ val (decDigits n) = n ∧ (1 ≤ n → (decDigits n).head? ≠ some 48) := by
  induction n using Nat.strongRecOn with
  | _ n ih =>
    have dg : ∀ d, d < 10 → dig (UInt8.ofNat (48 + d)) = true ∧ (UInt8.ofNat (48 + d)).toNat = 48 + d := fun d hd => by
      have : (UInt8.ofNat (48 + d)).toNat = 48 + d := by
        rw [UInt8.toNat_ofNat']; omega
      refine ⟨?_, this⟩
      simp only [dig, this, Bool.and_eq_true, decide_eq_true_eq]
      omega
    by_cases h : n < 10
    · obtain ⟨h1, h2⟩ := dg n h
      rw [decDigits_one h]
      refine ⟨by simp only [canon, List.all_cons, h1]; rfl, by simp only [val, List.foldl_cons, List.foldl_nil, h2]; omega, fun hn e => ?_⟩
      have : UInt8.ofNat (48 + n) = 48 := by simpa using e
      have := congrArg UInt8.toNat this
      rw [h2] at this
      have h48 : (48 : UInt8).toNat = 48 := rfl
      omega
    · obtain ⟨i1, i2, i3⟩ := ih (n / 10) (by omega)
      obtain ⟨h1, h2⟩ := dg (n % 10) (by omega)
      rw [decDigits, dif_neg h]
      have hne : decDigits (n / 10) ≠ [] := fun e => by rw [e] at i1; simp [canon] at i1
      have hh : (decDigits (n / 10) ++ [UInt8.ofNat (48 + n % 10)]).head? = (decDigits (n / 10)).head? := by
        cases hd : decDigits (n / 10) with | nil => exact absurd hd hne | cons a l => rfl
      have h48 := i3 (by omega)
      simp only [canon, Bool.and_eq_true] at i1
      refine ⟨?_, by rw [val_snoc, i2, h2]; omega, fun _ => by rw [hh]; exact h48⟩
      simp only [canon, Bool.and_eq_true, List.all_append, List.all_cons, List.all_nil, Bool.and_true]
      refine ⟨⟨by simp, i1.1.2, h1⟩, ?_⟩
      rw [hh]
      simp [h48]

theorem dec_len {n : Nat} (h : n ≤ 99999) : (decDigits n).length ≤ 5 := by
  rw [decDigits_length]
  rcases Nat.lt_or_ge n 10 with h1 | h1
  · rw [nDigits_small h1]; omega
  rcases Nat.lt_or_ge n 100 with h2 | h2
  · rw [nDigits_unique 1 n (by omega) (by omega)]; omega
  rcases Nat.lt_or_ge n 1000 with h3 | h3
  · rw [nDigits_unique 2 n (by omega) (by omega)]; omega
  rcases Nat.lt_or_ge n 10000 with h4 | h4
  · rw [nDigits_unique 3 n (by omega) (by omega)]; omega
  · rw [nDigits_unique 4 n (by omega) (by omega)]; omega
theorem num_dec {n : Nat} (h : n ≤ 99999) : num (decDigits n) = some n := by
  obtain ⟨h1, h2, _⟩ := dec_canon n
  simp [num, h1, h2, dec_len h]
theorem num_some {w : List UInt8} {n : Nat} (h : num w = some n) : decDigits n = w ∧ n ≤ 99999 := by
  unfold num at h
  split at h
  · rename_i hc
    simp only [Bool.and_eq_true, decide_eq_true_eq] at hc
    injection h with h
    subst h
    refine ⟨(dec_val w hc.1).1, ?_⟩
    have h1 := hc.1
    simp only [canon, Bool.and_eq_true] at h1
    have h2 := val_lt w h1.1.2
    have h3 : 10 ^ w.length ≤ 10 ^ 5 := Nat.pow_le_pow_right (by omega) hc.2
    omega
  · cases h
theorem dec_no_space (n : Nat) : (32 : UInt8) ∉ decDigits n := fun h => by
  have h1 := (dec_canon n).1
  simp only [canon, Bool.and_eq_true] at h1
  have := List.all_eq_true.1 h1.1.2 32 h
  simp [dig] at this

/-! ### Words -/
/-- the words between blanks -/
def split : List UInt8 → List (List UInt8)
  | [] => [[]]
  | c :: s => if c = 32 then [] :: split s else match split s with
    | [] => [[c]]
    | w :: ws => (c :: w) :: ws
def join : List (List UInt8) → List UInt8
  | [] => []
  | [w] => w
  | w :: ws => w ++ 32 :: join ws
theorem split_ne (s : List UInt8) : split s ≠ [] := by
  cases s with
  | nil => simp [split]
  | cons c s =>
    unfold split
    split
    · simp
    · split <;> simp
theorem join_split : ∀ s : List UInt8, join (split s) = s
  | [] => rfl
  | c :: s => by
    have ih := join_split s
    unfold split
    split
    · rename_i h
      subst h
      cases hs : split s with
      | nil => exact absurd hs (split_ne s)
      | cons w ws => rw [hs] at ih; simp [join, ih]
    · cases hs : split s with
      | nil => exact absurd hs (split_ne s)
      | cons w ws =>
        rw [hs] at ih
        cases ws with
        | nil => simpa [join] using ih
        | cons v vs => simpa [join] using ih
theorem split_word : ∀ (w : List UInt8), (32 : UInt8) ∉ w → split w = [w]
  | [], _ => rfl
  | c :: w, h => by
    have hc : c ≠ 32 := fun e => h (by simp [e])
    have := split_word w (fun e => h (by simp [e]))
    simp [split, hc, this]
theorem split_app : ∀ (w : List UInt8) (s : List UInt8), (32 : UInt8) ∉ w → split (w ++ 32 :: s) = w :: split s
  | [], s, _ => by simp [split]
  | c :: w, s, h => by
    have hc : c ≠ 32 := fun e => h (by simp [e])
    have := split_app w s (fun e => h (by simp [e]))
    simp [split, hc, this]
theorem split_join : ∀ (ws : List (List UInt8)), ws ≠ [] → (∀ w ∈ ws, (32 : UInt8) ∉ w) → split (join ws) = ws
  | [], h, _ => absurd rfl h
  | [w], _, h => by simpa [join] using split_word w (h w (by simp))
  | w :: v :: ws, _, h => by
    rw [join, split_app w _ (h w (by simp)), split_join (v :: ws) (by simp) (fun x hx => h x (by simp [hx]))]
    simp

/-! ### Texts -/
def nums : List (List UInt8) → Option (List Nat)
  | [] => some []
  | w :: ws => match num w with
    | some n => (nums ws).map (n :: ·)
    | none => none
def text (sd : Nat) (ns : List Nat) : List UInt8 := join ((sd :: ns).map decDigits)
def parse (s : List UInt8) : Option (Nat × List Nat) := match nums (split s) with
  | some (n :: ns) => some (n, ns)
  | _ => none
theorem nums_dec : ∀ ns : List Nat, (∀ n ∈ ns, n ≤ 99999) → nums (ns.map decDigits) = some ns
  | [], _ => rfl
  | n :: ns, h => by simp [nums, num_dec (h n (by simp)), nums_dec ns fun m hm => h m (by simp [hm])]
theorem nums_some : ∀ {ws : List (List UInt8)} {ns : List Nat}, nums ws = some ns → ns.map decDigits = ws ∧ ∀ n ∈ ns, n ≤ 99999
  | [], ns, h => by simp [nums] at h; subst h; simp
  | w :: ws, ns, h => by
    unfold nums at h
    split at h
    · rename_i n hn
      obtain ⟨ms, h1, rfl⟩ := Option.map_eq_some_iff.1 h
      obtain ⟨h2, h3⟩ := nums_some h1
      obtain ⟨h4, h5⟩ := num_some hn
      refine ⟨by simp [h2, h4], fun m hm => ?_⟩
      rcases List.mem_cons.1 hm with rfl | hm
      · exact h5
      · exact h3 m hm
    · cases h
theorem parse_text (sd : Nat) (ns : List Nat) (h0 : sd ≤ 99999) (h : ∀ n ∈ ns, n ≤ 99999) : parse (text sd ns) = some (sd, ns) := by
  have := nums_dec (sd :: ns) (fun n hn => (List.mem_cons.1 hn).elim (fun e => e ▸ h0) (h n))
  rw [parse, text, split_join _ (by simp) (fun w hw => by obtain ⟨n, _, rfl⟩ := List.mem_map.1 hw; exact dec_no_space n), this]
theorem text_parse {s : List UInt8} {sd : Nat} {ns : List Nat} (h : parse s = some (sd, ns)) : text sd ns = s ∧ sd ≤ 99999 ∧ ∀ n ∈ ns, n ≤ 99999 := by
  unfold parse at h
  split at h
  · rename_i n ms hm
    obtain ⟨h1, h2⟩ := nums_some hm
    injection h with h
    injection h with ha hb
    subst ha; subst hb
    exact ⟨by rw [text, h1, join_split], h2 n (by simp), fun m hm => h2 m (by simp [hm])⟩
  · cases h
end Tx
end Go.Proofs.YtckdgniecdfedaaGreatDoor
