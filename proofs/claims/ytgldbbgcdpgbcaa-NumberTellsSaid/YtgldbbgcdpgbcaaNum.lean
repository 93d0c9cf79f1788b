/- Plain laws of numbers as texts: lists of digits, most significant first. No program in sight but the words inc and valR. -/
import Derived.Test.YtgldbbgcdpgbcaaNx
import Derived.Test.YtgldbbgcdpgbcaaVal
set_option linter.unusedVariables false
set_option linter.unusedSimpArgs false
namespace Go.Proofs.Ytgldbbgcdpgbcaa.Num
open Go.Proofs.Ytgldbbgcdpgbcaa.Oct

def Dig (c : UInt8) : Prop := 48 ≤ c.toNat ∧ c.toNat ≤ 57
def Digs (l : List UInt8) : Prop := ∀ c ∈ l, Dig c
/-- A number's text. -/
def IsNum (l : List UInt8) : Prop := l ≠ [] ∧ Digs l ∧ (l.head? = some 48 → l.length = 1)
def dv (c : UInt8) : Nat := c.toNat - 48
/-- The number of a text. -/
def val (l : List UInt8) : Nat := l.foldl (fun n c => 10 * n + dv c) 0

theorem foldl_from (l : List UInt8) (n : Nat) : l.foldl (fun n c => 10 * n + dv c) n = n * 10 ^ l.length + val l := by
  induction l generalizing n with
  | nil => simp [val]
  | cons c l ih =>
    unfold val
    rw [List.foldl_cons, List.foldl_cons, ih, ih, List.length_cons, Nat.pow_succ, Nat.add_mul, Nat.add_mul]
    simp only [Nat.mul_zero, Nat.zero_mul, Nat.zero_add]
    rw [show 10 * n * 10 ^ l.length = n * (10 ^ l.length * 10) by rw [Nat.mul_comm 10 n, Nat.mul_assoc, Nat.mul_comm 10]]
    omega
theorem val_nil : val [] = 0 := rfl
theorem val_cons (c : UInt8) (l : List UInt8) : val (c :: l) = dv c * 10 ^ l.length + val l := by
  have := foldl_from l (10 * 0 + dv c)
  simpa [val] using this
theorem val_snoc (l : List UInt8) (c : UInt8) : val (l ++ [c]) = 10 * val l + dv c := by simp [val]
theorem dv_lt {c : UInt8} (h : Dig c) : dv c < 10 := by unfold dv; unfold Dig at h; omega
theorem dv_inj {c d : UInt8} (h : Dig c) (k : Dig d) (e : dv c = dv d) : c = d := by
  apply UInt8.toNat.inj
  unfold dv at e; unfold Dig at h k; omega
theorem Digs.tail {c : UInt8} {l : List UInt8} (h : Digs (c :: l)) : Dig c ∧ Digs l := ⟨h c (by simp), fun d hd => h d (by simp [hd])⟩
theorem Digs.cons {c : UInt8} {l : List UInt8} (h : Dig c) (k : Digs l) : Digs (c :: l) := fun d hd => by
  rcases List.mem_cons.1 hd with rfl | hd
  · exact h
  · exact k d hd
theorem val_lt {l : List UInt8} (h : Digs l) : val l < 10 ^ l.length := by
  induction l with
  | nil => simp [val_nil]
  | cons c l ih =>
    obtain ⟨hc, hl⟩ := h.tail
    rw [val_cons, List.length_cons, Nat.pow_succ]
    have h1 := ih hl
    have h2 : dv c * 10 ^ l.length ≤ 9 * 10 ^ l.length := Nat.mul_le_mul_right _ (by have := dv_lt hc; omega)
    omega
theorem val_inj {a b : List UInt8} (ha : Digs a) (hb : Digs b) (hl : a.length = b.length) (h : val a = val b) : a = b := by
  induction a generalizing b with
  | nil => cases b with
    | nil => rfl
    | cons => simp at hl
  | cons c a ih => cases b with
    | nil => simp at hl
    | cons d b =>
      simp only [List.length_cons, Nat.add_right_cancel_iff] at hl
      rw [val_cons, val_cons, hl] at h
      obtain ⟨hc, ha⟩ := ha.tail
      obtain ⟨hd, hb⟩ := hb.tail
      have h1 := val_lt ha
      have h2 := val_lt hb
      rw [hl] at h1
      have e : dv c = dv d := by
        rcases Nat.lt_trichotomy (dv c) (dv d) with g | g | g
        · have : (dv c + 1) * 10 ^ b.length ≤ dv d * 10 ^ b.length := Nat.mul_le_mul_right _ g
          rw [Nat.add_mul] at this
          omega
        · exact g
        · have : (dv d + 1) * 10 ^ b.length ≤ dv c * 10 ^ b.length := Nat.mul_le_mul_right _ g
          rw [Nat.add_mul] at this
          omega
      rw [dv_inj hc hd e, ih ha hb hl (by rw [e] at h; omega)]
/-- Of one length the order of texts is that of the numbers. -/
theorem less_iff {a b : List UInt8} (ha : Digs a) (hb : Digs b) (hl : a.length = b.length) : Op.bytesLess a b = true ↔ val a < val b := by
  induction a generalizing b with
  | nil => cases b with
    | nil => simp [Op.bytesLess]
    | cons => simp at hl
  | cons c a ih => cases b with
    | nil => simp at hl
    | cons d b =>
      simp only [List.length_cons, Nat.add_right_cancel_iff] at hl
      rw [val_cons, val_cons, hl]
      obtain ⟨hc, ha⟩ := ha.tail
      obtain ⟨hd, hb⟩ := hb.tail
      have h1 := val_lt ha
      have h2 := val_lt hb
      rw [hl] at h1
      have h3 := ih ha hb hl
      simp only [Op.bytesLess, Bool.or_eq_true, decide_eq_true_eq, Bool.and_eq_true, beq_iff_eq, UInt8.lt_iff_toNat_lt]
      have hcd : c.toNat < d.toNat ↔ dv c < dv d := by unfold dv; unfold Dig at hc hd; omega
      rcases Nat.lt_trichotomy (dv c) (dv d) with g | g | g
      · have : (dv c + 1) * 10 ^ b.length ≤ dv d * 10 ^ b.length := Nat.mul_le_mul_right _ g
        rw [Nat.add_mul] at this
        exact ⟨fun _ => by omega, fun _ => .inl (hcd.2 g)⟩
      · have e := dv_inj hc hd g
        subst e
        rw [h3]
        exact ⟨fun k => by rcases k with k | k; · omega
                           · omega, fun k => .inr ⟨rfl, by omega⟩⟩
      · have : (dv d + 1) * 10 ^ b.length ≤ dv c * 10 ^ b.length := Nat.mul_le_mul_right _ g
        rw [Nat.add_mul] at this
        exact ⟨fun k => by
          rcases k with k | ⟨rfl, _⟩
          · have := hcd.1 k; omega
          · omega, fun k => by omega⟩

theorem IsNum.pos {l : List UInt8} (h : IsNum l) : 0 < l.length := List.length_pos_iff.2 h.1
theorem val_ge {l : List UInt8} (h : IsNum l) (h1 : 1 < l.length) : 10 ^ (l.length - 1) ≤ val l := by
  obtain ⟨_, hd, h0⟩ := h
  cases l with
  | nil => simp at h1
  | cons c l =>
    rw [val_cons, List.length_cons, Nat.add_sub_cancel]
    obtain ⟨hc, hl⟩ := hd.tail
    have : 1 ≤ dv c := by
      rcases Nat.eq_zero_or_pos (dv c) with g | g
      · exfalso
        have : c = 48 := dv_inj hc (by unfold Dig; decide) (by rw [g]; rfl)
        subst this
        have := h0 rfl
        omega
      · exact g
    have := Nat.mul_le_mul_right (10 ^ l.length) this
    omega
theorem val_length {a b : List UInt8} (ha : IsNum a) (hb : IsNum b) (h : a.length < b.length) : val a < val b := by
  have h1 := val_lt ha.2.1
  have h2 := val_ge hb (by have := ha.pos; omega)
  have : 10 ^ a.length ≤ 10 ^ (b.length - 1) := Nat.pow_le_pow_right (by omega) (by omega)
  omega
theorem num_inj {a b : List UInt8} (ha : IsNum a) (hb : IsNum b) (h : val a = val b) : a = b := by
  rcases Nat.lt_trichotomy a.length b.length with g | g | g
  · have := val_length ha hb g; omega
  · exact val_inj ha.2.1 hb.2.1 g h
  · have := val_length hb ha g; omega

/-- What two numbers' texts come to. -/
def cmpV (a b : List UInt8) : Int := if val a < val b then -1 else if val b < val a then 1 else 0
theorem cmpV_neg {a b : List UInt8} : cmpV a b < 0 ↔ val a < val b := by unfold cmpV; split <;> (try split) <;> omega
theorem cmpV_pos {a b : List UInt8} : 0 < cmpV a b ↔ val b < val a := by unfold cmpV; split <;> (try split) <;> omega
theorem cmpV_zero {a b : List UInt8} : cmpV a b = 0 ↔ val a = val b := by unfold cmpV; split <;> (try split) <;> omega
theorem cmpV_m1 {a b : List UInt8} : cmpV a b = -1 ↔ val a < val b := by unfold cmpV; split <;> (try split) <;> omega

/-! one more -/
theorem dig48 : Dig 48 := by unfold Dig; decide
theorem dig49 : Dig 49 := by unfold Dig; decide
theorem Digs.append {a b : List UInt8} (ha : Digs a) (hb : Digs b) : Digs (a ++ b) := fun c hc => by
  rcases List.mem_append.1 hc with h | h
  · exact ha c h
  · exact hb c h
theorem Digs.left {a b : List UInt8} (h : Digs (a ++ b)) : Digs a := fun c hc => h c (by simp [hc])
theorem Digs.right {a b : List UInt8} (h : Digs (a ++ b)) : Digs b := fun c hc => h c (by simp [hc])
theorem snoc_ind {P : List UInt8 → Prop} (h0 : P []) (h1 : ∀ l c, P l → P (l ++ [c])) (l : List UInt8) : P l := by
  have : ∀ r : List UInt8, P r.reverse := fun r => by
    induction r with
    | nil => exact h0
    | cons c r ih => rw [List.reverse_cons]; exact h1 _ _ ih
  simpa using this l.reverse
theorem toNat_succ (c : UInt8) (h : c.toNat < 57) : (c + 1).toNat = c.toNat + 1 := by have := toNat_add_one c h; omega
theorem inc_digs (l : List UInt8) : Digs l → Digs (inc l) := by
  induction l using snoc_ind with
  | h0 => intro _; rw [inc_nil]; exact Digs.cons dig49 (fun c hc => by simp at hc)
  | h1 l c ih =>
    intro h
    rw [inc_snoc]
    split
    · rename_i h9
      refine h.left.append (Digs.cons ?_ (fun c hc => by simp at hc))
      have := h.right c (by simp)
      unfold Dig at this ⊢
      rw [toNat_succ c h9]
      omega
    · exact (ih h.left).append (Digs.cons dig48 (fun c hc => by simp at hc))
theorem inc_val (l : List UInt8) : Digs l → val (inc l) = val l + 1 := by
  induction l using snoc_ind with
  | h0 => intro _; rw [inc_nil]; rfl
  | h1 l c ih =>
    intro h
    rw [inc_snoc]
    have hc := h.right c (by simp)
    unfold Dig at hc
    split
    · rename_i h9
      rw [val_snoc, val_snoc, dv, dv, toNat_succ c h9]
      omega
    · rename_i h9
      rw [val_snoc, val_snoc, ih h.left, dv, dv]
      simp
      omega
theorem inc_ne (l : List UInt8) : inc l ≠ [] := by
  induction l using snoc_ind with
  | h0 => rw [inc_nil]; simp
  | h1 l c ih => rw [inc_snoc]; split <;> simp
theorem inc_head (l : List UInt8) : Digs l → (inc l).head? = some 48 → l.head? = some 48 ∧ 1 < l.length := by
  induction l using snoc_ind with
  | h0 => intro _ h; rw [inc_nil] at h; simp at h
  | h1 l c ih =>
    intro h hh
    rw [inc_snoc] at hh
    have hc := h.right c (by simp)
    unfold Dig at hc
    split at hh
    · rename_i h9
      cases l with
      | nil =>
        exfalso
        simp only [List.nil_append, List.head?_cons, Option.some.injEq] at hh
        have := toNat_succ c h9
        rw [hh] at this
        simp at this
        omega
      | cons d l => simpa using hh
    · cases hl : inc l with
      | nil => exact absurd hl (inc_ne l)
      | cons d r =>
        rw [hl] at hh ih
        obtain ⟨h1, h2⟩ := ih h.left (by simpa using hh)
        cases l with
        | nil => simp at h2
        | cons e l => exact ⟨by simpa using h1, by simp⟩
theorem inc_num {l : List UInt8} (h : IsNum l) : IsNum (inc l) := ⟨inc_ne l, inc_digs l h.2.1, fun hh => by
  obtain ⟨h1, h2⟩ := inc_head l h.2.1 hh
  have := h.2.2 h1
  omega⟩

/-! a number's own text -/
def dch (n : Nat) : UInt8 := UInt8.ofNat (48 + n % 10)
theorem dch_toNat (n : Nat) : (dch n).toNat = 48 + n % 10 := by
  unfold dch
  rw [UInt8.toNat_ofNat']
  omega
theorem dch_dig (n : Nat) : Dig (dch n) := by unfold Dig; rw [dch_toNat]; omega
theorem dv_dch (n : Nat) : dv (dch n) = n % 10 := by unfold dv; rw [dch_toNat]; omega
def tx (n : Nat) : List UInt8 := if n < 10 then [dch n] else tx (n / 10) ++ [dch n]
theorem tx_lt {n : Nat} (h : n < 10) : tx n = [dch n] := by rw [tx, if_pos h]
theorem tx_ge {n : Nat} (h : ¬ n < 10) : tx n = tx (n / 10) ++ [dch n] := by rw [tx, if_neg h]
theorem tx_val (n : Nat) : val (tx n) = n := by
  induction n using Nat.strongRecOn with
  | _ n ih =>
    by_cases h : n < 10
    · rw [tx_lt h]
      have : val [dch n] = dv (dch n) := by simp [val]
      rw [this, dv_dch]
      omega
    · rw [tx_ge h, val_snoc, ih _ (by omega), dv_dch]
      omega
theorem tx_ne (n : Nat) : tx n ≠ [] := by
  by_cases h : n < 10
  · rw [tx_lt h]; simp
  · rw [tx_ge h]; simp
theorem tx_digs (n : Nat) : Digs (tx n) := by
  induction n using Nat.strongRecOn with
  | _ n ih =>
    by_cases h : n < 10
    · rw [tx_lt h]; exact Digs.cons (dch_dig n) (fun c hc => by simp at hc)
    · rw [tx_ge h]; exact (ih _ (by omega)).append (Digs.cons (dch_dig n) (fun c hc => by simp at hc))
theorem tx_head (n : Nat) : (tx n).head? = some 48 → n = 0 := by
  induction n using Nat.strongRecOn with
  | _ n ih =>
    by_cases h : n < 10
    · rw [tx_lt h]
      intro hh
      simp only [List.head?_cons, Option.some.injEq] at hh
      have := dch_toNat n
      rw [hh] at this
      simp at this
      omega
    · rw [tx_ge h]
      intro hh
      cases e : tx (n / 10) with
      | nil => exact absurd e (tx_ne _)
      | cons d r =>
        rw [e] at hh
        have := ih (n / 10) (by omega) (by rw [e]; simpa using hh)
        omega
theorem tx_num (n : Nat) : IsNum (tx n) := ⟨tx_ne n, tx_digs n, fun h => by rw [tx_head n h, tx_lt (by omega)]; rfl⟩
theorem tx_of {l : List UInt8} (h : IsNum l) : tx (val l) = l := num_inj (tx_num _) h (tx_val _)
theorem inc_tx (n : Nat) : inc (tx n) = tx (n + 1) := num_inj (inc_num (tx_num n)) (tx_num _) (by rw [inc_val _ (tx_digs n), tx_val, tx_val])

/-- The number of digits, told with a bound. -/
theorem valR_eq (l : List UInt8) (h : Digs l) (n : Nat) (hn : (n : Int) < two64) : valR n l = if ((n * 10 ^ l.length + val l : Nat) : Int) < two64 then some ((n * 10 ^ l.length + val l : Nat) : Int) else none := by
  induction l generalizing n with
  | nil => simp [valR, val_nil, hn]
  | cons c l ih =>
    obtain ⟨hc, hl⟩ := h.tail
    have hdv : ((c.toNat : Int) - 48) = (dv c : Nat) := by unfold dv; unfold Dig at hc; omega
    rw [valR, hdv, show (n : Int) * 10 + (dv c : Nat) = ((10 * n + dv c : Nat) : Int) by omega]
    have e : (10 * n + dv c) * 10 ^ l.length + val l = n * 10 ^ (c :: l).length + val (c :: l) := by
      rw [val_cons, List.length_cons, Nat.pow_succ, Nat.add_mul, Nat.mul_comm 10 n, Nat.mul_assoc, Nat.mul_comm 10]
      omega
    by_cases hb : ((10 * n + dv c : Nat) : Int) < two64
    · rw [if_pos hb, ih hl _ hb, e]
    · have : 10 * n + dv c ≤ n * 10 ^ (c :: l).length + val (c :: l) := by
        rw [← e]
        have : (10 * n + dv c) * 1 ≤ (10 * n + dv c) * 10 ^ l.length := Nat.mul_le_mul_left _ (Nat.pos_of_ne_zero (by simp))
        omega
      rw [if_neg hb, if_neg (by omega)]
theorem valR_zero {l : List UInt8} (h : Digs l) : valR 0 l = if ((val l : Nat) : Int) < two64 then some ((val l : Nat) : Int) else none := by
  have := valR_eq l h 0 (by unfold two64; omega)
  simpa using this
end Go.Proofs.Ytgldbbgcdpgbcaa.Num
