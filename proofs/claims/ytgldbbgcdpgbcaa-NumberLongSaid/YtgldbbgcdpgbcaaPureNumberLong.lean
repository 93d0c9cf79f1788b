/- The law NumberLong answers true for every input: a number with more digits is more; of as many digits the first one that differs tells. -/
import Derived.Test.YtgldbbgcdpgbcaaPAllx4
import Derived.Test.YtgldbbgcdpgbcaaEv
set_option linter.unusedVariables false
set_option linter.unusedSimpArgs false
namespace Go.Proofs.Ytgldbbgcdpgbcaa.Pure
open Go.RowKit Go.Proofs.Ytgldbbgcdpgbcaa.PAll Go.Proofs.Ytgldbbgcdpgbcaa.Num Go.Proofs.Ytgldbbgcdpgbcaa.Oct Go.Proofs.Ytgldbbgcdpgbcaa.Ev Go.Proofs.YtgldbbgcdpgbcaaW.PrintWords Go.Proofs.YtgldbbgcdpgbcaaW.PrintLast

theorem bt_nat (a : ByteArray) (i : Nat) (h : i < (by_ a).length) : bt a (i : Int) = ((by_ a)[i].toNat : Int) := by
  have hs : i < a.size := by rw [← by_length]; exact h
  unfold bt
  rw [dif_pos (by simpa using hs)]
  rfl
/-- The first place that differs tells, read as bytesLess tells it. -/
theorem less_at {a b : List UInt8} (i : Nat) (ha : i < a.length) (hb : i < b.length) (he : a.take i = b.take i) (hne : a[i] ≠ b[i]) : Op.bytesLess a b = decide (a[i].toNat < b[i].toNat) := by
  induction i generalizing a b with
  | zero =>
    cases a with
    | nil => simp at ha
    | cons c a => cases b with
      | nil => simp at hb
      | cons d b =>
        simp only [List.getElem_cons_zero] at hne ⊢
        simp only [Op.bytesLess, beq_eq_false_iff_ne.2 hne, Bool.false_and, Bool.or_false]
        rfl
  | succ i ih =>
    cases a with
    | nil => simp at ha
    | cons c a => cases b with
      | nil => simp at hb
      | cons d b =>
        simp only [List.take_succ_cons, List.cons.injEq] at he
        obtain ⟨rfl, he⟩ := he
        simp only [List.getElem_cons_succ] at hne ⊢
        have hlt : (c < c) = False := eq_false (by rw [UInt8.lt_iff_toNat_lt]; omega)
        simp only [Op.bytesLess, beq_self_eq_true, Bool.true_and, hlt, decide_false, Bool.false_or]
        exact ih (by simpa using ha) (by simpa using hb) he hne
theorem long_l0 (a b : ByteArray) (na : IsNum (by_ a)) (nb : IsNum (by_ b)) (hl : (by_ a).length = (by_ b).length) (hs : a.size ≤ 400) (d : Nat) :
    ∀ (k : Nat) (i : Nat), i + d = a.size → (by_ a).take i = (by_ b).take i → d + 5 ≤ k → graftwoodlaw02_NumberLong.l0 k a b (cmpV (by_ a) (by_ b)) (i : Int) = some true := by
  have la := by_length a
  have lb := by_length b
  induction d with
  | zero =>
    intro k i hi he hk
    obtain ⟨k, rfl⟩ : ∃ m, k = m + 5 := ⟨k - 5, by omega⟩
    have hw : graftwoodlaw02_awake.f (k + 4) = some true := awake k
    simp only [graftwoodlaw02_NumberLong.l0]
    have e : by_ a = by_ b := by rw [List.take_of_length_le (by omega), List.take_of_length_le (by omega)] at he; exact he
    rw [if_neg (by omega), if_pos (cmpV_zero.2 (by rw [e])), hw]; rfl
  | succ d ih =>
    intro k i hi he hk
    obtain ⟨k, rfl⟩ : ∃ m, k = m + 5 := ⟨k - 5, by omega⟩
    have hw : graftwoodlaw02_awake.f (k + 4) = some true := awake k
    simp only [graftwoodlaw02_NumberLong.l0]
    rw [if_pos (by omega), if_pos (by omega), if_pos (by omega), bt_nat a i (by omega), bt_nat b i (by omega)]
    by_cases hc : (by_ a)[i]'(by omega) = (by_ b)[i]'(by omega)
    · rw [if_pos (by rw [hc])]
      have w : wrap64 ((i : Int) + 1) = ((i + 1 : Nat) : Int) := by unfold wrap64; omega
      rw [w]
      exact ih (k + 4) (i + 1) (by omega) (by rw [List.take_succ_eq_append_getElem (by omega), List.take_succ_eq_append_getElem (by omega), he, hc]) (by omega)
    · have hne : ((by_ a)[i]'(by omega)).toNat ≠ ((by_ b)[i]'(by omega)).toNat := fun q => hc (UInt8.toNat.inj q)
      rw [if_neg (by omega)]
      have h1 := less_at i (by omega) (by omega) he hc
      have h2 := less_iff na.2.1 nb.2.1 hl
      have h3 : (cmpV (by_ a) (by_ b) < 0) ↔ ((by_ a)[i]'(by omega)).toNat < ((by_ b)[i]'(by omega)).toNat := by
        rw [cmpV_neg, ← h2, h1]; simp
      have h4 : ¬ cmpV (by_ a) (by_ b) = 0 := fun q => hc (by
        have := num_inj na nb (cmpV_zero.1 q)
        simp only [this])
      have e : (decide (cmpV (by_ a) (by_ b) < 0) == decide ((((by_ a)[i]'(by omega)).toNat : Int) < (((by_ b)[i]'(by omega)).toNat : Int))) = true := by
        rw [beq_iff_eq, decide_eq_decide, h3]
        omega
      rw [if_pos e, if_neg h4, hw]; rfl

theorem NumberLong : graftwoodlaw02_NumberLong.Pure := by
  intro a b _ _
  refine ⟨406, ?_⟩
  obtain ⟨a, fa, ha⟩ := few a
  obtain ⟨b, fb, hb⟩ := few b
  have hw : graftwoodlaw02_awake.f 406 = some true := awake 402
  have la := by_length a
  have lb := by_length b
  unfold graftwoodlaw02_NumberLong.f
  rw [fa, Option.bind_some, fb, Option.bind_some]
  by_cases h : IsNum (by_ a) ∧ IsNum (by_ b)
  · obtain ⟨na, nb⟩ := h
    rw [cmp_yes 402 (by omega) (by omega) na nb, Option.bind_some, if_pos rfl]
    by_cases hl : (a.size : Int) = (b.size : Int)
    · rw [if_pos hl]
      exact long_l0 a b na nb (by omega) ha a.size 406 0 (by omega) (by simp) (by omega)
    · rw [if_neg hl]
      have h1 : cmpV (by_ a) (by_ b) < 0 ↔ (a.size : Int) < (b.size : Int) := by
        rw [cmpV_neg]
        constructor
        · intro q
          rcases Nat.lt_trichotomy a.size b.size with g | g | g
          · omega
          · omega
          · have := val_length nb na (by omega); omega
        · intro q
          exact val_length na nb (by omega)
      have h2 : ¬ cmpV (by_ a) (by_ b) = 0 := fun q => by
        have := num_inj na nb (cmpV_zero.1 q)
        rw [this] at la
        omega
      rw [if_pos (by rw [beq_iff_eq, decide_eq_decide]; exact h1), if_neg h2, hw]; rfl
  · rw [cmp_no 402 (by omega) (by omega) h, Option.bind_some, if_neg (by simp), hw]; rfl

end Go.Proofs.Ytgldbbgcdpgbcaa.Pure
