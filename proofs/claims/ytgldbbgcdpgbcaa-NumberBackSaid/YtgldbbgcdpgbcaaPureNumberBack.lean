/- The law NumberBack answers true for every input: a number's text is one, and tells it; order is that of the numbers; the next one's is that of one more. -/
import Derived.Test.YtgldbbgcdpgbcaaPAllx7
import Derived.Test.YtgldbbgcdpgbcaaEvOf
set_option linter.unusedVariables false
set_option linter.unusedSimpArgs false
namespace Go.Proofs.Ytgldbbgcdpgbcaa.Pure
open Go.RowKit Go.Proofs.Ytgldbbgcdpgbcaa.PAll Go.Proofs.Ytgldbbgcdpgbcaa.Num Go.Proofs.Ytgldbbgcdpgbcaa.Oct Go.Proofs.Ytgldbbgcdpgbcaa.Ev Go.Proofs.YtgldbbgcdpgbcaaW.PrintWords Go.Proofs.YtgldbbgcdpgbcaaW.PrintLast

theorem value_yes {a : ByteArray} (hs : a.size ≤ 140737488351232) (h : IsNum (by_ a)) (hv : ((val (by_ a) : Nat) : Int) < two64) : number_Value.f a = some (((val (by_ a) : Nat) : Int), 0) := by
  unfold number_Value.f
  have := valR_zero h.2.1
  rw [if_pos hv] at this
  rw [if_pos hs, may_yes hs h, Option.bind_some, (valV_some this).1, (valV_some this).2]
theorem value_large {a : ByteArray} (hs : a.size ≤ 140737488351232) (h : IsNum (by_ a)) (hv : ¬ ((val (by_ a) : Nat) : Int) < two64) : number_Value.f a = some (0, 4) := by
  unfold number_Value.f
  have := valR_zero h.2.1
  rw [if_neg hv] at this
  rw [if_pos hs, may_yes hs h, Option.bind_some, (valV_none this).1, (valV_none this).2]
def most : List UInt8 := [49, 56, 52, 52, 54, 55, 52, 52, 48, 55, 51, 55, 48, 57, 53, 53, 49, 54, 49, 54]
theorem tx_most : tx 18446744073709551616 = most := by
  have h : IsNum most := by decide
  have v : val most = 18446744073709551616 := by decide +kernel
  rw [← v, tx_of h]
theorem back_j0 (n : Nat) (hn : (n : Int) < two64) : graftwoodlaw02_NumberBack.j0 301 (n : Int) ⟨(tx (n + 1)).toArray⟩ false = some true := by
  have hw : graftwoodlaw02_awake.f 300 = some true := awake 296
  have big : (10 : Nat) ^ 21 = 1000000000000000000000 := by decide
  have h2 : two64 = 18446744073709551616 := rfl
  simp only [graftwoodlaw02_NumberBack.j0]
  rw [if_neg (by simp)]
  by_cases h : (n : Int) = 18446744073709551615
  · have hn' : n + 1 = 18446744073709551616 := by omega
    have hs := tx_size (n := n + 1) (by omega)
    rw [if_pos h, value_large (by omega) (by rw [by_mk]; exact tx_num _) (by rw [by_mk, tx_val]; omega), Option.bind_some, toList_by, by_mk, hn', tx_most]
    unfold most
    rw [if_pos rfl, if_pos rfl, hw]; rfl
  · have e : IntKind.u64.wrap ((n : Int) + 1) = ((n + 1 : Nat) : Int) := by rw [wrap_u64]; omega
    rw [if_neg h, e, of_yes 200 (n + 1) (by omega), Option.bind_some, if_pos rfl, hw]; rfl

theorem NumberBack : graftwoodlaw02_NumberBack.Pure := by
  intro n m hn hm
  refine ⟨301, ?_⟩
  obtain ⟨h0, h1⟩ := u64_range hn
  obtain ⟨g0, g1⟩ := u64_range hm
  obtain ⟨n, rfl⟩ := Int.eq_ofNat_of_zero_le h0
  obtain ⟨m, rfl⟩ := Int.eq_ofNat_of_zero_le g0
  clear hn hm h0 g0
  have big : (10 : Nat) ^ 21 = 1000000000000000000000 := by decide
  have h2 : two64 = 18446744073709551616 := rfl
  have hs := tx_size (n := n) (by omega)
  unfold graftwoodlaw02_NumberBack.f
  rw [of_yes 201 n h1, Option.bind_some, of_yes 201 m g1, Option.bind_some, value_yes (by omega) (by rw [by_mk]; exact tx_num n) (by rw [by_mk, tx_val]; exact h1), Option.bind_some,
    cmp_tx 297 (by omega) (by omega), Option.bind_some, next_tx (by omega), Option.bind_some, may_yes (by omega) (by rw [by_mk]; exact tx_num n), Option.bind_some, by_mk, tx_val,
    if_pos rfl, if_pos rfl, if_pos rfl, if_pos rfl, if_pos rfl]
  have hj := back_j0 n h1
  have e1 : (decide ((if n < m then (-1 : Int) else if m < n then 1 else 0) < 0) != decide ((n : Int) < (m : Int))) = false := by
    rw [bne_eq_false_iff_eq, decide_eq_decide]
    constructor
    · intro h; split at h
      · omega
      · split at h <;> omega
    · intro h; rw [if_pos (by omega)]; omega
  have e2 : (((if n < m then (-1 : Int) else if m < n then 1 else 0) == 0) != ((n : Int) == (m : Int))) = false := by
    rw [bne_eq_false_iff_eq, Bool.eq_iff_iff, beq_iff_eq, beq_iff_eq]
    constructor
    · intro h; split at h
      · omega
      · split at h <;> omega
    · intro h; rw [if_neg (by omega), if_neg (by omega)]
  have e3 : (((if n < m then (-1 : Int) else if m < n then 1 else 0) == 0) != ((⟨(tx n).toArray⟩ : ByteArray).toList == (⟨(tx m).toArray⟩ : ByteArray).toList)) = false := by
    rw [toList_by, toList_by, by_mk, by_mk, bne_eq_false_iff_eq, Bool.eq_iff_iff, beq_iff_eq, beq_iff_eq]
    constructor
    · intro h; split at h
      · omega
      · split at h
        · omega
        · rw [show n = m by omega]
    · intro h
      have := tx_inj h
      rw [if_neg (by omega), if_neg (by omega)]
  rw [e1, if_neg (by simp), e2, if_neg (by simp), e3]
  exact hj

end Go.Proofs.Ytgldbbgcdpgbcaa.Pure
