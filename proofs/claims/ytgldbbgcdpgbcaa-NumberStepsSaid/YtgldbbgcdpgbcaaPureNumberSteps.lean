/- The law NumberSteps answers true for every input: so many steps on from a number are so much more. -/
import Derived.Test.YtgldbbgcdpgbcaaPAllx5
import Derived.Test.YtgldbbgcdpgbcaaEvOf
set_option linter.unusedVariables false
set_option linter.unusedSimpArgs false
namespace Go.Proofs.Ytgldbbgcdpgbcaa.Pure
open Go.RowKit Go.Proofs.Ytgldbbgcdpgbcaa.PAll Go.Proofs.Ytgldbbgcdpgbcaa.Num Go.Proofs.Ytgldbbgcdpgbcaa.Oct Go.Proofs.Ytgldbbgcdpgbcaa.Ev Go.Proofs.YtgldbbgcdpgbcaaW.PrintWords Go.Proofs.YtgldbbgcdpgbcaaW.PrintLast

theorem u8_range {n : Int} (h : (Lit.int .u8 n).wf = true) : 0 ≤ n ∧ n ≤ 255 := by
  simp only [Lit.wf, Bool.and_eq_true, decide_eq_true_eq] at h
  have h1 : IntKind.u8.min = 0 := by decide
  have h2 : IntKind.u8.max = 255 := by decide
  rw [h1, h2] at h
  exact h
theorem steps_l0 (n : Nat) (hn : n ≤ 9223372036854775808) (x : Int) (hx : 0 ≤ x ∧ x ≤ 255) (m : Nat) (hm : (m : Int) = x % 40) (d : Nat) :
    ∀ (k i : Nat), i + d = m → d + 120 ≤ k → graftwoodlaw02_NumberSteps.l0 k (n : Int) x ⟨(tx (n + i)).toArray⟩ (i : Int) = some true := by
  have e1 : Int.tmod x 40 = (m : Int) := by rw [Int.tmod_eq_emod_of_nonneg (by omega)]; omega
  have e2 : wrap64 (m : Int) = (m : Int) := by unfold wrap64; omega
  have e3 : IntKind.u64.wrap (m : Int) = (m : Int) := by rw [wrap_u64]; omega
  have big : (10 : Nat) ^ 21 = 1000000000000000000000 := by decide
  induction d with
  | zero =>
    intro k i hi hk
    obtain ⟨k, rfl⟩ : ∃ j, k = j + 1 := ⟨k - 1, by omega⟩
    simp only [graftwoodlaw02_NumberSteps.l0]
    obtain ⟨k, rfl⟩ : ∃ j, k = j + 100 := ⟨k - 100, by omega⟩
    have hw : graftwoodlaw02_awake.f (k + 100) = some true := awake (k + 96)
    rw [e1, e2, e3, if_neg (by omega)]
    have e4 : IntKind.u64.wrap ((n : Int) + (m : Int)) = ((n + m : Nat) : Int) := by rw [wrap_u64]; omega
    rw [e4, of_yes k (n + m) (by unfold two64; omega), Option.bind_some, toList_by, toList_by, by_mk, by_mk, if_pos (by rw [show i = m by omega]), hw]; rfl
  | succ d ih =>
    intro k i hi hk
    obtain ⟨k, rfl⟩ : ∃ j, k = j + 1 := ⟨k - 1, by omega⟩
    simp only [graftwoodlaw02_NumberSteps.l0]
    obtain ⟨k, rfl⟩ : ∃ j, k = j + 4 := ⟨k - 4, by omega⟩
    rw [e1, e2, if_pos (by omega), next_tx (by omega), Option.bind_some, cmp_tx k (by omega) (by omega), Option.bind_some, if_pos rfl, if_pos rfl, if_pos (by rw [if_pos (by omega)])]
    have w : wrap64 ((i : Int) + 1) = ((i + 1 : Nat) : Int) := by unfold wrap64; omega
    rw [w]
    exact ih (k + 4) (i + 1) (by omega) (by omega)
theorem steps_j0 (n : Nat) (hn : n ≤ 9223372036854775808) (x : Int) (hx : 0 ≤ x ∧ x ≤ 255) : graftwoodlaw02_NumberSteps.j0 301 (n : Int) x = some true := by
  simp only [graftwoodlaw02_NumberSteps.j0]
  rw [of_yes 200 n (by unfold two64; omega), Option.bind_some]
  obtain ⟨m, hm⟩ : ∃ m : Nat, (m : Int) = x % 40 := ⟨(x % 40).toNat, by omega⟩
  exact steps_l0 n hn x hx m hm m 300 0 (by omega) (by omega)

theorem NumberSteps : graftwoodlaw02_NumberSteps.Pure := by
  intro n x hn hx
  refine ⟨301, ?_⟩
  obtain ⟨h0, h1⟩ := u64_range hn
  have hx' := u8_range hx
  unfold two64 at h1
  obtain ⟨n, rfl⟩ := Int.eq_ofNat_of_zero_le h0
  unfold graftwoodlaw02_NumberSteps.f
  split
  · rename_i h
    have e : IntKind.u64.wrap ((n : Int) - 9223372036854775808) = ((n - 9223372036854775808 : Nat) : Int) := by rw [wrap_u64]; omega
    rw [e]
    exact steps_j0 _ (by omega) x hx'
  · exact steps_j0 n (by omega) x hx'

end Go.Proofs.Ytgldbbgcdpgbcaa.Pure
