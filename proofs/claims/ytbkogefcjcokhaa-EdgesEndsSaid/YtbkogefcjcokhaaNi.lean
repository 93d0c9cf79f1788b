/- Plain laws: one more and one less, told by the place of a pair. -/
import Derived.Test.YtbkogefcjcokhaaNm
set_option linter.unusedVariables false
set_option linter.unusedSimpArgs false
namespace Go.Proofs.Ytbkogefcjcokhaa.Nm
open Go.Proofs.Ytbkogefcjcokhaa.PAll

theorem there_iff {l : List S33} {f t : Int} : there l f t = true ↔ ∃ e, l[idx l f t]? = some e ∧ isP e f t := by
  unfold there; rw [decide_eq_true_eq]
theorem there_at {l : List S33} (h : Ok l) {f t : Int} (ht : there l f t = true) : ∃ h : idx l f t < l.length, isP l[idx l f t] f t ∧ l[idx l f t].f2 = many l f t := by
  obtain ⟨e, he, hp⟩ := there_iff.1 ht
  obtain ⟨hi, rfl⟩ := List.getElem?_eq_some_iff.1 he
  refine ⟨hi, hp, ?_⟩
  have := many_in h (List.getElem_mem hi)
  rw [hp.1, hp.2] at this
  exact this.symm
theorem there_not {l : List S33} (h : Ok l) {f t : Int} (ht : there l f t = false) : many l f t = 0 := by
  apply Classical.byContradiction
  intro hm
  obtain ⟨e, he, hp, _⟩ := many_mem hm
  obtain ⟨j, hj, rfl⟩ := List.mem_iff_getElem.1 he
  have h1 : ¬ j < idx l f t := fun q => by
    have := idx_lt f t q hj
    unfold klt isP pr at *
    simp only at *
    omega
  have h2 : j = idx l f t := by
    apply Classical.byContradiction
    intro q
    have hi : idx l f t < j := by omega
    have h3 := idx_ge h.2 f t (Nat.le_refl _) (by omega : idx l f t < l.length)
    have h4 := List.pairwise_iff_getElem.1 h.2 (idx l f t) j (by omega) hj hi
    unfold klt isP pr at *
    simp only at *
    omega
  have : there l f t = true := there_iff.2 ⟨_, by rw [← h2]; exact List.getElem?_eq_getElem hj, hp⟩
  rw [ht] at this
  cases this
theorem idx_cons_lt {e : S33} {l : List S33} {f t : Int} (h : klt e (pr f t)) : idx (e :: l) f t = idx l f t + 1 := by rw [idx, if_pos h]
theorem idx_cons_ge {e : S33} {l : List S33} {f t : Int} (h : ¬ klt e (pr f t)) : idx (e :: l) f t = 0 := by rw [idx, if_neg h]
theorem there_cons_lt {e : S33} {l : List S33} {f t : Int} (h : klt e (pr f t)) : there (e :: l) f t = there l f t := by
  rw [Bool.eq_iff_iff, there_iff, there_iff, idx_cons_lt h, List.getElem?_cons_succ]
theorem addL_not {l : List S33} {f t : Int} (ht : there l f t = false) : addL l f t = l.take (idx l f t) ++ ⟨f, t, 1⟩ :: l.drop (idx l f t) := by
  induction l with
  | nil => rfl
  | cons e l ih =>
    by_cases hk : klt e (pr f t)
    · rw [there_cons_lt hk] at ht
      have hp : ¬ isP e f t := fun q => by unfold klt isP pr at *; simp only at *; omega
      rw [addL, if_neg hp, if_pos hk, ih ht, idx_cons_lt hk]
      rfl
    · have hp : ¬ isP e f t := fun q => by
        have : there (e :: l) f t = true := there_iff.2 ⟨e, by rw [idx_cons_ge hk]; rfl, q⟩
        rw [ht] at this; cases this
      rw [addL, if_neg hp, if_neg hk, idx_cons_ge hk]
      rfl
theorem addL_there {l : List S33} {f t : Int} (ht : there l f t = true) (hi : idx l f t < l.length) : addL l f t = l.set (idx l f t) ⟨f, t, l[idx l f t].f2 + 1⟩ := by
  induction l with
  | nil => simp at hi
  | cons e l ih =>
    by_cases hk : klt e (pr f t)
    · rw [there_cons_lt hk] at ht
      have hp : ¬ isP e f t := fun q => by unfold klt isP pr at *; simp only at *; omega
      have hi' := hi
      rw [idx_cons_lt hk] at hi'
      rw [addL, if_neg hp, if_pos hk, ih ht (by simpa using hi')]
      simp only [idx_cons_lt hk, List.set_cons_succ, List.getElem_cons_succ]
    · obtain ⟨d, hd, hp⟩ := there_iff.1 ht
      rw [idx_cons_ge hk] at hd
      obtain rfl : e = d := by simpa using hd
      rw [addL, if_pos hp]
      simp only [idx_cons_ge hk, List.set_cons_zero, List.getElem_cons_zero]
theorem dropL_there {l : List S33} {f t : Int} (ht : there l f t = true) (hi : idx l f t < l.length) :
    dropL l f t = if l[idx l f t].f2 = 1 then l.take (idx l f t) ++ l.drop (idx l f t + 1) else l.set (idx l f t) ⟨f, t, l[idx l f t].f2 - 1⟩ := by
  induction l with
  | nil => simp at hi
  | cons e l ih =>
    by_cases hk : klt e (pr f t)
    · rw [there_cons_lt hk] at ht
      have hp : ¬ isP e f t := fun q => by unfold klt isP pr at *; simp only at *; omega
      have hi' := hi
      rw [idx_cons_lt hk] at hi'
      rw [dropL, if_neg hp, if_pos hk, ih ht (by simpa using hi')]
      simp only [idx_cons_lt hk, List.set_cons_succ, List.getElem_cons_succ, List.take_succ_cons, List.drop_succ_cons, List.cons_append]
      split <;> rfl
    · obtain ⟨d, hd, hp⟩ := there_iff.1 ht
      rw [idx_cons_ge hk] at hd
      obtain rfl : e = d := by simpa using hd
      rw [dropL, if_pos hp]
      simp only [idx_cons_ge hk, List.set_cons_zero, List.getElem_cons_zero, List.take_zero, List.drop_succ_cons, List.drop_zero, List.nil_append, Nat.zero_add]
/-- The list with an element's count changed. -/
theorem isP_eta {e : S33} {f t : Int} (h : isP e f t) (n : Int) : (⟨e.f0, e.f1, n⟩ : S33) = ⟨f, t, n⟩ := by rw [h.1, h.2]
end Go.Proofs.Ytbkogefcjcokhaa.Nm
