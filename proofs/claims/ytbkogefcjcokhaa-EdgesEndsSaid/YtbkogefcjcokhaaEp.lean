/- Plain laws of EdgesEnds. -/
import Derived.Test.YtbkogefcjcokhaaEn
set_option linter.unusedVariables false
set_option linter.unusedSimpArgs false
namespace Go.Proofs.Ytbkogefcjcokhaa.Nm
open Go.Proofs.Ytbkogefcjcokhaa.PAll

def isNum (l : List S33) (x : Int) : Prop := ∃ e ∈ l, x = e.f0 ∨ x = e.f1
theorem isNum_cons {e : S33} {l : List S33} {x : Int} : isNum (e :: l) x ↔ (x = e.f0 ∨ x = e.f1) ∨ isNum l x := by
  unfold isNum
  simp
theorem mem_metA (S : List Int) (l : List S33) (x : Int) : x ∈ metA S l ↔ x ∈ S ∨ isNum l x := by
  induction l generalizing S with
  | nil => simp [metA, isNum]
  | cons e l ih =>
    rw [metA, ih, mem_addS, mem_addS, isNum_cons]
    constructor
    · rintro (((h | h) | h) | h)
      · exact .inl h
      · exact .inr (.inl (.inl h))
      · exact .inr (.inl (.inr h))
      · exact .inr (.inr h)
    · rintro (h | (h | h) | h)
      · exact .inl (.inl (.inl h))
      · exact .inl (.inl (.inr h))
      · exact .inl (.inr h)
      · exact .inr h
theorem isNum_addL {l : List S33} {f t x : Int} : isNum (addL l f t) x ↔ isNum l x ∨ x = f ∨ x = t := by
  induction l with
  | nil => simp [addL, isNum]
  | cons e l ih =>
    rw [addL]
    by_cases hp : isP e f t
    · rw [if_pos hp, isNum_cons, isNum_cons, hp.1, hp.2]
      simp only
      constructor
      · rintro (h | h)
        · exact .inr h
        · exact .inl (.inr h)
      · rintro ((h | h) | h)
        · exact .inl h
        · exact .inr h
        · exact .inl h
    · rw [if_neg hp]
      by_cases hk : klt e (pr f t)
      · rw [if_pos hk, isNum_cons, isNum_cons, ih]
        constructor
        · rintro (h | h | h)
          · exact .inl (.inl h)
          · exact .inl (.inr h)
          · exact .inr h
        · rintro ((h | h) | h)
          · exact .inl h
          · exact .inr (.inl h)
          · exact .inr (.inr h)
      · rw [if_neg hk, isNum_cons]
        simp only
        exact ⟨fun h => h.elim .inr .inl, fun h => h.elim .inr .inl⟩
theorem endsN_eq {l : List S33} (h : Ok l) : endsN l = (noRoot (metA [] l)).length := by
  rw [met_eq (fun e he => by have := h.1 e he; unfold okE at this; omega)]
  rfl
theorem mem_noRoot {S : List Int} {x : Int} : x ∈ noRoot S ↔ x ∈ S ∧ x ≠ -1 := by
  unfold noRoot
  rw [List.mem_filter]
  simp
theorem ends_addL {l : List S33} (h : Ok l) {f t : Int} (ha : Ok (addL l f t)) (hf : f = -1 ∨ isNum l f) (ht : t = -1 ∨ isNum l t) : endsN (addL l f t) = endsN l := by
  rw [endsN_eq h, endsN_eq ha]
  refine (List.Perm.length_eq ((List.perm_ext_iff_of_nodup ?_ ?_).2 fun x => ?_))
  · exact (metA_nodup List.nodup_nil _).filter _
  · exact (metA_nodup List.nodup_nil _).filter _
  · rw [mem_noRoot, mem_noRoot, mem_metA, mem_metA, isNum_addL]
    constructor
    · rintro ⟨h1, h2⟩
      refine ⟨?_, h2⟩
      rcases h1 with h1 | h1 | h1 | h1
      · exact .inl h1
      · exact .inr h1
      · subst h1
        exact .inr (hf.resolve_left h2)
      · subst h1
        exact .inr (ht.resolve_left h2)
    · rintro ⟨h1, h2⟩
      exact ⟨h1.imp id .inl, h2⟩
theorem metA_length (S : List Int) (l : List S33) : (metA S l).length ≤ S.length + 2 * l.length := by
  induction l generalizing S with
  | nil => simp [metA]
  | cons e l ih =>
    rw [metA]
    have h1 := ih (addS (addS S e.f0) e.f1)
    have h2 : (addS (addS S e.f0) e.f1).length ≤ S.length + 2 := by
      rw [length_addS, length_addS]
      split <;> split <;> omega
    simp only [List.length_cons]
    omega
theorem endsN_le {l : List S33} (h : Ok l) : endsN l ≤ 2 * l.length := by
  rw [endsN_eq h]
  have h1 := metA_length [] l
  have h2 : (noRoot (metA [] l)).length ≤ (metA [] l).length := List.length_filter_le _ _
  simp at h1
  omega
theorem endsN_zero {l : List S33} (h : Ok l) : endsN l = 0 ↔ l.length = 0 := by
  cases l with
  | nil => exact ⟨fun _ => rfl, fun _ => rfl⟩
  | cons e r =>
    refine ⟨fun q => ?_, fun q => by simp at q⟩
    rw [endsN_eq h] at q
    have hm : e.f1 ∈ noRoot (metA [] (e :: r)) := mem_noRoot.2 ⟨(mem_metA [] _ _).2 (.inr ⟨e, by simp, .inr rfl⟩), by have := h.1 e (by simp); unfold okE at this; omega⟩
    rw [List.eq_nil_of_length_eq_zero q] at hm
    simp at hm
end Go.Proofs.Ytbkogefcjcokhaa.Nm
