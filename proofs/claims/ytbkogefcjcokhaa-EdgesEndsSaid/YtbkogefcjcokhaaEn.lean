/- Plain laws of ends: the numbers that edges have. -/
import Derived.Test.YtbkogefcjcokhaaNi
set_option linter.unusedVariables false
set_option linter.unusedSimpArgs false
namespace Go.Proofs.Ytbkogefcjcokhaa.Nm
open Go.Proofs.Ytbkogefcjcokhaa.PAll

/-- One number more, if it is new. -/
def addS (S : List Int) (x : Int) : List Int := if x ∈ S then S else S ++ [x]
theorem mem_addS {S : List Int} {x y : Int} : y ∈ addS S x ↔ y ∈ S ∨ y = x := by
  unfold addS
  split
  · exact ⟨.inl, fun h => h.elim id (fun e => by rw [e]; assumption)⟩
  · rw [List.mem_append, List.mem_singleton]
theorem nodup_addS {S : List Int} (h : S.Nodup) (x : Int) : (addS S x).Nodup := by
  unfold addS
  split
  · exact h
  · rename_i hx
    rw [List.nodup_append]
    exact ⟨h, by simp, fun a ha b hb => by rw [List.mem_singleton.1 hb]; rintro rfl; exact hx ha⟩
theorem length_addS (S : List Int) (x : Int) : (addS S x).length = if x ∈ S then S.length else S.length + 1 := by
  unfold addS
  split <;> simp
/-- All numbers of edges, in the order in which they are met. -/
def metA (S : List Int) : List S33 → List Int
  | [] => S
  | e :: r => metA (addS (addS S e.f0) e.f1) r
/-- .. but for the root. -/
def metR (S : List Int) : List S33 → List Int
  | [] => S
  | e :: r => metR (addS (if 0 ≤ e.f0 then addS S e.f0 else S) e.f1) r
theorem metA_append (S : List Int) (a b : List S33) : metA S (a ++ b) = metA (metA S a) b := by
  induction a generalizing S with
  | nil => rfl
  | cons e a ih => exact ih _
theorem metR_append (S : List Int) (a b : List S33) : metR S (a ++ b) = metR (metR S a) b := by
  induction a generalizing S with
  | nil => rfl
  | cons e a ih => exact ih _
theorem metA_nodup {S : List Int} (h : S.Nodup) (l : List S33) : (metA S l).Nodup := by
  induction l generalizing S with
  | nil => exact h
  | cons e l ih => exact ih (nodup_addS (nodup_addS h _) _)
def noRoot (S : List Int) : List Int := S.filter (fun x => x != -1)
theorem noRoot_addS (S : List Int) (x : Int) (hx : x ≠ -1) : noRoot (addS S x) = addS (noRoot S) x := by
  unfold noRoot addS
  have hm : x ∈ S.filter (fun x => x != -1) ↔ x ∈ S := by simp [List.mem_filter, hx]
  by_cases h : x ∈ S
  · rw [if_pos h, if_pos (hm.2 h)]
  · rw [if_neg h, if_neg (fun q => h (hm.1 q)), List.filter_append]
    simp [hx]
theorem noRoot_root (S : List Int) : noRoot (addS S (-1)) = noRoot S := by
  unfold noRoot addS
  split
  · rfl
  · rw [List.filter_append]; simp
theorem met_eq {l : List S33} (h : ∀ e ∈ l, -1 ≤ e.f0 ∧ 0 ≤ e.f1) (S : List Int) : noRoot (metA S l) = metR (noRoot S) l := by
  induction l generalizing S with
  | nil => rfl
  | cons e l ih =>
    have he := h e (by simp)
    rw [metA, metR, ih (fun x hx => h x (by simp [hx])), noRoot_addS _ _ (by omega)]
    by_cases h0 : 0 ≤ e.f0
    · rw [if_pos h0, noRoot_addS _ _ (by omega)]
    · have h1 : e.f0 = -1 := by omega
      rw [if_neg h0, h1, noRoot_root]
theorem noRoot_length {S : List Int} (h : S.Nodup) : (noRoot S).length + (if (-1 : Int) ∈ S then 1 else 0) = S.length := by
  unfold noRoot
  induction S with
  | nil => rfl
  | cons x S ih =>
    obtain ⟨h1, h2⟩ := List.nodup_cons.1 h
    have := ih h2
    by_cases hx : x = -1
    · subst hx
      rw [if_neg h1] at this
      rw [List.filter_cons]
      simp
      simpa using this
    · have hx' : ¬ (-1 : Int) = x := fun e => hx e.symm
      rw [List.filter_cons]
      simp only [bne_iff_ne, ne_eq, hx, not_false_eq_true, if_true, List.length_cons, List.mem_cons, hx', false_or]
      omega
/-- How many ends. -/
def endsN (l : List S33) : Nat := (metR [] l).length
end Go.Proofs.Ytbkogefcjcokhaa.Nm
