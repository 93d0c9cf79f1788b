/- A set of numbers in a map of the call's own. -/
import Derived.Test.YtbkogefcjcokhaaEn
import Derived.Test.YtbkogefcjcokhaaFw
import Derived.Maps.OwnSet
set_option linter.unusedVariables false
set_option linter.unusedSimpArgs false
namespace Go.Proofs.Ytbkogefcjcokhaa.Ed
open Go.RowKit Go.Proofs.Ytbkogefcjcokhaa.PAll Go.Proofs.Ytbkogefcjcokhaa.Nm Go.Proofs.YtbkogefcjcokhaaW.PrintWords

def MapS (w : World) (b m : Nat) (S : List Int) : Prop := ∃ D : DataW Unit, w.ownsMap Try.prog 3 unitElem b m D ∧ Maps.Tidy D ∧ Maps.size D = S.length ∧ S.Nodup ∧ ∀ x, Maps.has D (.int .i64 x) = decide (x ∈ S)
theorem under58 : Try.prog.underlying 58 = some (.map 3 59) := by kernel_rfl
theorem keyed3 : Maps.Keyed Try.prog 3 := Maps.int_keyed Try.underlying3
theorem key_wf {x : Int} (h0 : -9223372036854775808 ≤ x) (h1 : x ≤ 9223372036854775807) : keyOf Try.prog 3 (.int .i64 x) = some (.int .i64 x) := by
  have hw : (Lit.int .i64 x).wf = true := by
    have e1 : IntKind.i64.min = -9223372036854775808 := by kernel_rfl
    have e2 : IntKind.i64.max = 9223372036854775807 := by kernel_rfl
    simp only [Lit.wf, Bool.and_eq_true, decide_eq_true_eq, e1, e2]
    exact ⟨h0, h1⟩
  unfold keyOf
  rw [Try.underlying3]
  simp [mapKey, Try.underlying3, hw]
theorem MapS.made (w : World) : MapS (w.alloc (.map #[] 0)) w.heap.size 0 [] :=
  ⟨.map [], World.ownsMap_made w Try.prog 3 unitElem, Maps.tidy_empty, rfl, List.nodup_nil, fun x => by simp [Maps.has]⟩
theorem MapS.drew {w : World} {b m : Nat} {S : List Int} (h : MapS w b m S) : MapS w.drew b m S := h
theorem MapS.alloc {w : World} {b m : Nat} {S : List Int} (h : MapS w b m S) (o : Obj) : MapS (w.alloc o) b m S := by
  obtain ⟨D, h1, h2⟩ := h
  exact ⟨D, h1.alloc o, h2⟩
theorem MapS.put {w : World} {b m : Nat} {S : List Int} (h : MapS w b m S) (hm : m < 1000000) {x : Int} (h0 : -9223372036854775808 ≤ x) (h1 : x ≤ 9223372036854775807) :
    ∃ w', (Instr.mapUpdate 58 (.map (some b)) (.int .i64 x) (.agg #[])).run Try.prog w = .ok () w' ∧ MapS w' b (m + 1) (addS S x) ∧ w.grownBy w' (some b) := by
  obtain ⟨D, ho, ht, hs, hn, hh⟩ := h
  obtain ⟨w', hr, ho', hg⟩ := ho.update keyed3 under58 (by unfold maxLen; omega) (key_wf h0 h1) unitElem_mk
  refine ⟨w', hr, ⟨_, ho', ho'.tidy keyed3, ?_, nodup_addS hn x, fun y => ?_⟩, hg⟩
  · rw [Maps.size_put ht, hh x, length_addS, hs]
    simp
  · by_cases hy : y = x
    · subst hy
      rw [Maps.has_put_same ht.isMap (show WideAt.IsKeyLit (.int .i64 y) from True.intro)]
      exact (decide_eq_true (mem_addS.2 (.inr rfl))).symm
    · rw [Maps.has_put_other (fun e => hy (by injection e)), hh y, decide_eq_decide, mem_addS]
      exact ⟨.inl, fun q => q.resolve_right hy⟩
theorem MapS.del {w : World} {b m : Nat} {S : List Int} (h : MapS w b m S) (ty : TypeId) :
    ∃ w', (Builtin.delete_ #[58, 3] ty #[.map (some b), .int .i64 (-1)]).run Try.prog w = .ok (.tuple #[]) w' ∧ w.grownBy w' (some b) ∧ ∀ ty', (Builtin.len_ #[58] ty' #[.map (some b)]).run Try.prog w' = .ok (.int .i64 (noRoot S).length) w' := by
  obtain ⟨D, ho, ht, hs, hn, hh⟩ := h
  obtain ⟨w', hr, ho', hg⟩ := ho.drop keyed3 under58 (key_wf (x := -1) (by omega) (by omega)) ty
  refine ⟨w', hr, hg.grown, fun ty' => ?_⟩
  have h1 := Maps.size_del ht (k := .int .i64 (-1))
  rw [hh (-1), hs] at h1
  have h2 := noRoot_length hn
  have h3 : Maps.size (D.del (.int .i64 (-1))) = (noRoot S).length := by
    by_cases hm : (-1 : Int) ∈ S
    · simp [hm] at h1 h2; omega
    · simp [hm] at h1 h2; omega
  rw [ho'.len under58 ty', h3]
end Go.Proofs.Ytbkogefcjcokhaa.Ed
