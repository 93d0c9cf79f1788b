/- The contract of slices.Clone at edges, walked by hand. -/
import Derived.Test.YtbkogefcjcokhaaMm
import Derived.Lib.AppendZeros
import Derived.Outline
import Derived.Lib.Hide
import Derived.Lib.SliceRun
set_option linter.unusedVariables false
set_option linter.unusedSimpArgs false
namespace Go.Proofs.Ytbkogefcjcokhaa.Ed
open Go.RowKit Go.Proofs.Ytbkogefcjcokhaa.PAll Go.Proofs.Ytbkogefcjcokhaa.Nm Go.Proofs.YtbkogefcjcokhaaW.PrintWords

theorem append_own {w : World} {B : Nat} {v : Value} {l r : List S33} (h : Own w B v l) (hB : B ≤ w.heap.size) (a : Addr) (c : Nat) (ty : TypeId) (hr : ∀ j u, (cells r)[j]? = some u → w.cell? (a.add j) = some u) (hl : l.length + r.length ≤ 100000) :
    ∃ v' w', (Builtin.append_ #[22, 22] ty #[v, .slice (some a) r.length c]).run Try.prog w = .ok v' w' ∧ Own w' B v' (l ++ r) ∧ w.grownBy w' v.ownBlock := by
  cases hq : Try.prog.info? 33 with
  | none => have := size33; simp [hq] at this
  | some i =>
    have h33 := info33
    simp [hq] at h33
    obtain ⟨hz, hs, hb⟩ := h33
    obtain ⟨v', w', h1, h2, h3, _⟩ := run_append_own (P := Try.prog) w B 22 ty 33 i _ 3 24 under22 hq hz hs hb (by kernel_rfl) (by omega) v l.length (cells l) h a r.length c (cells r) (cells_length r) hr (cells_one r) (by unfold maxLen; omega) (by omega) hB
    refine ⟨v', w', h1, ?_, h3⟩
    unfold Own
    rw [cells_append, List.length_append]
    exact h2
theorem grown_below {w w' : World} {B g : Nat} (h : w.grownBy w' (some g)) (hB : B ≤ g) (hs : B ≤ w.heap.size) : Below B w w' :=
  ⟨h.os, h.tape, h.output, h.size, fun k hk => h.block k (by omega) (by simp; omega)⟩

set_option maxHeartbeats 2000000 in
set_option maxRecDepth 100000 in
theorem clone_any (A : Option Addr) (c : Nat) (l : List S33) (w : World) (hl : l.length ≤ 1000) (hr : Kd.C k33 w A l.length l) (hA : A = none → c = 0) :
    Calls Try.prog 36 #[.slice A l.length c] w fun e w' => ∃ v, e = .returned v ∧ Own w' w.heap.size v l ∧ Below w.heap.size w w' := by
  have hnil : ∀ (w : World) (a : Option Addr) (n c n' c' : Nat), (binOp .eql 22 (.slice a n c) (.slice none n' c')).run Try.prog w = .ok (.bool a.isNone) w := fun w a n c n' c' => Lib.run_eql_slice_nil w 22 33 a n c n' c' under22
  cases A with
  | none =>
    have h0 : l.length = 0 := by
      rcases Nat.eq_zero_or_pos l.length with h | h
      · exact h
      · obtain ⟨ad, e, _⟩ := C_cells hr h
        cases e
    obtain rfl : l = [] := List.eq_nil_of_length_eq_zero h0
    obtain rfl := hA rfl
    go_enter Try.func36, Try.ntmps36
    go_wp2_with (simp only [hnil])
    go_ret
    exact ⟨_, rfl, Own.nil _ _, Below.refl _ _⟩
  | some a =>
    have hcell : ∀ j u, (cells l)[j]? = some u → w.cell? (a.add j) = some u := by
      rcases Nat.eq_zero_or_pos l.length with h | h
      · obtain rfl : l = [] := List.eq_nil_of_length_eq_zero h
        simp [cells]
      · obtain ⟨ad, e, hc⟩ := C_cells hr h
        obtain rfl := Option.some.inj e
        exact hc
    have hown : Own (w.alloc (.cells #[] 33)) w.heap.size (.slice (some ⟨w.heap.size, 0, none⟩) 0 0) [] :=
      Own.mk (Nat.le_refl _) rfl (Nat.le_refl _) (by unfold maxLen; omega) [] (heap_alloc_new w _) rfl rfl
    obtain ⟨v', w', hrun, ho, hg⟩ := append_own hown (by simp) a c 22 (r := l) (fun j u hu => Lib.cell?_alloc_some _ (hcell j u hu)) (by simp; omega)
    go_enter Try.func36, Try.ntmps36
    go_wp2_with (first | simp only [hnil] | at_builtin; refine Lib.wpList_append_run _ rfl _ _ _ _ rfl _ _ rfl rfl _ _ hrun ?_)
    go_ret
    exact ⟨_, rfl, ho, ((Below.refl _ w).alloc (Nat.le_refl _) _).trans (grown_below hg (Nat.le_refl _) (by simp))⟩
end Go.Proofs.Ytbkogefcjcokhaa.Ed
