/- The contract of slices.Insert at edges (one edge), walked by hand. -/
import Derived.Test.YtbkogefcjcokhaaCl
import Derived.Shelf.Spec.SlicesInsertGrow
set_option linter.unusedVariables false
set_option linter.unusedSimpArgs false
namespace Go.Proofs.Ytbkogefcjcokhaa.Ed
open Go.RowKit Go.Proofs.Ytbkogefcjcokhaa.PAll Go.Proofs.Ytbkogefcjcokhaa.Nm Go.Proofs.YtbkogefcjcokhaaW.PrintWords

theorem row_cell {w : World} {vb : Nat} {cs : List Value} {t : TypeId} (h : w.heap[vb]? = some (.cells cs.toArray t (0, 0))) (j : Nat) (u : Value) (hu : cs[j]? = some u) : w.cell? ((⟨vb, 0, none⟩ : Addr).add j) = some u := by
  rw [Addr.add_lit, cell_of_row w vb _ _ t (0, 0) h]
  simpa using hu
theorem row_cell_at {w : World} {vb : Nat} {cs : List Value} {t : TypeId} (h : w.heap[vb]? = some (.cells cs.toArray t (0, 0))) (o : Nat) (j : Nat) (u : Value) (hu : cs[o + j]? = some u) : w.cell? ((⟨vb, o, none⟩ : Addr).add j) = some u := by
  rw [Addr.add_lit, cell_of_row w vb _ _ t (0, 0) h]
  simpa using hu

set_option maxHeartbeats 4000000 in
set_option maxRecDepth 100000 in
theorem insert_end (v : Value) (l : List S33) (x : S33) (vb vc B : Nat) (w : World) (ho : Own w B v l) (hB : B ≤ w.heap.size) (hvb : w.heap[vb]? = some (.cells (cel x).toArray 33 (0, 0))) (hl : l.length ≤ 1000) :
    Calls Try.prog 28 #[v, .int .i64 l.length, .slice (some ⟨vb, 0, none⟩) 1 vc] w fun e w' => ∃ v', e = .returned v' ∧ Own w' B v' (l ++ [x]) ∧ Below B w w' := by
  obtain ⟨v', w', hrun, ho', hg⟩ := append_own ho hB ⟨vb, 0, none⟩ vc 22 (r := [x]) (fun j u hu => row_cell hvb j u (by simpa [cells] using hu)) (by simp; omega)
  have hbel : Below B w w' := by
    rcases ho.2 with ⟨rfl, _⟩ | ⟨g, cap, cur, rfl, hg', _⟩
    · exact ⟨hg.os, hg.tape, hg.output, hg.size, fun k hk => hg.block k (by omega) (by simp [Value.ownBlock])⟩
    · exact grown_below hg hg' hB
  rcases ho.2 with ⟨rfl, h0⟩ | ⟨g, cap, cur, rfl, hg', hcur, hnc, hcm, _⟩
  · obtain rfl : l = [] := List.eq_nil_of_length_eq_zero h0
    simp only [List.length_cons, List.length_nil, Nat.zero_add] at hrun
    go_enter Try.func28, Try.ntmps28
    go_wp2_with (at_builtin; refine Lib.wpList_append_run _ rfl _ _ _ _ rfl _ _ rfl rfl _ _ hrun ?_)
    go_ret
    exact ⟨_, rfl, ho', hbel⟩
  · simp only [List.length_cons, List.length_nil, Nat.zero_add] at hrun
    unfold maxLen at hcm
    have u33 := Try.underlying33
    go_enter Try.func28, Try.ntmps28
    go_wp2_with (at_builtin; refine Lib.wpList_append_run _ rfl _ _ _ _ rfl _ _ rfl rfl _ _ hrun ?_)
    all_goals (go_ret; exact ⟨_, rfl, ho', hbel⟩)
end Go.Proofs.Ytbkogefcjcokhaa.Ed
