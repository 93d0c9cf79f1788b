/- The contract of slices.Insert at edges: in place. -/
import Derived.Test.YtbkogefcjcokhaaIn
set_option linter.unusedVariables false
set_option linter.unusedSimpArgs false
namespace Go.Proofs.Ytbkogefcjcokhaa.Ed
open Go.RowKit Go.Proofs.Ytbkogefcjcokhaa.PAll Go.Proofs.Ytbkogefcjcokhaa.Nm Go.Proofs.YtbkogefcjcokhaaW.PrintWords

theorem shape_of_row {w : World} {vb : Nat} {cs : List Value} {t : TypeId} (h : w.heap[vb]? = some (.cells cs.toArray t (0, 0))) : w.shape? vb = some (t, cs.length) := by
  simp [World.shape?, h]
theorem frozen_of_row {w : World} {vb : Nat} {cs : List Value} {t : TypeId} (h : w.heap[vb]? = some (.cells cs.toArray t (0, 0))) (o : Nat) : w.frozen? ⟨vb, o, none⟩ = false := by
  simp [World.frozen?, h]
theorem size33_run : ∀ w, (Go.sizeOf 33).run Try.prog w = .ok 3 w := by
  intro w
  cases hq : Try.prog.info? 33 with
  | none => have := size33; simp [hq] at this
  | some i =>
    have hi : i.size = 3 := by have := size33; simpa [hq] using this
    simp [sizeOf, typeInfo, hq, hi]

set_option maxHeartbeats 4000000 in
set_option maxRecDepth 100000 in
theorem insert_room (g c n : Nat) (l : List S33) (i : Nat) (x : S33) (vb vc B : Nat) (w : World) (ho : Own w B (.slice (some ⟨g, 0, none⟩) n c) l) (hnl : l.length = n) (hi : i < n) (hc : n + 1 ≤ c) (hne : vb ≠ g) (hvb : w.heap[vb]? = some (.cells (cel x).toArray 33 (0, 0))) (hl : n ≤ 1000) :
    Calls Try.prog 28 #[.slice (some ⟨g, 0, none⟩) n c, .int .i64 i, .slice (some ⟨vb, 0, none⟩) 1 vc] w fun e w' => ∃ v', e = .returned v' ∧ Own w' B v' (l.take i ++ x :: l.drop i) ∧ Below B w w' := by
  obtain ⟨hq, hBg, hgw, hnc, hcm, sp, hrow, hsp⟩ := Own.row ho
  have hcm' : c ≤ 9223372036854775807 := by unfold maxLen at hcm; omega
  have hov : ∀ lb cb, (callFunc 37 #[.slice (some ⟨vb, 0, none⟩) 1 vc, .slice (some ⟨g, (i + 1) * 3, none⟩) lb cb]).run Try.prog w = .ok (.value (.bool false)) w := fun lb cb => by
    rw [run_callFunc_extern (Try.func37) (by kernel_rfl) (by kernel_rfl) (by kernel_rfl) (e := Extern.SlicesOverlaps.overlaps #[22, 22] #[4]) (by kernel_rfl),
      Lib.run_overlaps_apart w 22 4 33 under22 3 size33_run ⟨vb, 0, none⟩ ⟨g, (i + 1) * 3, none⟩ 1 vc lb cb hne 33 33 3 ((cells l ++ sp).length) (shape_of_row hvb) (shape_of_row hrow) (by rw [List.length_append, cells_length]; omega) (frozen_of_row hvb _) (frozen_of_row hvb _)]
    rfl
  have hrl : (cells l ++ sp).length = c * 3 := by rw [List.length_append, cells_length, hsp]; omega
  have hcp1 : ∀ ty dc sc, (Builtin.copy_ #[22, 22] ty #[.slice (some ⟨g, (i + 1) * 3, none⟩) (n - i) dc, .slice (some ⟨g, i * 3, none⟩) (n + 1 - i) sc]).run Try.prog w.drew = .ok (goInt (n - i : Nat)) (w.drew.setRow g (splice (cells l ++ sp) ((i + 1) * 3) (cells (l.drop i))).toArray) := fun ty dc sc => by
    exact run_copy3k (n - i) w.drew ty g ((i + 1) * 3) (n - i) dc ⟨g, i * 3, none⟩ (n + 1 - i) sc (cells l ++ sp) 33 (cells (l.drop i)) (nmin_r (by omega)) hrow (by rw [cells_length, List.length_drop, hnl])
      (fun j u hj => row_cell_at (w := w.drew) hrow (i * 3) j u (by rw [List.getElem?_append_left (by have := (List.getElem?_eq_some_iff.1 hj).1; rw [cells_length, List.length_drop] at this; rw [cells_length]; omega), ← List.getElem?_drop, cells_drop]; exact hj))
      (by rw [cells_length, List.length_drop, hrl]; omega) (cells_one _)
  obtain ⟨X1, hX1⟩ : ∃ X1, X1 = splice (cells l ++ sp) ((i + 1) * 3) (cells (l.drop i)) := ⟨_, rfl⟩
  have hX1l : X1.length = c * 3 := by rw [hX1, splice_length (by rw [cells_length, List.length_drop, hrl]; omega), hrl]
  rw [← hX1] at hcp1
  have hcp2 : ∀ (W : World), W.heap = (w.drew.setRow g X1.toArray).heap → ∀ ty dc, (Builtin.copy_ #[22, 22] ty #[.slice (some ⟨g, i * 3, none⟩) (n + 1 - i) dc, .slice (some ⟨vb, 0, none⟩) 1 vc]).run Try.prog W = .ok (goInt (1 : Nat)) (W.setRow g (splice X1 (i * 3) (cel x)).toArray) := fun W hW ty dc => by
    have hg1 : W.heap[g]? = some (.cells X1.toArray 33 (0, 0)) := by rw [hW]; exact setRow_heap w.drew g _ _ 33 (0, 0) hrow
    have hv1 : W.heap[vb]? = some (.cells (cel x).toArray 33 (0, 0)) := by rw [hW, setRow_other _ _ _ _ hne]; exact hvb
    exact run_copy3k 1 W ty g (i * 3) (n + 1 - i) dc ⟨vb, 0, none⟩ 1 vc X1 33 (cel x) (nmin_l (by omega)) hg1 rfl (fun j u hj => row_cell hv1 j u hj) (by rw [hX1l]; simp [cel]; omega) (cel_one x)
  have hpost : ∀ W : World, W.heap = ((w.drew.setRow g X1.toArray).setRow g (splice X1 (i * 3) (cel x)).toArray).heap → W.os = w.os → W.tape = w.tape → W.output = w.output → Own W B (.slice (some ⟨g, 0, none⟩) (n + 1) c) (l.take i ++ x :: l.drop i) ∧ Below B w W := by
    intro W hW h1 h2 h3
    have hlen : (l.take i ++ x :: l.drop i).length = n + 1 := by simp; omega
    have htk : (cells l ++ sp).take (cells (l.take i)).length = cells (l.take i) := by
      rw [cells_length, List.take_append_of_le_length (by rw [cells_length, List.length_take]; omega), cells_take, List.length_take, Nat.min_eq_left (by omega)]
    have hA : (cells (l.take i)).length = i * 3 := by rw [cells_length, List.length_take]; omega
    have hD : (cells (l.drop i)).length = (n - i) * 3 := by rw [cells_length, List.length_drop]; omega
    have hst := splice_two (X := cel x) (D := cells (l.drop i)) htk (by rw [hA, hD, hrl]; simp [cel]; omega)
    rw [hA, hD, show (cel x).length = 3 from rfl, show i * 3 + 3 = (i + 1) * 3 by omega, ← hX1] at hst
    refine ⟨Own.mk hBg hlen.symm (by omega) hcm (splice X1 (i * 3) (cel x)) ?_ ?_ ?_, h1, h2, h3, ?_, fun k hk => ?_⟩
    · rw [hW]; exact setRow_heap _ g _ _ 33 (0, 0) (setRow_heap w.drew g _ _ 33 (0, 0) hrow)
    · rw [splice_length (by rw [hX1l]; simp [cel]; omega), hX1l]
    · rw [hlen, show (n + 1) * 3 = (i + 1) * 3 + (n - i) * 3 by omega, hst, cells_append, cells_cons, List.append_assoc]
    · rw [hW]; simp
    · rw [hW, setRow_other _ _ _ _ (by omega), setRow_other _ _ _ _ (by omega)]; rfl
  have mixed : Try.prog.follows .mixedOrders = true := by kernel_rfl
  have hz1 : ¬ ((i : Int) = (n : Int)) := by omega
  have hw1 : IntKind.i64.wrap ((i : Int) + 1) = (i : Int) + 1 := by rw [IntKind.wrap_i64]; omega
  have u33 := Try.underlying33
  have hnc2 : n ≤ c := by omega
  have hin : i ≤ n := by omega
  have htn : ((i : Int) + 1).toNat = i + 1 := by omega
  have hb1 : (0 : Int) ≤ (i : Int) + 1 := by omega
  have hb2 : ¬ (c = i + 1) := by omega
  have hb3 : (i : Int) ≤ (n : Int) + 1 := by omega
  have hb4 : ¬ (c = i) := by omega
  have HNL := Lib.hid hnl
  have HNC := Lib.hid hnc
  have HSP := Lib.hid hsp
  have HROW := Lib.hid hrow
  have HVB := Lib.hid hvb
  clear hX1 hnl hq hnc hsp hrow hvb ho
  go_enter Try.func28, Try.ntmps28
  go_wp2_with (simp only [hov])
  go_region_law_o (refine step_copy_runI rfl _ _ 22 22 rfl _ _ (by simp [Act.eval, Act.put]) (by simp [Act.eval, Act.put]) (hcp1 _ _ _) ?_)
  go_wp2_with (at_builtin; refine wpList_copy_runI _ rfl _ _ 22 22 rfl _ _ rfl rfl (hcp2 _ rfl _ _) ?_)
  go_ret
  exact ⟨_, rfl, hpost _ rfl rfl rfl rfl⟩
end Go.Proofs.Ytbkogefcjcokhaa.Ed
