/- The contracts of edges.Many and edges.Add. -/
import Derived.Test.YtbkogefcjcokhaaDe
import Derived.Test.YtbkogefcjcokhaaFi
import Derived.Test.YtbkogefcjcokhaaNi
set_option linter.unusedVariables false
set_option linter.unusedSimpArgs false
namespace Go.Proofs.Ytbkogefcjcokhaa.Ed
open Go.RowKit Go.Proofs.Ytbkogefcjcokhaa.PAll Go.Proofs.Ytbkogefcjcokhaa.Nm Go.Proofs.YtbkogefcjcokhaaW.PrintWords

theorem cells_set (l : List S33) (i : Nat) (hi : i < l.length) (k : Int) : cells (l.set i ⟨l[i].f0, l[i].f1, k⟩) = (cells l).set (i * 3 + 2) (.int .i64 k) := by
  induction l generalizing i with
  | nil => simp at hi
  | cons e l ih =>
    cases i with
    | zero => rfl
    | succ i =>
      have h := ih i (by simpa using hi)
      simp only [List.set_cons_succ, List.getElem_cons_succ, cells_cons, h]
      rw [List.set_append_right _ _ (by simp [cel]; omega)]
      simp only [cel, List.length_cons, List.length_nil]
      congr 2
      omega
theorem own_set {w : World} {B g n c : Nat} {l : List S33} (h : Own w B (.slice (some ⟨g, 0, none⟩) n c) l) (i : Nat) (hi : i < l.length) (k : Int) :
    Own (w.setCell ⟨g, i * 3 + 2, none⟩ (.int .i64 k)) B (.slice (some ⟨g, 0, none⟩) n c) (l.set i ⟨l[i].f0, l[i].f1, k⟩) ∧ Below B w (w.setCell ⟨g, i * 3 + 2, none⟩ (.int .i64 k)) := by
  obtain ⟨hq, hBg, hgw, hnc, hcm, sp, hrow, hsp⟩ := Own.row h
  rw [setCell_eq_setRow w g (i * 3 + 2) _ 33 (0, 0) _ hrow]
  refine ⟨Own.mk hBg (by simpa using hq) (by simpa using hnc) hcm ((cells l ++ sp).set (i * 3 + 2) (.int .i64 k)) ?_ ?_ ?_, setRow_below w hBg _⟩
  · rw [setRow_heap w g _ _ 33 (0, 0) hrow]
    simp
  · rw [List.length_set, List.length_append, cells_length, hsp]; omega
  · rw [List.length_set, cells_set l i hi, List.set_append_left _ _ (by rw [cells_length]; omega)]
    rw [show l.length * 3 = ((cells l).set (i * 3 + 2) (.int .i64 k)).length by rw [List.length_set, cells_length], List.take_left]
theorem own_cell {w : World} {B g n c : Nat} {l : List S33} (h : Own w B (.slice (some ⟨g, 0, none⟩) n c) l) (i : Nat) (hi : i < l.length) :
    w.cell? ⟨g, i * 3 + 2, none⟩ = some (.int .i64 l[i].f2) ∧ w.frozen? ⟨g, i * 3 + 2, none⟩ = false := by
  obtain ⟨hq, hBg, hgw, hnc, hcm, sp, hrow, hsp⟩ := Own.row h
  refine ⟨?_, frozen_of_row hrow _⟩
  have := row_cell hrow (i * 3 + 2) (.int .i64 l[i].f2) (by
    rw [List.getElem?_append_left (by rw [cells_length]; omega)]
    exact cells_get l i l[i] (List.getElem?_eq_getElem hi) 2 _ rfl)
  rw [Addr.add_lit, Nat.zero_add] at this
  exact this

def manyE (l : List S33) (f t : Int) : Int := if Ok l ∧ -1 ≤ f ∧ 0 ≤ t then 0 else 1
def manyO (l : List S33) (f t : Int) : Int := if Ok l ∧ -1 ≤ f ∧ 0 ≤ t then many l f t else 0

set_option maxHeartbeats 2000000 in
set_option maxRecDepth 100000 in
theorem many_any (A : Option Addr) (c : Nat) (l : List S33) (f t : Int) (w : World) (hl : l.length ≤ 1000) (hr : Kd.C k33 w A l.length l) (hc : l.length ≤ c) (hA : A = none → c = 0) :
    Calls Try.prog 18 #[.slice A l.length c, .int .i64 f, .int .i64 t] w fun e w' => e = .returned (.tuple #[.int .i64 (manyO l f t), .int .i64 (manyE l f t)]) ∧ Below w.heap.size w w' := by
  unfold manyO manyE
  by_cases hg : Ok l ∧ -1 ≤ f ∧ 0 ≤ t
  · rw [if_pos hg, if_pos hg]
    have HF := Aside0.mk (find_ok A c l f t w hl hr hc hA hg.1 hg.2.1 hg.2.2)
    have HOK := Lib.hid hg
    clear hr hg hA
    go_enter Try.func18, Try.ntmps18
    go_wp2_with fail
    refine HF.out.mono ?_
    rintro e w1 ⟨v, rfl, ho, hb⟩
    have HB := Lib.hid hb
    by_cases hth : there l f t = true
    · obtain ⟨hi, hp, hm⟩ := there_at HOK.out.1 hth
      rw [hth]
      rcases ho.2 with ⟨rfl, h0⟩ | ⟨g, cap, cur, rfl, _⟩
      · omega
      · obtain ⟨hcell, _⟩ := own_cell ho (idx l f t) hi
        have HO := Lib.hid ho
        have HM := Lib.hid hm
        clear hb ho hp hm hth
        go_wp2_with fail
        go_ret2
        exact ⟨by rw [← HM.out]; rfl, HB.out⟩
    · have hth' : there l f t = false := by simpa using hth
      have hm := there_not HOK.out.1 hth'
      rw [hth']
      have HO := Lib.hid ho
      have HM := Lib.hid hm
      clear hb ho hm hth hth'
      go_wp2_with fail
      go_ret2
      exact ⟨by rw [HM.out]; rfl, HB.out⟩
  · rw [if_neg hg, if_neg hg]
    have HF := Aside0.mk (find_bad A c l f t w hl hr hc hg)
    clear hr hg hA
    go_enter Try.func18, Try.ntmps18
    go_wp2_with fail
    refine HF.out.mono ?_
    rintro e w1 ⟨rfl, hb⟩
    have HB := Lib.hid hb
    clear hb
    go_wp2_with fail
    go_ret2
    exact ⟨rfl, HB.out⟩
end Go.Proofs.Ytbkogefcjcokhaa.Ed
