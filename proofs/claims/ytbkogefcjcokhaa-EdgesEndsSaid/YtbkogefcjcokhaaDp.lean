/- The contract of edges.Drop. -/
import Derived.Test.YtbkogefcjcokhaaAp
set_option linter.unusedVariables false
set_option linter.unusedSimpArgs false
namespace Go.Proofs.Ytbkogefcjcokhaa.Ed
open Go.RowKit Go.Proofs.Ytbkogefcjcokhaa.PAll Go.Proofs.Ytbkogefcjcokhaa.Nm Go.Proofs.YtbkogefcjcokhaaW.PrintWords

def dropE (l : List S33) (f t : Int) : Int := if Ok l ∧ -1 ≤ f ∧ 0 ≤ t then (if many l f t = 0 then 2 else 0) else 1
def dropO (l : List S33) (f t : Int) : List S33 := if dropE l f t = 0 then dropL l f t else []
theorem dropE_bad {l : List S33} {f t : Int} (h : ¬ (Ok l ∧ -1 ≤ f ∧ 0 ≤ t)) : dropE l f t = 1 := by unfold dropE; rw [if_neg h]
theorem dropE_none {l : List S33} {f t : Int} (h : Ok l ∧ -1 ≤ f ∧ 0 ≤ t) (hm : many l f t = 0) : dropE l f t = 2 := by unfold dropE; rw [if_pos h, if_pos hm]
theorem dropE_ok {l : List S33} {f t : Int} (h : Ok l ∧ -1 ≤ f ∧ 0 ≤ t) (hm : many l f t ≠ 0) : dropE l f t = 0 := by unfold dropE; rw [if_pos h, if_neg hm]
theorem dropO_bad {l : List S33} {f t : Int} (h : dropE l f t ≠ 0) : dropO l f t = [] := by unfold dropO; rw [if_neg h]
theorem dropO_ok {l : List S33} {f t : Int} (h : dropE l f t = 0) : dropO l f t = dropL l f t := by unfold dropO; rw [if_pos h]

def DropPost (l : List S33) (f t : Int) (w : World) (e : Ending) (w' : World) : Prop := ∃ v, e = .returned (.tuple #[v, .int .i64 (dropE l f t)]) ∧ Own w' w.heap.size v (dropO l f t) ∧ Below w.heap.size w w'

set_option maxHeartbeats 2000000 in
set_option maxRecDepth 100000 in
theorem drop_any (A : Option Addr) (c : Nat) (l : List S33) (f t : Int) (w : World) (hl : l.length ≤ 1000) (hr : Kd.C k33 w A l.length l) (hc : l.length ≤ c) (hA : A = none → c = 0) :
    Calls Try.prog 11 #[.slice A l.length c, .int .i64 f, .int .i64 t] w (DropPost l f t w) := by
  by_cases hg : Ok l ∧ -1 ≤ f ∧ 0 ≤ t
  · have HF := Aside0.mk (find_ok A c l f t w hl hr hc hA hg.1 hg.2.1 hg.2.2)
    have HOK := Lib.hid hg
    clear hr hg hA
    go_enter Try.func11, Try.ntmps11
    go_wp2_with fail
    refine HF.out.mono ?_
    rintro e w1 ⟨v, rfl, ho, hb⟩
    have HB := Lib.hid hb
    by_cases hth : there l f t = true
    · obtain ⟨hi, hp, hm⟩ := there_at HOK.out.1 hth
      rw [hth]
      rcases ho.2 with ⟨rfl, h0⟩ | ⟨g, cap, cur, rfl, _⟩
      · omega
      · obtain ⟨hcell, hfz⟩ := own_cell ho (idx l f t) hi
        have hset := own_set ho (idx l f t) hi (l[idx l f t].f2 - 1)
        have hrg := many_range HOK.out.1 f t
        have hm0 : many l f t ≠ 0 := by
          have := HOK.out.1.1 _ (List.getElem_mem hi)
          unfold okE at this
          omega
        have HE := Lib.hid (dropE_ok HOK.out hm0)
        have hdl := dropL_there hth hi
        rw [isP_eta hp] at hset
        have hcell2 := (own_cell hset.1 (idx l f t) (by simpa using hi)).1
        rw [List.getElem_set_self] at hcell2
        simp only at hcell2
        have hw1 : IntKind.i64.wrap (many l f t - 1) = many l f t - 1 := by
          unfold most at hrg
          rw [IntKind.wrap_i64]; omega
        rw [hm] at hcell hset hcell2 hdl
        have HSET := Aside0.mk hset
        by_cases h1 : many l f t = 1
        · rw [if_pos h1] at hdl
          have HDL := Lib.hid hdl
          have hls : (l.set (idx l f t) ⟨f, t, many l f t - 1⟩).length = (l.length - 1) + 1 := by simp; omega
          have hn : l.length = (l.length - 1) + 1 := by omega
          have hil : idx l f t ≤ l.length - 1 := by omega
          have hl1 : l.length - 1 ≤ 1000 := by omega
          have hset1 := hset.1
          rw [hn] at hset1
          have HDE := Aside0.mk (delete_any g cap (l.length - 1) _ (idx l f t) w.heap.size _ hset1 hls hil hl1)
          rw [← hn] at HDE
          rw [List.take_set_of_le (Nat.le_refl _), List.drop_set_of_lt (Nat.lt_succ_self _)] at HDE
          have h10 : many l f t - 1 = 0 := by omega
          have hw2 : IntKind.i64.wrap ((idx l f t : Int) + 1) = (idx l f t : Int) + 1 := by rw [IntKind.wrap_i64]; omega
          have HN := Lib.hid hn
          have HLS := Lib.hid hls
          rw [h1] at hcell
          rw [h10] at hcell2 HDE HSET
          clear hb ho hp hm hth hset h1 h10 hw1 hrg hdl hset1 hn hls hm0 hil hl1
          go_wp2_with fail
          refine HDE.out.mono ?_
          rintro e w2 ⟨v', rfl, ho, hb⟩
          have HO2 := Lib.hid ho
          have HB2 := Lib.hid hb
          clear ho hb
          go_wp2_with fail
          go_ret2
          exact ⟨_, by rw [HE.out]; rfl, by rw [dropO_ok HE.out, HDL.out]; exact HO2.out, HB.out.trans (HSET.out.2.trans HB2.out)⟩
        · rw [if_neg h1] at hdl
          have HDL := Lib.hid hdl
          have h10 : ¬ many l f t - 1 = 0 := by omega
          clear hb ho hp hm hth hset h1 hrg hdl hm0
          go_wp2_with fail
          go_ret2
          exact ⟨_, by rw [HE.out]; rfl, by rw [dropO_ok HE.out, HDL.out]; exact HSET.out.1, HB.out.trans HSET.out.2⟩
    · have hth' : there l f t = false := by simpa using hth
      have hm := there_not HOK.out.1 hth'
      have HE := Lib.hid (dropE_none HOK.out hm)
      rw [hth']
      have HO := Lib.hid ho
      clear hb ho hm hth hth'
      go_wp2_with fail
      go_ret2
      exact ⟨_, by rw [HE.out]; rfl, by rw [dropO_bad (by rw [HE.out]; decide)]; exact Own.nil _ _, HB.out⟩
  · have HF := Aside0.mk (find_bad A c l f t w hl hr hc hg)
    have HE := Lib.hid (dropE_bad hg)
    clear hr hg hA
    go_enter Try.func11, Try.ntmps11
    go_wp2_with fail
    refine HF.out.mono ?_
    rintro e w1 ⟨rfl, hb⟩
    have HB := Lib.hid hb
    clear hb
    go_wp2_with fail
    go_ret2
    exact ⟨_, by rw [HE.out]; rfl, by rw [dropO_bad (by rw [HE.out]; decide)]; exact Own.nil _ _, HB.out⟩
end Go.Proofs.Ytbkogefcjcokhaa.Ed
