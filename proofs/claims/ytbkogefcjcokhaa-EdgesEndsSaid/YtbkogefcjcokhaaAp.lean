/- The contract of edges.Add. -/
import Derived.Test.YtbkogefcjcokhaaAd
set_option linter.unusedVariables false
set_option linter.unusedSimpArgs false
namespace Go.Proofs.Ytbkogefcjcokhaa.Ed
open Go.RowKit Go.Proofs.Ytbkogefcjcokhaa.PAll Go.Proofs.Ytbkogefcjcokhaa.Nm Go.Proofs.YtbkogefcjcokhaaW.PrintWords

def addE (l : List S33) (f t : Int) : Int := if Ok l ∧ -1 ≤ f ∧ 0 ≤ t then (if many l f t = most then 4 else 0) else 1
def addO (l : List S33) (f t : Int) : List S33 := if addE l f t = 0 then addL l f t else []
theorem addE_bad {l : List S33} {f t : Int} (h : ¬ (Ok l ∧ -1 ≤ f ∧ 0 ≤ t)) : addE l f t = 1 := by unfold addE; rw [if_neg h]
theorem addE_large {l : List S33} {f t : Int} (h : Ok l ∧ -1 ≤ f ∧ 0 ≤ t) (hm : many l f t = most) : addE l f t = 4 := by unfold addE; rw [if_pos h, if_pos hm]
theorem addE_ok {l : List S33} {f t : Int} (h : Ok l ∧ -1 ≤ f ∧ 0 ≤ t) (hm : many l f t ≠ most) : addE l f t = 0 := by unfold addE; rw [if_pos h, if_neg hm]
theorem addO_bad {l : List S33} {f t : Int} (h : addE l f t ≠ 0) : addO l f t = [] := by unfold addO; rw [if_neg h]
theorem addO_ok {l : List S33} {f t : Int} (h : addE l f t = 0) : addO l f t = addL l f t := by unfold addO; rw [if_pos h]

def AddPost (l : List S33) (f t : Int) (w : World) (e : Ending) (w' : World) : Prop := ∃ v, e = .returned (.tuple #[v, .int .i64 (addE l f t)]) ∧ Own w' w.heap.size v (addO l f t) ∧ Below w.heap.size w w'

set_option maxHeartbeats 2000000 in
set_option maxRecDepth 100000 in
theorem add_any (A : Option Addr) (c : Nat) (l : List S33) (f t : Int) (w : World) (hl : l.length ≤ 1000) (hr : Kd.C k33 w A l.length l) (hc : l.length ≤ c) (hA : A = none → c = 0) :
    Calls Try.prog 10 #[.slice A l.length c, .int .i64 f, .int .i64 t] w (AddPost l f t w) := by
  by_cases hg : Ok l ∧ -1 ≤ f ∧ 0 ≤ t
  · have HF := Aside0.mk (find_ok A c l f t w hl hr hc hA hg.1 hg.2.1 hg.2.2)
    have HOK := Lib.hid hg
    clear hr hg hA
    go_enter Try.func10, Try.ntmps10
    go_wp2_with fail
    refine HF.out.mono ?_
    rintro e w1 ⟨v, rfl, ho, hb⟩
    have HB := Lib.hid hb
    by_cases hth : there l f t = true
    · obtain ⟨hi, hp, hm⟩ := there_at HOK.out.1 hth
      rw [hth]
      rcases ho.2 with ⟨rfl, h0⟩ | ⟨g, cap, cur, rfl, _⟩
      · omega
      · obtain ⟨hcell, hfz⟩ := own_cell ho (idx l f t) hi
        have hset := own_set ho (idx l f t) hi (l[idx l f t].f2 + 1)
        rw [isP_eta hp, ← addL_there hth hi] at hset
        have HSET := Aside0.mk hset
        rw [hm] at hcell
        have hw1 : IntKind.i64.wrap (many l f t + 1) = many l f t + 1 := by
          have := many_range HOK.out.1 f t
          unfold most at this
          rw [IntKind.wrap_i64]; omega
        by_cases hmost : many l f t = 1099511627776
        · have HE := Lib.hid (addE_large HOK.out hmost)
          have HM := Lib.hid hmost
          rw [hmost] at hcell
          clear hb ho hp hm hth hset hmost hw1
          go_wp2_with fail
          go_ret2
          exact ⟨_, by rw [HE.out]; rfl, by rw [addO_bad (by rw [HE.out]; decide)]; exact Own.nil _ _, HB.out⟩
        · have HE := Lib.hid (addE_ok HOK.out hmost)
          have HM := Lib.hid hm
          clear hb ho hp hm hth hset
          go_wp2_with fail
          go_ret2
          exact ⟨_, by rw [HE.out]; rfl, by rw [addO_ok HE.out]; have := HSET.out.1; rw [HM.out] at this; exact this, HB.out.trans (by have := HSET.out.2; rw [HM.out] at this; exact this)⟩
    · have hth' : there l f t = false := by simpa using hth
      have hm := there_not HOK.out.1 hth'
      have HE := Lib.hid (addE_ok HOK.out (by rw [hm]; decide))
      have HAL := Lib.hid (addL_not hth')
      rw [hth']
      have HO := Lib.hid ho
      clear hb ho hm hth hth'
      go_wp2_with fail
      refine (insert_any v l (idx l f t) ⟨f, t, 1⟩ w1.heap.size 1 w.heap.size (w1.alloc (.cells #[.int .i64 f, .int .i64 t, .int .i64 1] 33)) (HO.out.below ((Below.refl _ _).alloc (Nat.le_refl _) _)) (idx_le l f t) (Nat.le_trans HB.out.size (by simp)) (heap_alloc_new w1 _) (fun k hk => by have := own_lt HO.out k hk; omega) hl).mono ?_
      rintro e w2 ⟨v', rfl, ho, hb⟩
      have HO2 := Lib.hid ho
      have HB2 := Lib.hid hb
      clear ho hb
      go_wp2_with fail
      go_ret2
      exact ⟨_, by rw [HE.out]; rfl, by rw [addO_ok HE.out, HAL.out]; exact HO2.out, HB.out.trans (((Below.refl _ w1).alloc HB.out.size _).trans HB2.out)⟩
  · have HF := Aside0.mk (find_bad A c l f t w hl hr hc hg)
    have HE := Lib.hid (addE_bad hg)
    clear hr hg hA
    go_enter Try.func10, Try.ntmps10
    go_wp2_with fail
    refine HF.out.mono ?_
    rintro e w1 ⟨rfl, hb⟩
    have HB := Lib.hid hb
    clear hb
    go_wp2_with fail
    go_ret2
    exact ⟨_, by rw [HE.out]; rfl, by rw [addO_bad (by rw [HE.out]; decide)]; exact Own.nil _ _, HB.out⟩
end Go.Proofs.Ytbkogefcjcokhaa.Ed
