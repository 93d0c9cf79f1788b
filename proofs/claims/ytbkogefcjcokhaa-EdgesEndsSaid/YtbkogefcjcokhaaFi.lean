/- The contract of edges.find, walked by hand. -/
import Derived.Test.YtbkogefcjcokhaaFd
import Derived.Test.YtbkogefcjcokhaaCl
set_option linter.unusedVariables false
set_option linter.unusedSimpArgs false
namespace Go.Proofs.Ytbkogefcjcokhaa.Ed
open Go.RowKit Go.Proofs.Ytbkogefcjcokhaa.PAll Go.Proofs.Ytbkogefcjcokhaa.Nm Go.Proofs.YtbkogefcjcokhaaW.PrintWords

theorem results_tmp4 {fn : Func} {t u v x : Tmp} (h : fn.results = #[.tmp t, .tmp u, .tmp v, .tmp x]) (tmps : Array Value) (P : Program) (w : World) :
    (results fn tmps).run P w = .ok (.tuple #[tmps.getD t undef, tmps.getD u undef, tmps.getD v undef, tmps.getD x undef]) w := by
  simp [results, h]

set_option maxHeartbeats 2000000 in
set_option maxRecDepth 100000 in
theorem find_ok (A : Option Addr) (c : Nat) (l : List S33) (f t : Int) (w : World) (hl : l.length ≤ 1000) (hr : Kd.C k33 w A l.length l) (hc : l.length ≤ c) (hA : A = none → c = 0) (hok : Ok l) (hf : -1 ≤ f) (ht : 0 ≤ t) :
    Calls Try.prog 27 #[.slice A l.length c, .int .i64 f, .int .i64 t] w fun e w' => ∃ v, e = .returned (.tuple #[v, .int .i64 (idx l f t), .bool (there l f t), .int .i64 0]) ∧ Own w' w.heap.size v l ∧ Below w.heap.size w w' := by
  have HR := Aside0.mk hr
  have HS := Lib.hid hok
  have hchk := check_any A c l w hl hr hc
  rw [if_pos hok] at hchk
  have HCH := Aside0.mk hchk
  clear hr hchk
  have hf1 : decide (f < -1) = false := by simp; omega
  have ht1 : decide (t < 0) = false := by simp; omega
  have hf2 : ¬ f < -1 := by omega
  have ht2 : ¬ t < 0 := by omega
  have HA := Lib.hid hA
  clear hA hok
  go_enter Try.func27, Try.ntmps27
  go_wp2_with fail
  refine HCH.out.mono ?_
  rintro e w1 ⟨rfl, hb⟩
  have HB := Lib.hid hb
  clear hb
  go_wp2_with fail
  refine (bsf_any A c l f t w1 hl (Kd.C_below HR.out HB.out) hc HS.out.2).mono ?_
  rintro e w2 ⟨rfl, hb⟩
  have HB2 := Lib.hid (below_step HB.out hb)
  clear hb
  go_wp2_with fail
  refine (clone_any A c l w2 hl (Kd.C_below HR.out HB2.out) HA.out).mono ?_
  rintro e w3 ⟨v, rfl, ho, hb⟩
  have HB3 := Lib.hid (below_step HB2.out hb)
  have HO := Lib.hid (Own.lower ho (below_size HB2.out))
  clear hb ho
  go_wp2_with fail
  ((try simp only [Exit.inBlock, Exit.then]); refine bodyPost_ret (results_tmp4 rfl _ _ _) rfl ?_)
  exact ⟨v, rfl, HO.out, HB3.out⟩

set_option maxHeartbeats 2000000 in
set_option maxRecDepth 100000 in
theorem find_bad (A : Option Addr) (c : Nat) (l : List S33) (f t : Int) (w : World) (hl : l.length ≤ 1000) (hr : Kd.C k33 w A l.length l) (hc : l.length ≤ c) (hbad : ¬ (Ok l ∧ -1 ≤ f ∧ 0 ≤ t)) :
    Calls Try.prog 27 #[.slice A l.length c, .int .i64 f, .int .i64 t] w fun e w' => e = .returned (.tuple #[.slice none 0 0, .int .i64 0, .bool false, .int .i64 1]) ∧ Below w.heap.size w w' := by
  have hchk := check_any A c l w hl hr hc
  by_cases hok : Ok l
  · rw [if_pos hok] at hchk
    have HCH := Aside0.mk hchk
    clear hr hchk
    by_cases hf : f < -1
    · go_enter Try.func27, Try.ntmps27
      go_wp2_with fail
      refine HCH.out.mono ?_
      rintro e w1 ⟨rfl, hb⟩
      have HB := Lib.hid hb
      clear hb
      go_wp2_with fail
      ((try simp only [Exit.inBlock, Exit.then]); refine bodyPost_ret (results_tmp4 rfl _ _ _) rfl ?_)
      exact ⟨rfl, HB.out⟩
    · have ht : t < 0 := by
        rcases Int.lt_or_le t 0 with h | h
        · exact h
        · exact absurd ⟨hok, by omega, h⟩ hbad
      clear hbad hok
      go_enter Try.func27, Try.ntmps27
      go_wp2_with fail
      refine HCH.out.mono ?_
      rintro e w1 ⟨rfl, hb⟩
      have HB := Lib.hid hb
      clear hb
      go_wp2_with fail
      ((try simp only [Exit.inBlock, Exit.then]); refine bodyPost_ret (results_tmp4 rfl _ _ _) rfl ?_)
      exact ⟨rfl, HB.out⟩
  · rw [if_neg hok] at hchk
    have HCH := Aside0.mk hchk
    clear hr hchk hbad hok
    go_enter Try.func27, Try.ntmps27
    go_wp2_with fail
    refine HCH.out.mono ?_
    rintro e w1 ⟨rfl, hb⟩
    have HB := Lib.hid hb
    clear hb
    go_wp2_with fail
    ((try simp only [Exit.inBlock, Exit.then]); refine bodyPost_ret (results_tmp4 rfl _ _ _) rfl ?_)
    exact ⟨rfl, HB.out⟩
end Go.Proofs.Ytbkogefcjcokhaa.Ed
