/- EdgesChange, walked by hand. PRINTED by gen_wchange.py of this work. -/
import Derived.Test.YtbkogefcjcokhaaMa
import Derived.Test.YtbkogefcjcokhaaRf
import Derived.Test.YtbkogefcjcokhaaSm
set_option linter.unusedVariables false
set_option linter.unusedSimpArgs false
namespace Go.Proofs.Ytbkogefcjcokhaa.Ed
open Go.RowKit Go.Proofs.Ytbkogefcjcokhaa.PAll Go.Proofs.Ytbkogefcjcokhaa.Nm Go.Proofs.YtbkogefcjcokhaaW.PrintWords

theorem addL_len (l : List S33) (f t : Int) : (addL l f t).length ≤ l.length + 1 := by
  induction l with
  | nil => simp [addL]
  | cons e l ih => rw [addL]; split; · simp
                   · split <;> simp <;> omega
theorem Rd.empty {w : World} {v : Value} (h : Rd w v []) : ∃ A c, v = .slice A 0 c := by
  obtain ⟨A, c, e, _⟩ := h
  exact ⟨A, c, e⟩

set_option maxHeartbeats 8000000 in
set_option maxRecDepth 100000 in
theorem change_any (v : Value) (l : List S33) (f t : Int) (w : World) (hr : Rd w v l) (hf : -9223372036854775808 ≤ f ∧ f ≤ 9223372036854775807) (ht : -9223372036854775808 ≤ t ∧ t ≤ 9223372036854775807) :
    Calls Try.prog 3 #[v, .int .i64 f, .int .i64 t] w fun e w' => e = .returned (.bool true) ∧ Below w.heap.size w w' := by
  have HR := Lib.hid hr
  obtain ⟨k, hk⟩ : ∃ k, k = l.take 40 := ⟨_, rfl⟩
  have hkl : k.length ≤ 40 := by rw [hk, List.length_take]; omega
  have HK := Lib.hid hk
  clear hr hk
  go_enter Try.func3, Try.ntmps3
  go_wp2_with fail
  refine (few_rd HR.out).mono ?_
  rintro e w1 ⟨v1, rfl, hr1, hb1⟩
  rw [← HK.out] at hr1
  have HR1 := Lib.hid hr1
  have HB1 := Lib.hid hb1
  clear hr1 hb1 HR
  go_wp2_with fail
  refine (add_rd HR1.out (by omega) f t).mono ?_
  rintro e w2 ⟨va, rfl, ho, hb⟩
  have HB2 := Lib.hid (below_step HB1.out hb)
  have HR2 := Lib.hid (HR1.out.below hb)
  have HA2 := Lib.hid ho.rd
  clear ho hb HR1
  obtain ⟨EA, hEA⟩ : ∃ E, E = addE k f t := ⟨_, rfl⟩
  rw [← hEA]
  have HEA := Lib.hid hEA
  clear hEA
  go_wp2_with fail
  refine (drop_rd HR2.out (by omega) f t).mono ?_
  rintro e w3 ⟨vd, rfl, ho, hb⟩
  have HB3 := Lib.hid (below_step HB2.out hb)
  have HR3 := Lib.hid (HR2.out.below hb)
  have HA3 := Lib.hid (HA2.out.below hb)
  have HD3 := Lib.hid ho.rd
  clear ho hb HR2 HA2
  obtain ⟨ED, hED⟩ : ∃ E, E = dropE k f t := ⟨_, rfl⟩
  rw [← hED]
  have HED := Lib.hid hED
  clear hED
  go_wp2_with fail
  refine (may_rd HR3.out (by omega)).mono ?_
  rintro e w4 ⟨rfl, hb⟩
  have HB4 := Lib.hid (below_step HB3.out hb)
  have HR4 := Lib.hid (HR3.out.below hb)
  have HA4 := Lib.hid (HA3.out.below hb)
  have HD4 := Lib.hid (HD3.out.below hb)
  clear hb HR3 HA3 HD3
  by_cases hok : Ok k
  · by_cases hf1 : f < -1
    · have hbad : ¬ (Ok k ∧ -1 ≤ f ∧ 0 ≤ t) := fun q => by omega
      rw [decide_eq_true hok]
      have hea : EA = 1 := HEA.out.trans (addE_bad hbad)
      have hed : ED = 1 := HED.out.trans (dropE_bad hbad)
      have ha := HA4.out
      have hd := HD4.out
      rw [addO_bad (by rw [← HEA.out, hea]; decide)] at ha
      rw [dropO_bad (by rw [← HED.out, hed]; decide)] at hd
      obtain ⟨AA, ac, rfl⟩ := ha.empty
      obtain ⟨DA, dc, rfl⟩ := hd.empty
      subst hea
      subst hed
      clear hbad hok ha hd
      go_wp2_with fail
      refine (awake_any _).mono ?_
      rintro e w9 ⟨rfl, hb1⟩
      have HB9 := Lib.hid (below_step HB4.out hb1)
      clear hb1
      go_wp2_with fail
      go_ret
      exact ⟨rfl, HB9.out⟩
    · by_cases ht1 : t < 0
      · have hbad : ¬ (Ok k ∧ -1 ≤ f ∧ 0 ≤ t) := fun q => by omega
        rw [decide_eq_true hok]
        have hea : EA = 1 := HEA.out.trans (addE_bad hbad)
        have hed : ED = 1 := HED.out.trans (dropE_bad hbad)
        have ha := HA4.out
        have hd := HD4.out
        rw [addO_bad (by rw [← HEA.out, hea]; decide)] at ha
        rw [dropO_bad (by rw [← HED.out, hed]; decide)] at hd
        obtain ⟨AA, ac, rfl⟩ := ha.empty
        obtain ⟨DA, dc, rfl⟩ := hd.empty
        subst hea
        subst hed
        clear hbad hok ha hd
        go_wp2_with fail
        refine (awake_any _).mono ?_
        rintro e w9 ⟨rfl, hb1⟩
        have HB9 := Lib.hid (below_step HB4.out hb1)
        clear hb1
        go_wp2_with fail
        go_ret
        exact ⟨rfl, HB9.out⟩
      · have hg : Ok k ∧ -1 ≤ f ∧ 0 ≤ t := ⟨hok, by omega, by omega⟩
        have HG := Lib.hid hg
        rw [decide_eq_true hok]
        have hrg := many_range hok f t
        unfold most at hrg
        clear hok hg
        go_wp2_with fail
        refine (rmany_rd HR4.out HG.out.1 (by omega) f t).mono ?_
        rintro e w5 ⟨rfl, hb⟩
        have HB5 := Lib.hid (below_step HB4.out hb)
        have HR5 := Lib.hid (HR4.out.below hb)
        have HA5 := Lib.hid (HA4.out.below hb)
        have HD5 := Lib.hid (HD4.out.below hb)
        clear hb HR4 HA4 HD4
        obtain ⟨M, hM⟩ : ∃ M, M = many k f t := ⟨_, rfl⟩
        rw [← hM] at hrg ⊢
        have HM := Lib.hid hM
        have hwp : IntKind.i64.wrap (M + 1) = M + 1 := by rw [IntKind.wrap_i64]; omega
        have hwm : IntKind.i64.wrap (M - 1) = M - 1 := by rw [IntKind.wrap_i64]; omega
        by_cases hmost : M = 1099511627776
        · have hea : EA = 4 := HEA.out.trans (addE_large HG.out (hM.symm.trans hmost))
          have ha := HA5.out
          rw [addO_bad (by rw [← HEA.out, hea]; decide)] at ha
          obtain ⟨AA, ac, rfl⟩ := ha.empty
          subst hea
          have hm0 : M ≠ 0 := by omega
          subst hmost
          clear hM ha
          have HWX := Lib.hid (below_step HB5.out (Below.refl _ _))
          have hed : ED = 0 := HED.out.trans (dropE_ok HG.out (by rw [← HM.out]; exact hm0))
          have hd := HD5.out
          rw [dropO_ok (by rw [← HED.out, hed])] at hd
          have HDD := Lib.hid hd
          subst hed
          clear hd
          go_wp2_with fail
          refine (with_rd HR5.out (by omega) ⟨f, t, 1099511627775⟩).mono ?_
          rintro e w16 ⟨u, rfl, hu, hb⟩
          rw [show (⟨f, t, 1099511627775⟩ : S33) = ⟨f, t, many k f t - 1⟩ from congrArg (S33.mk f t) (by have := HM.out; omega), with_drop HG.out.1 _ _ (by rw [← HM.out]; exact hm0)] at hu
          have HU16 := Lib.hid hu
          have HB16 := Lib.hid (below_step HB5.out hb)
          have HD16 := Lib.hid (HDD.out.below hb)
          clear hb hu HDD
          go_wp2_with fail
          refine (same_eq HD16.out HU16.out (by have := dropL_length k f t; omega)).mono ?_
          rintro e w17 ⟨rfl, hb⟩
          have HB17 := Lib.hid (below_step HB16.out hb)
          clear hb HD16 HU16
          go_wp2_with fail
          refine (awake_any _).mono ?_
          rintro e w9 ⟨rfl, hb1⟩
          have HB9 := Lib.hid (below_step HB17.out hb1)
          clear hb1
          go_wp2_with fail
          go_ret
          exact ⟨rfl, HB9.out⟩
        · have hea : EA = 0 := HEA.out.trans (addE_ok HG.out (by rw [← hM]; exact hmost))
          have ha := HA5.out
          rw [addO_ok (by rw [← HEA.out, hea])] at ha
          have HA5' := Lib.hid ha
          subst hea
          have hlt : M < 1099511627776 := by omega
          clear hM ha
          go_wp2_with fail
          refine (with_rd HR5.out (by omega) ⟨f, t, M + 1⟩).mono ?_
          rintro e w6 ⟨u, rfl, hu, hb⟩
          rw [show (⟨f, t, M + 1⟩ : S33) = ⟨f, t, many k f t + 1⟩ from congrArg (S33.mk f t) (by have := HM.out; omega), with_add HG.out.1] at hu
          have HU6 := Lib.hid hu
          have HB6 := Lib.hid (below_step HB5.out hb)
          have HR6 := Lib.hid (HR5.out.below hb)
          have HA6 := Lib.hid (HA5'.out.below hb)
          have HD6 := Lib.hid (HD5.out.below hb)
          clear hb hu HR5 HA5 HD5 HA5'
          go_wp2_with fail
          refine (same_eq HA6.out HU6.out (by have := addL_len k f t; omega)).mono ?_
          rintro e w7 ⟨rfl, hb⟩
          have HB7 := Lib.hid (below_step HB6.out hb)
          have HR7 := Lib.hid (HR6.out.below hb)
          have HD7 := Lib.hid (HD6.out.below hb)
          clear hb HR6 HA6 HD6 HU6
          by_cases hm0 : M = 0
          · have hed : ED = 2 := HED.out.trans (dropE_none HG.out (HM.out.symm.trans hm0))
            have hd := HD7.out
            rw [dropO_bad (by rw [← HED.out, hed]; decide)] at hd
            obtain ⟨DA, dc, rfl⟩ := hd.empty
            subst hed
            subst hm0
            clear hd hmost hlt
            go_wp2_with fail
            refine (awake_any _).mono ?_
            rintro e w9 ⟨rfl, hb1⟩
            have HB9 := Lib.hid (below_step HB7.out hb1)
            clear hb1
            go_wp2_with fail
            go_ret
            exact ⟨rfl, HB9.out⟩
          · have hed : ED = 0 := HED.out.trans (dropE_ok HG.out (by rw [← HM.out]; exact hm0))
            have hd := HD7.out
            rw [dropO_ok (by rw [← HED.out, hed])] at hd
            have HDD := Lib.hid hd
            subst hed
            clear hd
            go_wp2_with fail
            refine (with_rd HR7.out (by omega) ⟨f, t, M - 1⟩).mono ?_
            rintro e w16 ⟨u, rfl, hu, hb⟩
            rw [show (⟨f, t, M - 1⟩ : S33) = ⟨f, t, many k f t - 1⟩ from congrArg (S33.mk f t) (by have := HM.out; omega), with_drop HG.out.1 _ _ (by rw [← HM.out]; exact hm0)] at hu
            have HU16 := Lib.hid hu
            have HB16 := Lib.hid (below_step HB7.out hb)
            have HD16 := Lib.hid (HDD.out.below hb)
            clear hb hu HDD
            go_wp2_with fail
            refine (same_eq HD16.out HU16.out (by have := dropL_length k f t; omega)).mono ?_
            rintro e w17 ⟨rfl, hb⟩
            have HB17 := Lib.hid (below_step HB16.out hb)
            clear hb HD16 HU16
            go_wp2_with fail
            refine (awake_any _).mono ?_
            rintro e w9 ⟨rfl, hb1⟩
            have HB9 := Lib.hid (below_step HB17.out hb1)
            clear hb1
            go_wp2_with fail
            go_ret
            exact ⟨rfl, HB9.out⟩
  · have hbad : ¬ (Ok k ∧ -1 ≤ f ∧ 0 ≤ t) := fun q => hok q.1
    rw [decide_eq_false hok]
    have hea : EA = 1 := HEA.out.trans (addE_bad hbad)
    have hed : ED = 1 := HED.out.trans (dropE_bad hbad)
    have ha := HA4.out
    have hd := HD4.out
    rw [addO_bad (by rw [← HEA.out, hea]; decide)] at ha
    rw [dropO_bad (by rw [← HED.out, hed]; decide)] at hd
    obtain ⟨AA, ac, rfl⟩ := ha.empty
    obtain ⟨DA, dc, rfl⟩ := hd.empty
    subst hea
    subst hed
    clear hbad hok ha hd
    go_wp2_with fail
    refine (awake_any _).mono ?_
    rintro e w9 ⟨rfl, hb1⟩
    have HB9 := Lib.hid (below_step HB4.out hb1)
    clear hb1
    go_wp2_with fail
    go_ret
    exact ⟨rfl, HB9.out⟩
end Go.Proofs.Ytbkogefcjcokhaa.Ed
