/- EdgesWays, walked by hand. -/
import Derived.Test.YtbkogefcjcokhaaRi
set_option linter.unusedVariables false
set_option linter.unusedSimpArgs false
namespace Go.Proofs.Ytbkogefcjcokhaa.Ed
open Go.RowKit Go.Proofs.Ytbkogefcjcokhaa.PAll Go.Proofs.Ytbkogefcjcokhaa.Nm Go.Proofs.YtbkogefcjcokhaaW.PrintWords

theorem many_good' {l : List S33} {f t : Int} (h : Ok l) (hf : -1 ≤ f) (ht : 0 ≤ t) : manyE l f t = 0 ∧ manyO l f t = many l f t := by
  unfold manyE manyO
  rw [if_pos ⟨h, hf, ht⟩, if_pos ⟨h, hf, ht⟩]
  exact ⟨rfl, rfl⟩

set_option maxHeartbeats 4000000 in
set_option maxRecDepth 100000 in
theorem ways_any (v : Value) (l : List S33) (a b : Int) (w : World) (hr : Rd w v l) (ha : 0 ≤ a ∧ a ≤ 255) (hb : 0 ≤ b ∧ b ≤ 255) :
    Calls Try.prog 7 #[v, .int .u8 a, .int .u8 b] w fun e w' => e = .returned (.bool true) ∧ Below w.heap.size w w' := by
  have HR := Lib.hid hr
  obtain ⟨k, hk⟩ : ∃ k, k = l.take 40 := ⟨_, rfl⟩
  have hkl : k.length ≤ 40 := by rw [hk, List.length_take]; omega
  obtain ⟨f, hf⟩ : ∃ f : Int, f = a % 9 - 1 := ⟨_, rfl⟩
  obtain ⟨t, ht⟩ : ∃ t : Int, t = b % 9 := ⟨_, rfl⟩
  have hf1 : -1 ≤ f ∧ f ≤ 7 := by omega
  have ht1 : 0 ≤ t ∧ t ≤ 8 := by omega
  have HK := Lib.hid hk
  have HF := Lib.hid hf
  have HT := Lib.hid ht
  clear hr hk hf ht
  go_enter Try.func7, Try.ntmps7
  go_wp2_with fail
  refine (few_rd HR.out).mono ?_
  rintro e w1 ⟨v1, rfl, hr1, hb1⟩
  rw [← HK.out] at hr1
  have HR1 := Lib.hid hr1
  have HB1 := Lib.hid hb1
  clear hr1 hb1 HR
  go_wp2_with fail
  refine (check_rd HR1.out (by omega)).mono ?_
  rintro e w2 ⟨rfl, hb1⟩
  have HB2 := Lib.hid (below_step HB1.out hb1)
  have HR2 := Lib.hid (HR1.out.below hb1)
  clear hb1 HR1
  by_cases hok : Ok k
  · rw [if_pos hok]
    have hnx := next_good (f := f) ⟨hok, hf1.1⟩
    have hbk := back_good (f := t) ⟨hok, ht1.1⟩
    have hmg := many_good' hok hf1.1 ht1.1
    have hns := next_sorted f hok
    have hbs := back_sorted t hok
    have hnl := someL_length (sel33 f) k
    have hbl := someL_length (sel34 t) k
    have hn : decide (t ∈ someL (sel33 f) k) = decide (0 < many k f t) := decide_eq_decide.2 (mem_next hok)
    have hbm : decide (f ∈ someL (sel34 t) k) = decide (0 < many k f t) := decide_eq_decide.2 (mem_back hok)
    obtain ⟨N, hN⟩ : ∃ N, N = someL (sel33 f) k := ⟨_, rfl⟩
    obtain ⟨B, hB⟩ : ∃ B, B = someL (sel34 t) k := ⟨_, rfl⟩
    rw [← hN] at hnx hns hnl hn
    rw [← hB] at hbk hbs hbl hbm
    have HNX := Lib.hid hnx
    have HBK := Lib.hid hbk
    have HMG := Lib.hid hmg
    have HNS := Lib.hid hns
    have HBS := Lib.hid hbs
    have HN := Lib.hid hn
    have HBM := Lib.hid hbm
    clear hnx hbk hmg hns hbs hn hbm hN hB hok
    go_wp2_with fail
    rw [← HF.out, ← HT.out]
    refine (next_rd HR2.out (by omega) f).mono ?_
    rintro e w3 ⟨nv, rfl, ho, hb1⟩
    rw [HNX.out.1]
    rw [HNX.out.2] at ho
    have HB3 := Lib.hid (below_step HB2.out hb1)
    have HR3 := Lib.hid (HR2.out.below hb1)
    have HN3 := Lib.hid ho.rd
    clear ho hb1 HR2
    go_wp2_with fail
    refine (back_rd HR3.out (by omega) t).mono ?_
    rintro e w4 ⟨bv, rfl, ho, hb1⟩
    rw [HBK.out.1]
    rw [HBK.out.2] at ho
    have HB4 := Lib.hid (below_step HB3.out hb1)
    have HR4 := Lib.hid (HR3.out.below hb1)
    have HN4 := Lib.hid (HN3.out.below hb1)
    have HQ4 := Lib.hid ho.rd
    clear ho hb1 HR3 HN3
    go_wp2_with fail
    refine (many_rd HR4.out (by omega) f t).mono ?_
    rintro e w5 ⟨rfl, hb1⟩
    rw [HMG.out.1, HMG.out.2]
    have HB5 := Lib.hid (below_step HB4.out hb1)
    have HN5 := Lib.hid (HN4.out.below hb1)
    have HQ5 := Lib.hid (HQ4.out.below hb1)
    clear hb1 HR4 HN4 HQ4
    obtain ⟨NA, nc, rfl, hnc, hNC⟩ := HN5.out
    obtain ⟨QA, qc, rfl, hqc, hQC⟩ := HQ5.out
    have HNC := Lib.hid hNC
    have HQC := Lib.hid hQC
    obtain ⟨mm, hmm⟩ : ∃ mm, mm = many k f t := ⟨_, rfl⟩
    have hn2 := HN.out
    have hb2 := HBM.out
    rw [← hmm] at hn2 hb2 ⊢
    have HN2 := Lib.hid hn2
    have HB2' := Lib.hid hb2
    clear hNC hQC hmm hn2 hb2
    go_wp2_with fail
    go_loopw [15] (fun vi wr => ∃ i : Nat, vi = .int .i64 i ∧ 1 ≤ i ∧ i ≤ N.length + 1 ∧ Hid (Below w5.heap.size w5 wr)) (fun vi _ => (N.length + 1 - (intOf vi).toNat))
    case atStart => exact ⟨1, rfl, by omega, by omega, Below.refl _ _⟩
    case round =>
      obtain ⟨i, rfl, hi0, hi1, hbr⟩ := hrel
      by_cases hi : i < N.length
      · obtain ⟨ad, rfl, c0⟩ := rdI_cell (Kd.C_below HNC.out hbr.out) i hi
        obtain ⟨ad', e', c1⟩ := rdI_cell (Kd.C_below HNC.out hbr.out) (i - 1) (by omega)
        obtain rfl := Option.some.inj e'
        have hlt := sorted_at HNS.out i hi0 hi
        have hw1 : IntKind.i64.wrap ((i : Int) - 1) = ((i - 1 : Nat) : Int) := by rw [IntKind.wrap_i64]; omega
        have hle : decide (N[i] ≤ N[i - 1]) = false := by simp; omega
        have hle2 : ¬ N[i] ≤ N[i - 1] := by omega
        have hi2 : (i - 1 : Nat) < N.length := by omega
        have hi3 : ((i - 1 : Nat) : Int) < (N.length : Int) := by omega
        generalize N[i] = x at *
        generalize N[i - 1] = y at *
        go_wp2_with fail
        go_quiet (fail)
        go_wp2
        refine ⟨⟨i + 1, by go_num, by omega, by omega, pw_below_drewN hbr.out _⟩, ?_⟩
        simp [intOf]; omega
      · go_wp2_with fail
        go_loopw [16] (fun vi wq => ∃ j : Nat, vi = .int .i64 j ∧ 1 ≤ j ∧ j ≤ B.length + 1 ∧ Hid (Below w5.heap.size w5 wq)) (fun vi _ => (B.length + 1 - (intOf vi).toNat))
        case atStart => exact ⟨1, rfl, by omega, by omega, hbr⟩
        case round =>
          clear hi hi0 hi1 hbr
          obtain ⟨j, rfl, hj0, hj1, hbq⟩ := hrel
          by_cases hj : j < B.length
          · obtain ⟨ad, rfl, c0⟩ := rdI_cell (Kd.C_below HQC.out hbq.out) j hj
            obtain ⟨ad', e', c1⟩ := rdI_cell (Kd.C_below HQC.out hbq.out) (j - 1) (by omega)
            obtain rfl := Option.some.inj e'
            have hlt := sorted_at HBS.out j hj0 hj
            have hw1 : IntKind.i64.wrap ((j : Int) - 1) = ((j - 1 : Nat) : Int) := by rw [IntKind.wrap_i64]; omega
            have hle : decide (B[j] ≤ B[j - 1]) = false := by simp; omega
            have hle2 : ¬ B[j] ≤ B[j - 1] := by omega
            have hj2 : (j - 1 : Nat) < B.length := by omega
            have hj3 : ((j - 1 : Nat) : Int) < (B.length : Int) := by omega
            generalize B[j] = x at *
            generalize B[j - 1] = y at *
            go_wp2_with fail
            go_quiet (fail)
            go_wp2
            refine ⟨⟨j + 1, by go_num, by omega, by omega, pw_below_drewN hbq.out _⟩, ?_⟩
            simp [intOf]; omega
          · have RN := Lib.hid (show RdI _ (.slice NA N.length nc) N from ⟨NA, nc, rfl, hnc, Kd.C_below HNC.out hbq.out⟩)
            have RQ := Lib.hid (show RdI _ (.slice QA B.length qc) B from ⟨QA, qc, rfl, hqc, Kd.C_below HQC.out hbq.out⟩)
            have HBq := Lib.hid (below_step HB5.out hbq.out)
            clear hbq hj0 hj1 HNC HQC
            go_wp2_with fail
            refine (has_rd RN.out (by omega) t).mono ?_
            rintro e w7 ⟨rfl, hb1⟩
            have HB7 := Lib.hid (below_step HBq.out hb1)
            have RQ7 := Lib.hid (RQ.out.below hb1)
            clear hb1 RN RQ HBq
            rw [HN2.out]
            obtain ⟨q, hq⟩ : ∃ q, q = decide (0 < mm) := ⟨_, rfl⟩
            rw [← hq]
            have HB2'' := HB2'.out
            rw [← hq] at HB2''
            have HB2h := Lib.hid HB2''
            clear HB2'' HB2' HN2
            go_wp2_with fail
            refine (has_rd RQ7.out (by omega) f).mono ?_
            rintro e w8 ⟨rfl, hb1⟩
            have HB8 := Lib.hid (below_step HB7.out hb1)
            clear hb1 RQ7 HB7
            rw [HB2h.out]
            clear HB2h
            go_wp2_with fail
            refine (awake_any _).mono ?_
            rintro e w9 ⟨rfl, hb1⟩
            have HB9 := Lib.hid (below_step HB8.out hb1)
            clear hb1 HB8
            go_wp2_with fail
            go_ret
            exact ⟨rfl, HB9.out⟩
  · rw [if_neg hok]
    go_wp2_with fail
    refine (awake_any _).mono ?_
    rintro e w9 ⟨rfl, hb1⟩
    have HB9 := Lib.hid (below_step HB2.out hb1)
    clear hb1
    go_wp2_with fail
    go_ret
    exact ⟨rfl, HB9.out⟩
end Go.Proofs.Ytbkogefcjcokhaa.Ed
