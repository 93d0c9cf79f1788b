/- EdgesSums, walked by hand. -/
import Derived.Test.YtbkogefcjcokhaaFw
set_option linter.unusedVariables false
set_option linter.unusedSimpArgs false
namespace Go.Proofs.Ytbkogefcjcokhaa.Ed
open Go.RowKit Go.Proofs.Ytbkogefcjcokhaa.PAll Go.Proofs.Ytbkogefcjcokhaa.Nm Go.Proofs.YtbkogefcjcokhaaW.PrintWords

theorem addL_length (l : List S33) (f t : Int) : (addL l f t).length ≤ l.length + 1 := by
  induction l with
  | nil => simp [addL]
  | cons e l ih => rw [addL]; split; · simp
                   · split <;> simp <;> omega
theorem addE_inv {l : List S33} {f t : Int} (h : addE l f t = 0) : Ok l ∧ -1 ≤ f ∧ 0 ≤ t ∧ many l f t < most := by
  by_cases hg : Ok l ∧ -1 ≤ f ∧ 0 ≤ t
  · by_cases hm : many l f t = most
    · rw [addE_large hg hm] at h; cases h
    · have := many_range hg.1 f t
      exact ⟨hg.1, hg.2.1, hg.2.2, by omega⟩
  · rw [addE_bad hg] at h; cases h
theorem many_good {l : List S33} {f t : Int} (h : Ok l) (hf : -1 ≤ f) (ht : 0 ≤ t) : manyE l f t = 0 ∧ manyO l f t = many l f t := by
  unfold manyE manyO
  rw [if_pos ⟨h, hf, ht⟩, if_pos ⟨h, hf, ht⟩]
  exact ⟨rfl, rfl⟩

set_option maxHeartbeats 4000000 in
set_option maxRecDepth 100000 in
theorem sums_any (v : Value) (l : List S33) (a b : Int) (w : World) (hr : Rd w v l) (ha : 0 ≤ a ∧ a ≤ 255) (hb : 0 ≤ b ∧ b ≤ 255) :
    Calls Try.prog 5 #[v, .int .u8 a, .int .u8 b] w fun e w' => e = .returned (.bool true) ∧ Below w.heap.size w w' := by
  have HR := Lib.hid hr
  obtain ⟨k, hk⟩ : ∃ k, k = l.take 40 := ⟨_, rfl⟩
  have hkl : k.length ≤ 40 := by rw [hk, List.length_take]; omega
  obtain ⟨f, hf⟩ : ∃ f : Int, f = a % 9 - 1 := ⟨_, rfl⟩
  obtain ⟨t, ht⟩ : ∃ t : Int, t = b % 9 := ⟨_, rfl⟩
  have hf1 : -1 ≤ f ∧ f ≤ 7 := by omega
  have ht1 : 0 ≤ t ∧ t ≤ 8 := by omega
  have HK := Lib.hid hk
  have HF := Lib.hid hf
  have HT := Lib.hid ht
  clear hr hk hf ht
  go_enter Try.func5, Try.ntmps5
  go_wp2_with fail
  refine (few_rd HR.out).mono ?_
  rintro e w1 ⟨v1, rfl, hr1, hb1⟩
  rw [← HK.out] at hr1
  have HR1 := Lib.hid hr1
  have HB1 := Lib.hid hb1
  clear hr1 hb1 HR
  go_wp2_with fail
  rw [← HF.out, ← HT.out]
  refine (add_rd HR1.out (by omega) f t).mono ?_
  rintro e w2 ⟨v2, rfl, ho, hb1⟩
  have HB2 := Lib.hid (below_step HB1.out hb1)
  have HR2 := Lib.hid (HR1.out.below hb1)
  clear hb1
  by_cases hE : addE k f t = 0
  · rw [hE]
    obtain ⟨hok, _, _, hm⟩ := addE_inv hE
    rw [addO_ok hE] at ho
    have HRA := Lib.hid ho.rd
    have hal := addL_length k f t
    have haok := addL_ok k hok f t hf1.1 ht1.1 hm
    have hma := many_addL k hok f t
    have hdl := dropL_addL k hok f t hf1.1 ht1.1 hm
    have hrng := many_range hok f t
    have hm0 : many (addL k f t) f t ≠ 0 := by rw [hma f t, if_pos ⟨rfl, rfl⟩]; omega
    have hdE := dropE_ok ⟨haok, hf1.1, ht1.1⟩ hm0
    have HOK := Lib.hid hok
    have HAOK := Lib.hid haok
    have HMA := Lib.hid hma
    have HDL := Lib.hid hdl
    have HDE := Lib.hid hdE
    clear ho hok hm haok hma hdl hrng hm0 hdE hE
    go_wp2_with fail
    refine (drop_rd HRA.out (by omega) f t).mono ?_
    rintro e w3 ⟨v3, rfl, ho, hb1⟩
    rw [HDE.out]
    rw [dropO_ok HDE.out, HDL.out] at ho
    have HB3 := Lib.hid (below_step HB2.out hb1)
    have HR3 := Lib.hid (HR2.out.below hb1)
    have HRA3 := Lib.hid (HRA.out.below hb1)
    have HRD3 := Lib.hid ho.rd
    clear ho hb1 HR2 HRA
    go_wp2_with fail
    go_loopw [13] (fun vx wr => ∃ x : Int, vx = .int .i64 x ∧ -1 ≤ x ∧ x ≤ 8 ∧ Hid (Below w.heap.size w wr) ∧ Hid (Rd wr v1 k) ∧ Hid (Rd wr v2 (addL k f t)) ∧ Hid (Rd wr v3 k)) (fun vx _ => (8 - intOf vx).toNat)
    case atStart => exact ⟨-1, rfl, by omega, by omega, HB3, HR3, HRA3, HRD3⟩
    case round =>
      obtain ⟨x, rfl, hx0, hx8, hbl, hq1, hq2, hq3⟩ := hrel
      by_cases hx : x < 8
      · go_wp2_with fail
        go_loopw [14] (fun vy wr => ∃ y : Int, vy = .int .i64 y ∧ 0 ≤ y ∧ y ≤ 8 ∧ Hid (Below w.heap.size w wr) ∧ Hid (Rd wr v1 k) ∧ Hid (Rd wr v2 (addL k f t)) ∧ Hid (Rd wr v3 k)) (fun vy _ => (8 - intOf vy).toNat)
        case atStart => exact ⟨0, rfl, by omega, by omega, hbl, hq1, hq2, hq3⟩
        case round =>
          obtain ⟨y, rfl, hy0, hy8, hbl, hq1, hq2, hq3⟩ := hrel
          by_cases hy : y < 8
          · have hgk := many_good HOK.out hx0 hy0
            have hga := many_good HAOK.out hx0 hy0
            rw [HMA.out x y] at hga
            have hrg := many_range HOK.out x y
            unfold most at hrg
            have HGK := Lib.hid hgk
            have hga2 := hga.2
            obtain ⟨M, hM⟩ : ∃ M, M = many k x y + (if x = f ∧ y = t then 1 else 0) := ⟨_, rfl⟩
            rw [← hM] at hga
            have HGA := Lib.hid hga
            have HM := Lib.hid hM
            clear hgk hga hga2 hM
            go_wp2_with fail
            refine (many_rd hq1.out (by omega) x y).mono ?_
            rintro e w4 ⟨rfl, hb1⟩
            have HB4 := Lib.hid (below_step hbl.out hb1)
            have p1 := Lib.hid (hq1.out.below hb1)
            have p2 := Lib.hid (hq2.out.below hb1)
            have p3 := Lib.hid (hq3.out.below hb1)
            clear hb1 hbl hq1 hq2 hq3
            rw [HGK.out.1, HGK.out.2]
            go_wp2_with fail
            refine (many_rd p2.out (by omega) x y).mono ?_
            rintro e w5 ⟨rfl, hb1⟩
            have HB5 := Lib.hid (below_step HB4.out hb1)
            have q1 := Lib.hid (p1.out.below hb1)
            have q2 := Lib.hid (p2.out.below hb1)
            have q3 := Lib.hid (p3.out.below hb1)
            clear hb1 HB4 p1 p2 p3
            rw [HGA.out.1, HGA.out.2]
            go_wp2_with fail
            refine (many_rd q3.out (by omega) x y).mono ?_
            rintro e w6 ⟨rfl, hb1⟩
            have HB6 := Lib.hid (below_step HB5.out hb1)
            have r1 := Lib.hid (q1.out.below hb1)
            have r2 := Lib.hid (q2.out.below hb1)
            have r3 := Lib.hid (q3.out.below hb1)
            clear hb1 HB5 q1 q2 q3
            rw [HGK.out.1, HGK.out.2]
            obtain ⟨n, hn⟩ : ∃ n, n = many k x y := ⟨_, rfl⟩
            have hM := HM.out
            rw [← hn] at hrg hM ⊢
            have hw0 : IntKind.i64.wrap n = n := by rw [IntKind.wrap_i64]; omega
            have hw1 : IntKind.i64.wrap (n + 1) = n + 1 := by rw [IntKind.wrap_i64]; omega
            clear hn HGK HGA HM
            have hwy : IntKind.i64.wrap (y + 1) = y + 1 := by rw [IntKind.wrap_i64]; omega
            by_cases hxf : x = f
            · by_cases hyt : y = t
              · subst hxf
                subst hyt
                rw [if_pos ⟨rfl, rfl⟩] at hM
                subst hM
                go_wp2_with fail
                go_roundw
                case rel => exact ⟨y + 1, rfl, by omega, by omega, HB6, r1, r2, r3⟩
                case measure => simp [intOf]; omega
              · subst hxf
                have hb2 : (y == t) = false := by simpa using hyt
                rw [if_neg (fun q => hyt q.2), Int.add_zero] at hM
                subst hM
                go_wp2_with fail
                go_roundw
                case rel => exact ⟨y + 1, rfl, by omega, by omega, HB6, r1, r2, r3⟩
                case measure => simp [intOf]; omega
            · have hb2 : (x == f) = false := by simpa using hxf
              rw [if_neg (fun q => hxf q.1), Int.add_zero] at hM
              subst hM
              go_wp2_with fail
              go_roundw
              case rel => exact ⟨y + 1, rfl, by omega, by omega, HB6, r1, r2, r3⟩
              case measure => simp [intOf]; omega
          · have hwx : IntKind.i64.wrap (x + 1) = x + 1 := by rw [IntKind.wrap_i64]; omega
            go_wp2_with fail
            go_roundw
            case rel => exact ⟨x + 1, rfl, by omega, by omega, hbl, hq1, hq2, hq3⟩
            case measure => simp [intOf]; omega
      · go_wp2_with fail
        refine (awake_any _).mono ?_
        rintro e w4 ⟨rfl, hb1⟩
        have HB4 := Lib.hid (below_step hbl.out hb1)
        clear hb1
        go_wp2_with fail
        go_ret
        exact ⟨rfl, HB4.out⟩
  · clear ho
    have hE1 : addE k f t = 1 ∨ addE k f t = 4 := by
      unfold addE at *
      split
      · split
        · exact .inr rfl
        · rename_i h1 h2; rw [if_pos h1, if_neg h2] at hE; exact absurd rfl hE
      · exact .inl rfl
    generalize addE k f t = E at *
    go_wp2_with fail
    refine (awake_any _).mono ?_
    rintro e w3 ⟨rfl, hb1⟩
    have HB3 := Lib.hid (below_step HB2.out hb1)
    clear hb1
    go_wp2_with fail
    go_ret
    exact ⟨rfl, HB3.out⟩
end Go.Proofs.Ytbkogefcjcokhaa.Ed
