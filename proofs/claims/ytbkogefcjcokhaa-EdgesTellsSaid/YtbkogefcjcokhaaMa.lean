/- The contract of ref.May, walked by hand. PRINTED by gen_may.py of this work. -/
import Derived.Test.YtbkogefcjcokhaaFw
import Derived.Test.YtbkogefcjcokhaaFd
import Derived.Test.YtbkogefcjcokhaaPAllx4
set_option linter.unusedVariables false
set_option linter.unusedSimpArgs false
namespace Go.Proofs.Ytbkogefcjcokhaa.Ed
open Go.RowKit Go.Proofs.Ytbkogefcjcokhaa.PAll Go.Proofs.Ytbkogefcjcokhaa.Nm Go.Proofs.YtbkogefcjcokhaaW.PrintWords

theorem less_any (a b : S33) (w : World) : Calls Try.prog 30 #[.agg #[.int .i64 a.f0, .int .i64 a.f1, .int .i64 a.f2], .agg #[.int .i64 b.f0, .int .i64 b.f1, .int .i64 b.f2]] w fun e w' => e = .returned (.bool (decide (klt a b))) ∧ Below w.heap.size w w' := by
  refine graftwoodref11_Less.calls a.f0 a.f1 a.f2 b.f0 b.f1 b.f2 _ w ?_
  unfold graftwoodref11_Less.f
  by_cases h1 : a.f0 < b.f0
  · rw [if_pos h1, decide_eq_true (klt_def.2 (.inl h1))]
  · rw [if_neg h1]
    by_cases h2 : a.f0 = b.f0
    · rw [if_pos h2]
      congr 1
      rw [decide_eq_decide, klt_def]
      omega
    · rw [if_neg h2, decide_eq_false (klt_not (by omega))]
theorem ok_take {l : List S33} (h : Ok l) (i : Nat) : Ok (l.take i) := ⟨fun x hx => h.1 x (List.mem_of_mem_take hx), h.2.sublist (List.take_sublist i l)⟩
theorem ok_step {l : List S33} {i : Nat} (hi : i < l.length) : Ok (l.take (i + 1)) ↔ Ok (l.take i) ∧ okE l[i] ∧ (∀ h : 0 < i, klt (l[i - 1]'(by omega)) l[i]) := by
  constructor
  · intro h
    refine ⟨?_, ?_, fun h0 => ?_⟩
    · have := ok_take h i
      rw [List.take_take, Nat.min_eq_left (by omega)] at this
      exact this
    · exact h.1 _ (List.mem_iff_getElem.2 ⟨i, by rw [List.length_take]; omega, by rw [List.getElem_take]⟩)
    · have := List.pairwise_iff_getElem.1 h.2 (i - 1) i (by rw [List.length_take]; omega) (by rw [List.length_take]; omega) (by omega)
      rw [List.getElem_take, List.getElem_take] at this
      exact this
  · rintro ⟨h1, h2, h3⟩
    rw [List.take_add_one, List.getElem?_eq_getElem hi]
    refine ⟨fun x hx => ?_, ?_⟩
    · rcases List.mem_append.1 hx with hx | hx
      · exact h1.1 x hx
      · obtain rfl : x = l[i] := by simpa using hx
        exact h2
    · rw [List.pairwise_append]
      refine ⟨h1.2, by simp, fun x hx y hy => ?_⟩
      obtain rfl : y = l[i] := by simpa using hy
      obtain ⟨j, hj, rfl⟩ := List.mem_iff_getElem.1 hx
      rw [List.length_take] at hj
      rw [List.getElem_take]
      have h4 := h3 (by omega)
      by_cases hji : j = i - 1
      · subst hji; exact h4
      · have h5 := List.pairwise_iff_getElem.1 h1.2 j (i - 1) (by rw [List.length_take]; omega) (by rw [List.length_take]; omega) (by omega)
        rw [List.getElem_take, List.getElem_take] at h5
        exact klt_trans h5 h4

set_option maxHeartbeats 8000000 in
set_option maxRecDepth 100000 in
theorem may_any (A : Option Addr) (c : Nat) (l : List S33) (w : World) (hl : l.length ≤ 1000) (hr : Kd.C k33 w A l.length l) (hc : l.length ≤ c) :
    Calls Try.prog 12 #[.slice A l.length c] w fun e w' => e = .returned (.bool (decide (Ok l))) ∧ Below w.heap.size w w' := by
  have HR := Aside0.mk hr
  have hu33 := Try.underlying33
  clear hr
  go_enter Try.func12, Try.ntmps12
  go_wp2
  go_loopw [3] (fun vi wr => ∃ i : Nat, vi = .int .i64 i ∧ i ≤ l.length ∧ Hid (Ok (l.take i)) ∧ Hid (Below w.heap.size w wr)) (fun vi _ => l.length - (intOf vi).toNat)
  case atStart => exact ⟨0, rfl, by omega, by rw [List.take_zero]; exact Ok.nil, Below.refl _ _⟩
  case round =>
    obtain ⟨i, rfl, hil, hpre, hbl⟩ := hrel
    by_cases hi : i < l.length
    · obtain ⟨ad, rfl, h0, h1, h2⟩ := at_T33 (Kd.C_below HR.out hbl.out) (i : Int) (by omega) (by omega)
      rw [Int.toNat_natCast, rd_nat l i hi] at h0 h1 h2
      have hstep := ok_step hi
      obtain ⟨e, he⟩ : ∃ e, e = l[i] := ⟨_, rfl⟩
      rw [← he] at h0 h1 h2
      have hbad : (¬ okE e) → decide (Ok l) = false := fun q => decide_eq_false fun h => q (by rw [he]; exact (hstep.1 (ok_take h (i + 1))).2.1)
      by_cases t0 : e.f0 < -1
      · have d0 : decide (e.f0 < -1) = true := decide_eq_true t0
        have HD := Lib.hid (hbad (by unfold okE most; omega))
        clear hbad hstep he hpre
        go_upto_region 4 with (fail)
        go_quiet (fail)
        go_wp2
        go_ret
        exact ⟨by rw [HD.out]; rfl, pw_below_drewN hbl.out _⟩
      · have d0 : decide (e.f0 < -1) = false := decide_eq_false t0
        by_cases t1 : e.f1 < 0
        · have d1 : decide (e.f1 < 0) = true := decide_eq_true t1
          have HD := Lib.hid (hbad (by unfold okE most; omega))
          clear hbad hstep he hpre
          go_upto_region 4 with (fail)
          go_quiet (fail)
          go_wp2
          go_ret
          exact ⟨by rw [HD.out]; rfl, pw_below_drewN hbl.out _⟩
        · have d1 : decide (e.f1 < 0) = false := decide_eq_false t1
          by_cases t2 : e.f2 < 1
          · have d2 : decide (e.f2 < 1) = true := decide_eq_true t2
            have HD := Lib.hid (hbad (by unfold okE most; omega))
            clear hbad hstep he hpre
            go_upto_region 4 with (fail)
            go_quiet (fail)
            go_wp2
            go_ret
            exact ⟨by rw [HD.out]; rfl, pw_below_drewN hbl.out _⟩
          · have d2 : decide (e.f2 < 1) = false := decide_eq_false t2
            by_cases t3 : 1099511627776 < e.f2
            · have d3 : decide (1099511627776 < e.f2) = true := decide_eq_true t3
              have HD := Lib.hid (hbad (by unfold okE most; omega))
              clear hbad hstep he hpre
              go_upto_region 4 with (fail)
              go_quiet (fail)
              go_wp2
              go_ret
              exact ⟨by rw [HD.out]; rfl, pw_below_drewN hbl.out _⟩
            · have d3 : decide (1099511627776 < e.f2) = false := decide_eq_false t3
              have hoke : okE e := by unfold okE most; omega
              by_cases hi0 : i = 0
              · have d4 : decide (0 < i) = false := decide_eq_false (by omega)
                have d5 : decide ((0 : Int) < (i : Int)) = false := decide_eq_false (by omega)
                have HS : Hid (Ok (l.take (i + 1))) := hstep.2 ⟨hpre.out, by rw [← he]; exact hoke, fun h => absurd h (by omega)⟩
                clear hbad hstep he hpre hoke hi0
                go_upto_region 4 with (fail)
                go_quiet (fail)
                go_wp2
                refine ⟨⟨i + 1, by go_num, by omega, HS, pw_below_drewN hbl.out _⟩, ?_⟩
                simp [intOf]; omega
              · have d4 : decide (0 < i) = true := decide_eq_true (by omega)
                have d5 : decide ((0 : Int) < (i : Int)) = true := decide_eq_true (by omega)
                have hi1 : 0 < i := by omega
                obtain ⟨ad', e', g0, g1, g2⟩ := at_T33 (Kd.C_below HR.out hbl.out) ((i - 1 : Nat) : Int) (by omega) (by omega)
                obtain rfl := Option.some.inj e'
                rw [Int.toNat_natCast, rd_nat l (i - 1) (by omega)] at g0 g1 g2
                obtain ⟨p, hp⟩ : ∃ p, p = l[i - 1] := ⟨_, rfl⟩
                rw [← hp] at g0 g1 g2
                have hw1 : IntKind.i64.wrap ((i : Int) - 1) = ((i - 1 : Nat) : Int) := by rw [IntKind.wrap_i64]; omega
                have hi2 : (i - 1 : Nat) < l.length := by omega
                have hi3 : ((i - 1 : Nat) : Int) < (l.length : Int) := by omega
                have HO : Aside0 (∀ w : World, Calls Try.prog 30 #[.agg #[.int .i64 p.f0, .int .i64 p.f1, .int .i64 p.f2], .agg #[.int .i64 e.f0, .int .i64 e.f1, .int .i64 e.f2]] w fun en w' => en = .returned (.bool (decide (klt p e))) ∧ Below w.heap.size w w') := ⟨fun w => less_any p e w⟩
                by_cases hk : klt p e
                · have HS : Hid (Ok (l.take (i + 1))) := hstep.2 ⟨hpre.out, by rw [← he]; exact hoke, fun h => by rw [← he, ← hp]; exact hk⟩
                  rw [decide_eq_true hk] at HO
                  clear hbad hstep he hpre hoke hp hk
                  go_upto_region 4 with (fail)
                  go_region_held3 (fun w' => w'.cell? (ad.add (i * 3)) = some (.int .i64 e.f0) ∧ w'.cell? ⟨(ad.add (i * 3)).block, (ad.add (i * 3)).off + 1, none⟩ = some (.int .i64 e.f1) ∧ w'.cell? ⟨(ad.add (i * 3)).block, (ad.add (i * 3)).off + 2, none⟩ = some (.int .i64 e.f2) ∧ w'.cell? (ad.add ((i - 1) * 3)) = some (.int .i64 p.f0) ∧ w'.cell? ⟨(ad.add ((i - 1) * 3)).block, (ad.add ((i - 1) * 3)).off + 1, none⟩ = some (.int .i64 p.f1) ∧ w'.cell? ⟨(ad.add ((i - 1) * 3)).block, (ad.add ((i - 1) * 3)).off + 2, none⟩ = some (.int .i64 p.f2)) (first | exact ⟨h0, h1, h2, g0, g1, g2⟩ | exact ⟨pw_cell_below hb2 h0, pw_cell_below hb2 h1, pw_cell_below hb2 h2, pw_cell_below hb2 g0, pw_cell_below hb2 g1, pw_cell_below hb2 g2⟩)
                    (first | (go_at_call 30; refine (HO.out _).mono ?_; rintro en w2 ⟨rfl, hb2⟩))
                  have HBL := Lib.hid (below_then hbl.out hbl.out.size (show Below _ _ w2 from ⟨hb2.os, hb2.tape, hb2.output, hb2.size, hb2.block⟩))
                  clear hb2 HO h0 h1 h2 g0 g1 g2
                  go_wp2
                  go_roundw
                  case rel => exact ⟨i + 1, by go_num, by omega, HS, HBL⟩
                  case measure => simp [intOf]; omega
                · have HD := Lib.hid (show decide (Ok l) = false from decide_eq_false fun h => hk (by have := (hstep.1 (ok_take h (i + 1))).2.2 hi1; rw [← he, ← hp] at this; exact this))
                  rw [decide_eq_false hk] at HO
                  clear hbad hstep he hpre hoke hp hk
                  go_upto_region 4 with (fail)
                  go_region_held3 (fun w' => w'.cell? (ad.add (i * 3)) = some (.int .i64 e.f0) ∧ w'.cell? ⟨(ad.add (i * 3)).block, (ad.add (i * 3)).off + 1, none⟩ = some (.int .i64 e.f1) ∧ w'.cell? ⟨(ad.add (i * 3)).block, (ad.add (i * 3)).off + 2, none⟩ = some (.int .i64 e.f2) ∧ w'.cell? (ad.add ((i - 1) * 3)) = some (.int .i64 p.f0) ∧ w'.cell? ⟨(ad.add ((i - 1) * 3)).block, (ad.add ((i - 1) * 3)).off + 1, none⟩ = some (.int .i64 p.f1) ∧ w'.cell? ⟨(ad.add ((i - 1) * 3)).block, (ad.add ((i - 1) * 3)).off + 2, none⟩ = some (.int .i64 p.f2)) (first | exact ⟨h0, h1, h2, g0, g1, g2⟩ | exact ⟨pw_cell_below hb2 h0, pw_cell_below hb2 h1, pw_cell_below hb2 h2, pw_cell_below hb2 g0, pw_cell_below hb2 g1, pw_cell_below hb2 g2⟩)
                    (first | (go_at_call 30; refine (HO.out _).mono ?_; rintro en w2 ⟨rfl, hb2⟩))
                  have HBL := Lib.hid (below_then hbl.out hbl.out.size (show Below _ _ w2 from ⟨hb2.os, hb2.tape, hb2.output, hb2.size, hb2.block⟩))
                  clear hb2 HO h0 h1 h2 g0 g1 g2
                  go_wp2
                  go_ret
                  exact ⟨by rw [HD.out]; rfl, HBL.out⟩
    · obtain rfl : i = l.length := by omega
      have hok : Ok l := by have := hpre.out; rwa [List.take_length] at this
      have HD := Lib.hid (decide_eq_true hok)
      clear hok hpre
      go_wp2_with fail
      go_ret
      exact ⟨by rw [HD.out]; rfl, hbl.out⟩
theorem may_rd {v : Value} {l : List S33} {w : World} (h : Rd w v l) (hl : l.length ≤ 1000) : Calls Try.prog 12 #[v] w fun e w' => e = .returned (.bool (decide (Ok l))) ∧ Below w.heap.size w w' := by
  obtain ⟨A, c, rfl, hc, hA, hr⟩ := h
  exact may_any A c l w hl hr hc
end Go.Proofs.Ytbkogefcjcokhaa.Ed
