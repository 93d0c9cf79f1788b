-- WRITTEN FOR THIS CLAIM by a program of this session (a copy of the print with given functions)
import Derived.Test.YtgldbbgcdpgbcaaPAllx0
import Derived.Test.YtgldbbgcdpgbcaaPAllx1
namespace Go.Proofs.Ytgldbbgcdpgbcaa.PAll
open Go.RowKit Go.Proofs.YtgldbbgcdpgbcaaW.PrintWords Go.Proofs.YtgldbbgcdpgbcaaW.PrintLast Go.Proofs.YtgldbbgcdpgbcaaW.PrintMore
attribute [local go_sem] max2_int min2_int max_two min_two max_three min_three max_four min_four   -- for this text's walks alone
set_option linter.unusedVariables false
set_option linter.unusedSimpArgs false

/-! ### graftwoodlaw02_NumberOrder: function 3 -/
mutual
def graftwoodlaw02_NumberOrder.j0 : Nat → ByteArray → ByteArray → ByteArray → Int → Int → Int → Bool → Option (Bool)
  | 0, _, _, _, _, _, _, _ => none
  | k + 1, x0, x1, x2, x7, x9, x11, x54 => if x54 = true then ((number_May.f x0).bind fun t132 => (if t132 = true then ((number_May.f x1).bind fun t133 => (if t133 = true then ((number_May.f x2).bind fun t134 => (if t134 = true then (some false) else ((graftwoodlaw02_awake.f k).bind fun t135 => (some t135)))) else ((graftwoodlaw02_awake.f k).bind fun t136 => (some t136)))) else ((graftwoodlaw02_awake.f k).bind fun t137 => (some t137)))) else (if x7 ≤ 0 then (if x9 ≤ 0 then (if x11 > 0 then (graftwoodlaw02_NumberOrder.j1 k x0 x1 x7 true) else (if x7 ≥ 0 then (if x9 ≥ 0 then (if x11 < 0 then (graftwoodlaw02_NumberOrder.j1 k x0 x1 x7 true) else (graftwoodlaw02_NumberOrder.j1 k x0 x1 x7 ((x7 == 0) != (x0.toList == x1.toList)))) else (graftwoodlaw02_NumberOrder.j1 k x0 x1 x7 ((x7 == 0) != (x0.toList == x1.toList)))) else (graftwoodlaw02_NumberOrder.j1 k x0 x1 x7 ((x7 == 0) != (x0.toList == x1.toList))))) else (if x7 ≥ 0 then (if x9 ≥ 0 then (if x11 < 0 then (graftwoodlaw02_NumberOrder.j1 k x0 x1 x7 true) else (graftwoodlaw02_NumberOrder.j1 k x0 x1 x7 ((x7 == 0) != (x0.toList == x1.toList)))) else (graftwoodlaw02_NumberOrder.j1 k x0 x1 x7 ((x7 == 0) != (x0.toList == x1.toList)))) else (graftwoodlaw02_NumberOrder.j1 k x0 x1 x7 ((x7 == 0) != (x0.toList == x1.toList))))) else (if x7 ≥ 0 then (if x9 ≥ 0 then (if x11 < 0 then (graftwoodlaw02_NumberOrder.j1 k x0 x1 x7 true) else (graftwoodlaw02_NumberOrder.j1 k x0 x1 x7 ((x7 == 0) != (x0.toList == x1.toList)))) else (graftwoodlaw02_NumberOrder.j1 k x0 x1 x7 ((x7 == 0) != (x0.toList == x1.toList)))) else (graftwoodlaw02_NumberOrder.j1 k x0 x1 x7 ((x7 == 0) != (x0.toList == x1.toList)))))
def graftwoodlaw02_NumberOrder.j1 : Nat → ByteArray → ByteArray → Int → Bool → Option (Bool)
  | 0, _, _, _, _ => none
  | k + 1, x0, x1, x7, x100 => if x100 = true then (some false) else ((number_Next.f x0).bind fun bt138 => ((number_Cmp.f k x0 bt138.1).bind fun bt140 => ((number_Cmp.f k bt138.1 x1).bind fun bt142 => (if bt138.2 = 0 then (if bt140.2 = 0 then (if bt142.2 = 0 then (if bt140.1 = (-1) then (if x7 < 0 then (graftwoodlaw02_NumberOrder.j2 k x0 x1 (decide (bt142.1 > 0))) else (graftwoodlaw02_NumberOrder.j2 k x0 x1 false)) else (graftwoodlaw02_NumberOrder.j2 k x0 x1 true)) else (graftwoodlaw02_NumberOrder.j2 k x0 x1 true)) else (graftwoodlaw02_NumberOrder.j2 k x0 x1 true)) else (graftwoodlaw02_NumberOrder.j2 k x0 x1 true)))))
def graftwoodlaw02_NumberOrder.j2 : Nat → ByteArray → ByteArray → Bool → Option (Bool)
  | 0, _, _, _ => none
  | k + 1, x0, x1, x139 => if x139 = true then (some false) else (if x1.size + 1 ≤ 9223372036854775807 then ((number_Cmp.f k x0 (x1 ++ (⟨#[48]⟩ : ByteArray))).bind fun bt144 => (if bt144.2 = 0 then (if (x1.size : Int) < (x0.size : Int) then ((graftwoodlaw02_awake.f k).bind fun t146 => (some t146)) else (if bt144.1 < 0 then ((graftwoodlaw02_awake.f k).bind fun t147 => (some t147)) else (if x1.toList = ([48] : List UInt8) then ((graftwoodlaw02_awake.f k).bind fun t148 => (some t148)) else (some false)))) else ((graftwoodlaw02_awake.f k).bind fun t149 => (some t149)))) else (none))
end
def graftwoodlaw02_NumberOrder.f (k : Nat) (a0 : ByteArray) (a1 : ByteArray) (a2 : ByteArray) : Option (Bool) := (graftwoodlaw01_Few.f a0).bind fun t123 => ((graftwoodlaw01_Few.f a1).bind fun t124 => ((graftwoodlaw01_Few.f a2).bind fun t125 => ((number_Cmp.f k t123 t124).bind fun bt126 => ((number_Cmp.f k t124 t125).bind fun bt128 => ((number_Cmp.f k t123 t125).bind fun bt130 => (if bt126.2 = 0 then (if bt128.2 = 0 then (graftwoodlaw02_NumberOrder.j0 k t123 t124 t125 bt126.1 bt128.1 bt130.1 (bt130.2 != 0)) else (graftwoodlaw02_NumberOrder.j0 k t123 t124 t125 bt126.1 bt128.1 bt130.1 true)) else (graftwoodlaw02_NumberOrder.j0 k t123 t124 t125 bt126.1 bt128.1 bt130.1 true)))))))
theorem graftwoodlaw02_NumberOrder.mono_l : ∀ k, (∀ y0 y1 y2 y3 y4 y5 y6, LeO (graftwoodlaw02_NumberOrder.j0 k y0 y1 y2 y3 y4 y5 y6) (graftwoodlaw02_NumberOrder.j0 (k + 1) y0 y1 y2 y3 y4 y5 y6)) ∧ (∀ y0 y1 y2 y3, LeO (graftwoodlaw02_NumberOrder.j1 k y0 y1 y2 y3) (graftwoodlaw02_NumberOrder.j1 (k + 1) y0 y1 y2 y3)) ∧ (∀ y0 y1 y2, LeO (graftwoodlaw02_NumberOrder.j2 k y0 y1 y2) (graftwoodlaw02_NumberOrder.j2 (k + 1) y0 y1 y2))
  | 0 => ⟨fun _ _ _ _ _ _ _ r h => by simp [graftwoodlaw02_NumberOrder.j0] at h, fun _ _ _ _ r h => by simp [graftwoodlaw02_NumberOrder.j1] at h, fun _ _ _ r h => by simp [graftwoodlaw02_NumberOrder.j2] at h⟩
  | k + 1 => by
    obtain ⟨ih0, ih1, ih2⟩ := graftwoodlaw02_NumberOrder.mono_l k
    refine ⟨?_, ?_, ?_⟩
    · intro y0 y1 y2 y3 y4 y5 y6
      unfold graftwoodlaw02_NumberOrder.j0
      repeat' first
      | (with_reducible exact ih0 _ _ _ _ _ _ _)
      | (with_reducible exact ih1 _ _ _ _)
      | (with_reducible exact ih2 _ _ _)
      | (with_reducible exact graftwoodlaw02_awake.mono _)
      | (with_reducible exact number_Cmp.mono _ _ _)
      | (with_reducible exact LeO.refl _)
      | (with_reducible exact LeO.none _)
      | (with_reducible refine LeO.ite ?_ ?_)
      | (with_reducible refine LeO.bind ?_ (fun _ => ?_))
      | exact ih0 _ _ _ _ _ _ _
      | exact ih1 _ _ _ _
      | exact ih2 _ _ _
      | exact graftwoodlaw02_awake.mono _
      | exact number_Cmp.mono _ _ _
      | exact LeO.none _
      | refine LeO.ite ?_ ?_
      | refine LeO.bind ?_ (fun _ => ?_)
    · intro y0 y1 y2 y3
      unfold graftwoodlaw02_NumberOrder.j1
      repeat' first
      | (with_reducible exact ih0 _ _ _ _ _ _ _)
      | (with_reducible exact ih1 _ _ _ _)
      | (with_reducible exact ih2 _ _ _)
      | (with_reducible exact graftwoodlaw02_awake.mono _)
      | (with_reducible exact number_Cmp.mono _ _ _)
      | (with_reducible exact LeO.refl _)
      | (with_reducible exact LeO.none _)
      | (with_reducible refine LeO.ite ?_ ?_)
      | (with_reducible refine LeO.bind ?_ (fun _ => ?_))
      | exact ih0 _ _ _ _ _ _ _
      | exact ih1 _ _ _ _
      | exact ih2 _ _ _
      | exact graftwoodlaw02_awake.mono _
      | exact number_Cmp.mono _ _ _
      | exact LeO.none _
      | refine LeO.ite ?_ ?_
      | refine LeO.bind ?_ (fun _ => ?_)
    · intro y0 y1 y2
      unfold graftwoodlaw02_NumberOrder.j2
      repeat' first
      | (with_reducible exact ih0 _ _ _ _ _ _ _)
      | (with_reducible exact ih1 _ _ _ _)
      | (with_reducible exact ih2 _ _ _)
      | (with_reducible exact graftwoodlaw02_awake.mono _)
      | (with_reducible exact number_Cmp.mono _ _ _)
      | (with_reducible exact LeO.refl _)
      | (with_reducible exact LeO.none _)
      | (with_reducible refine LeO.ite ?_ ?_)
      | (with_reducible refine LeO.bind ?_ (fun _ => ?_))
      | exact ih0 _ _ _ _ _ _ _
      | exact ih1 _ _ _ _
      | exact ih2 _ _ _
      | exact graftwoodlaw02_awake.mono _
      | exact number_Cmp.mono _ _ _
      | exact LeO.none _
      | refine LeO.ite ?_ ?_
      | refine LeO.bind ?_ (fun _ => ?_)
theorem graftwoodlaw02_NumberOrder.mono : ∀ a0 a1 a2 k, LeO (graftwoodlaw02_NumberOrder.f k a0 a1 a2) (graftwoodlaw02_NumberOrder.f (k + 1) a0 a1 a2) := by
  intro a0 a1 a2 k
  obtain ⟨ih0, ih1, ih2⟩ := graftwoodlaw02_NumberOrder.mono_l k
  unfold graftwoodlaw02_NumberOrder.f
  repeat' first
      | (with_reducible exact ih0 _ _ _ _ _ _ _)
      | (with_reducible exact ih1 _ _ _ _)
      | (with_reducible exact ih2 _ _ _)
      | (with_reducible exact graftwoodlaw02_awake.mono _)
      | (with_reducible exact number_Cmp.mono _ _ _)
      | (with_reducible exact LeO.refl _)
      | (with_reducible exact LeO.none _)
      | (with_reducible refine LeO.ite ?_ ?_)
      | (with_reducible refine LeO.bind ?_ (fun _ => ?_))
      | exact ih0 _ _ _ _ _ _ _
      | exact ih1 _ _ _ _
      | exact ih2 _ _ _
      | exact graftwoodlaw02_awake.mono _
      | exact number_Cmp.mono _ _ _
      | exact LeO.none _
      | refine LeO.ite ?_ ?_
      | refine LeO.bind ?_ (fun _ => ?_)
set_option maxHeartbeats 8000000 in
set_option maxRecDepth 100000 in
theorem graftwoodlaw02_NumberOrder.calls (k : Nat) (a0 : ByteArray) (a1 : ByteArray) (a2 : ByteArray) (r : Bool) (w : World) (h : graftwoodlaw02_NumberOrder.f k a0 a1 a2 = some r) :
    Calls Try.prog 3 #[.string a0, .string a1, .string a2] w fun e w' => e = .returned (.bool r) ∧ Below w.heap.size w w' := by
  have HB := Aside0.mk (Below.refl w.heap.size w)
  have H : ((graftwoodlaw01_Few.f a0).bind fun t123 => ((graftwoodlaw01_Few.f a1).bind fun t124 => ((graftwoodlaw01_Few.f a2).bind fun t125 => ((number_Cmp.f k t123 t124).bind fun bt126 => ((number_Cmp.f k t124 t125).bind fun bt128 => ((number_Cmp.f k t123 t125).bind fun bt130 => (if bt126.2 = 0 then (if bt128.2 = 0 then (graftwoodlaw02_NumberOrder.j0 k t123 t124 t125 bt126.1 bt128.1 bt130.1 (bt130.2 != 0)) else (graftwoodlaw02_NumberOrder.j0 k t123 t124 t125 bt126.1 bt128.1 bt130.1 true)) else (graftwoodlaw02_NumberOrder.j0 k t123 t124 t125 bt126.1 bt128.1 bt130.1 true)))))))) = some r := h
  clear h
  replace H := Option.bind_eq_some_iff.mp H
  obtain ⟨t123, A40, H⟩ := H
  replace H : ((graftwoodlaw01_Few.f a1).bind fun t124 => ((graftwoodlaw01_Few.f a2).bind fun t125 => ((number_Cmp.f k t123 t124).bind fun bt126 => ((number_Cmp.f k t124 t125).bind fun bt128 => ((number_Cmp.f k t123 t125).bind fun bt130 => (if bt126.2 = 0 then (if bt128.2 = 0 then (graftwoodlaw02_NumberOrder.j0 k t123 t124 t125 bt126.1 bt128.1 bt130.1 (bt130.2 != 0)) else (graftwoodlaw02_NumberOrder.j0 k t123 t124 t125 bt126.1 bt128.1 bt130.1 true)) else (graftwoodlaw02_NumberOrder.j0 k t123 t124 t125 bt126.1 bt128.1 bt130.1 true))))))) = some r := H
  have A4 := Aside0.mk A40
  clear A40
  replace H := Option.bind_eq_some_iff.mp H
  obtain ⟨t124, A50, H⟩ := H
  replace H : ((graftwoodlaw01_Few.f a2).bind fun t125 => ((number_Cmp.f k t123 t124).bind fun bt126 => ((number_Cmp.f k t124 t125).bind fun bt128 => ((number_Cmp.f k t123 t125).bind fun bt130 => (if bt126.2 = 0 then (if bt128.2 = 0 then (graftwoodlaw02_NumberOrder.j0 k t123 t124 t125 bt126.1 bt128.1 bt130.1 (bt130.2 != 0)) else (graftwoodlaw02_NumberOrder.j0 k t123 t124 t125 bt126.1 bt128.1 bt130.1 true)) else (graftwoodlaw02_NumberOrder.j0 k t123 t124 t125 bt126.1 bt128.1 bt130.1 true)))))) = some r := H
  have A5 := Aside0.mk A50
  clear A50
  replace H := Option.bind_eq_some_iff.mp H
  obtain ⟨t125, A60, H⟩ := H
  replace H : ((number_Cmp.f k t123 t124).bind fun bt126 => ((number_Cmp.f k t124 t125).bind fun bt128 => ((number_Cmp.f k t123 t125).bind fun bt130 => (if bt126.2 = 0 then (if bt128.2 = 0 then (graftwoodlaw02_NumberOrder.j0 k t123 t124 t125 bt126.1 bt128.1 bt130.1 (bt130.2 != 0)) else (graftwoodlaw02_NumberOrder.j0 k t123 t124 t125 bt126.1 bt128.1 bt130.1 true)) else (graftwoodlaw02_NumberOrder.j0 k t123 t124 t125 bt126.1 bt128.1 bt130.1 true))))) = some r := H
  have A6 := Aside0.mk A60
  clear A60
  replace H := Option.bind_eq_some_iff.mp H
  obtain ⟨⟨t126, t127⟩, A70, H⟩ := H
  replace H : ((number_Cmp.f k t124 t125).bind fun bt128 => ((number_Cmp.f k t123 t125).bind fun bt130 => (if t127 = 0 then (if bt128.2 = 0 then (graftwoodlaw02_NumberOrder.j0 k t123 t124 t125 t126 bt128.1 bt130.1 (bt130.2 != 0)) else (graftwoodlaw02_NumberOrder.j0 k t123 t124 t125 t126 bt128.1 bt130.1 true)) else (graftwoodlaw02_NumberOrder.j0 k t123 t124 t125 t126 bt128.1 bt130.1 true)))) = some r := H
  have A7 := Aside0.mk A70
  clear A70
  replace H := Option.bind_eq_some_iff.mp H
  obtain ⟨⟨t128, t129⟩, A80, H⟩ := H
  replace H : ((number_Cmp.f k t123 t125).bind fun bt130 => (if t127 = 0 then (if t129 = 0 then (graftwoodlaw02_NumberOrder.j0 k t123 t124 t125 t126 t128 bt130.1 (bt130.2 != 0)) else (graftwoodlaw02_NumberOrder.j0 k t123 t124 t125 t126 t128 bt130.1 true)) else (graftwoodlaw02_NumberOrder.j0 k t123 t124 t125 t126 t128 bt130.1 true))) = some r := H
  have A8 := Aside0.mk A80
  clear A80
  replace H := Option.bind_eq_some_iff.mp H
  obtain ⟨⟨t130, t131⟩, A90, H⟩ := H
  replace H : (if t127 = 0 then (if t129 = 0 then (graftwoodlaw02_NumberOrder.j0 k t123 t124 t125 t126 t128 t130 (t131 != 0)) else (graftwoodlaw02_NumberOrder.j0 k t123 t124 t125 t126 t128 t130 true)) else (graftwoodlaw02_NumberOrder.j0 k t123 t124 t125 t126 t128 t130 true)) = some r := H
  have A9 := Aside0.mk A90
  clear A90
  have HC10 := Aside0.mk H
  clear H
  go_enter Try.func3, Try.ntmps3
  go_upto_region 5 with (first | ((with_reducible refine gate_callee (f := 9) rfl ?_); refine goesL_ (some 22) rfl rfl Try.func9 (by kernel_rfl) rfl #[.string a0] rfl (by (try simp only [List.map_toArray, List.map_cons, List.map_nil]); first | done | rfl | (simp only [List.length_drop, List.length_take]; rfl)) ?_; (with_reducible refine (graftwoodlaw01_Few.calls a0 t123 _ A4.out).mono ?_); rintro e w' ⟨rfl, ⟨nd, rfl⟩⟩; refine ⟨_, rfl, ?_⟩) | ((with_reducible refine gate_callee (f := 9) rfl ?_); refine goesL_ (some 24) rfl rfl Try.func9 (by kernel_rfl) rfl #[.string a1] rfl (by (try simp only [List.map_toArray, List.map_cons, List.map_nil]); first | done | rfl | (simp only [List.length_drop, List.length_take]; rfl)) ?_; (with_reducible refine (graftwoodlaw01_Few.calls a1 t124 _ A5.out).mono ?_); rintro e w' ⟨rfl, ⟨nd, rfl⟩⟩; refine ⟨_, rfl, ?_⟩) | ((with_reducible refine gate_callee (f := 9) rfl ?_); refine goesL_ (some 26) rfl rfl Try.func9 (by kernel_rfl) rfl #[.string a2] rfl (by (try simp only [List.map_toArray, List.map_cons, List.map_nil]); first | done | rfl | (simp only [List.length_drop, List.length_take]; rfl)) ?_; (with_reducible refine (graftwoodlaw01_Few.calls a2 t125 _ A6.out).mono ?_); rintro e w' ⟨rfl, ⟨nd, rfl⟩⟩; refine ⟨_, rfl, ?_⟩) | ((with_reducible refine gate_callee (f := 10) rfl ?_); refine goesL_ (some 30) rfl rfl Try.func10 (by kernel_rfl) rfl #[.string t123, .string t124] rfl (by (try simp only [List.map_toArray, List.map_cons, List.map_nil]); first | done | rfl | (simp only [List.length_drop, List.length_take]; rfl)) ?_; (with_reducible refine (number_Cmp.calls k t123 t124 t126 t127 _ A7.out).mono ?_); rintro e w11 ⟨rfl, hb⟩; refine ⟨_, rfl, ?_⟩; have n0_ := Aside0.mk (below_step (by repeat (first | (with_reducible first | exact HB.out | apply below_alloc | apply pw_below_drewN | apply below_drew1) | exact HB.out)) hb); clear HB; have HB := n0_; clear n0_; (try clear hb); (try clear hb2); (try clear hk); (try clear hi)) | ((with_reducible refine gate_callee (f := 10) rfl ?_); refine goesL_ (some 36) rfl rfl Try.func10 (by kernel_rfl) rfl #[.string t124, .string t125] rfl (by (try simp only [List.map_toArray, List.map_cons, List.map_nil]); first | done | rfl | (simp only [List.length_drop, List.length_take]; rfl)) ?_; (with_reducible refine (number_Cmp.calls k t124 t125 t128 t129 _ A8.out).mono ?_); rintro e w12 ⟨rfl, hb⟩; refine ⟨_, rfl, ?_⟩; have n0_ := Aside0.mk (below_step (by repeat (first | (with_reducible first | exact HB.out | apply below_alloc | apply pw_below_drewN | apply below_drew1) | exact HB.out)) hb); clear HB; have HB := n0_; clear n0_; (try clear hb); (try clear hb2); (try clear hk); (try clear hi)) | ((with_reducible refine gate_callee (f := 10) rfl ?_); refine goesL_ (some 42) rfl rfl Try.func10 (by kernel_rfl) rfl #[.string t123, .string t125] rfl (by (try simp only [List.map_toArray, List.map_cons, List.map_nil]); first | done | rfl | (simp only [List.length_drop, List.length_take]; rfl)) ?_; (with_reducible refine (number_Cmp.calls k t123 t125 t130 t131 _ A9.out).mono ?_); rintro e w13 ⟨rfl, hb⟩; refine ⟨_, rfl, ?_⟩; have n0_ := Aside0.mk (below_step (by repeat (first | (with_reducible first | exact HB.out | apply below_alloc | apply pw_below_drewN | apply below_drew1) | exact HB.out)) hb); clear HB; have HB := n0_; clear n0_; (try clear hb); (try clear hb2); (try clear hk); (try clear hi)))
  (try simp only [Act.put, List.setIfInBounds_toArray, List.set_cons_zero, List.set_cons_succ])
  go_cut [54] (fun v54 wc => ∃ (kq : Nat) (x54_9 : Bool), v54 = .bool x54_9 ∧ Aside0 (graftwoodlaw02_NumberOrder.j0 kq t123 t124 t125 t126 t128 t130 x54_9 = some r) ∧ Aside0 (kq ≤ k) ∧ Aside0 (Below w.heap.size w wc))
  case first =>
    have H := HC10.out
    clear HC10
    by_cases c14 : t127 = 0
    · rw [if_pos c14] at H
      have c14b0 : (t127 == 0) = true := beq_iff_eq.mpr c14
      have c14b1 : (t127 != 0) = false := bne_eq_false_iff_eq.mpr c14
      clear c14
      (first | rw [c14b0] | (simp only [i64_w, i32_w]; rw [c14b0]) | skip)
      by_cases c15 : t129 = 0
      · rw [if_pos c15] at H
        have c15b0 : (t129 == 0) = true := beq_iff_eq.mpr c15
        have c15b1 : (t129 != 0) = false := bne_eq_false_iff_eq.mpr c15
        clear c15
        have H' := Aside0.mk H
        clear H
        go_wp2
        go_meet
        case rel => exact ⟨_, ((t131 != 0)), (by first | rfl | (simp; done) | (simp [*]; done) | (simp [bne]; done)), H', ⟨by first | omega | exact Nat.le_refl _⟩, ⟨by repeat (first | (with_reducible first | exact HB.out | apply below_alloc | apply pw_below_drewN | apply below_drew1) | exact HB.out)⟩⟩
      · rw [if_neg c15] at H
        have c15b0 : (t129 == 0) = false := beq_eq_false_iff_ne.mpr c15
        have c15b1 : (t129 != 0) = true := bne_iff_ne.mpr c15
        have H' := Aside0.mk H
        clear H
        go_wp2
        go_meet
        case rel => exact ⟨_, (true), (by first | rfl | (simp; done) | (simp [*]; done) | (simp [bne]; done)), H', ⟨by first | omega | exact Nat.le_refl _⟩, ⟨by repeat (first | (with_reducible first | exact HB.out | apply below_alloc | apply pw_below_drewN | apply below_drew1) | exact HB.out)⟩⟩
    · rw [if_neg c14] at H
      have c14b0 : (t127 == 0) = false := beq_eq_false_iff_ne.mpr c14
      have c14b1 : (t127 != 0) = true := bne_iff_ne.mpr c14
      (first | rw [c14b0] | (simp only [i64_w, i32_w]; rw [c14b0]) | skip)
      have H' := Aside0.mk H
      clear H
      go_wp2
      go_meet
      case rel => exact ⟨_, (true), (by first | rfl | (simp; done) | (simp [*]; done) | (simp [bne]; done)), H', ⟨by first | omega | exact Nat.le_refl _⟩, ⟨by repeat (first | (with_reducible first | exact HB.out | apply below_alloc | apply pw_below_drewN | apply below_drew1) | exact HB.out)⟩⟩
  case rest =>
    clear HC10
    try clear c1
    try clear p2
    try clear c3
    try clear c9
    try clear c10
    try clear c14
    try clear c14b0
    try clear c14b1
    try clear c15
    try clear c15b0
    try clear c15b1
    obtain ⟨kq, x54_9, rfl, HA, HJ9, HB⟩ := hcut
    cases kq with
    | zero => exact absurd HA.out (by simp [graftwoodlaw02_NumberOrder.j0])
    | succ kj9 =>
      have H := HA.out
      clear HA
      simp only [graftwoodlaw02_NumberOrder.j0] at H
      by_cases c16 : x54_9 = true
      · subst c16
        have H1 : ((number_May.f t123).bind fun t132 => (if t132 = true then ((number_May.f t124).bind fun t133 => (if t133 = true then ((number_May.f t125).bind fun t134 => (if t134 = true then (some false) else ((graftwoodlaw02_awake.f kj9).bind fun t135 => (some t135)))) else ((graftwoodlaw02_awake.f kj9).bind fun t136 => (some t136)))) else ((graftwoodlaw02_awake.f kj9).bind fun t137 => (some t137)))) = some r := by rw [if_pos rfl] at H; exact H
        clear H
        have H := H1
        clear H1
        replace H := Option.bind_eq_some_iff.mp H
        obtain ⟨t132, A170, H⟩ := H
        replace H : (if t132 = true then ((number_May.f t124).bind fun t133 => (if t133 = true then ((number_May.f t125).bind fun t134 => (if t134 = true then (some false) else ((graftwoodlaw02_awake.f kj9).bind fun t135 => (some t135)))) else ((graftwoodlaw02_awake.f kj9).bind fun t136 => (some t136)))) else ((graftwoodlaw02_awake.f kj9).bind fun t137 => (some t137))) = some r := H
        have A17 := Aside0.mk A170
        clear A170
        by_cases c18 : t132 = true
        · subst c18
          have H1 : ((number_May.f t124).bind fun t133 => (if t133 = true then ((number_May.f t125).bind fun t134 => (if t134 = true then (some false) else ((graftwoodlaw02_awake.f kj9).bind fun t135 => (some t135)))) else ((graftwoodlaw02_awake.f kj9).bind fun t136 => (some t136)))) = some r := by rw [if_pos rfl] at H; exact H
          clear H
          have H := H1
          clear H1
          replace H := Option.bind_eq_some_iff.mp H
          obtain ⟨t133, A190, H⟩ := H
          replace H : (if t133 = true then ((number_May.f t125).bind fun t134 => (if t134 = true then (some false) else ((graftwoodlaw02_awake.f kj9).bind fun t135 => (some t135)))) else ((graftwoodlaw02_awake.f kj9).bind fun t136 => (some t136))) = some r := H
          have A19 := Aside0.mk A190
          clear A190
          by_cases c20 : t133 = true
          · subst c20
            have H1 : ((number_May.f t125).bind fun t134 => (if t134 = true then (some false) else ((graftwoodlaw02_awake.f kj9).bind fun t135 => (some t135)))) = some r := by rw [if_pos rfl] at H; exact H
            clear H
            have H := H1
            clear H1
            replace H := Option.bind_eq_some_iff.mp H
            obtain ⟨t134, A210, H⟩ := H
            replace H : (if t134 = true then (some false) else ((graftwoodlaw02_awake.f kj9).bind fun t135 => (some t135))) = some r := H
            have A21 := Aside0.mk A210
            clear A210
            by_cases c22 : t134 = true
            · subst c22
              have H1 : (some false) = some r := by rw [if_pos rfl] at H; exact H
              clear H
              have H := H1
              clear H1
              obtain rfl := Option.some.inj H
              go_wp2_with (first | ((with_reducible refine gate_callee (f := 11) rfl ?_); refine goesL_ (some 56) rfl rfl Try.func11 (by kernel_rfl) rfl #[.string t123] rfl (by (try simp only [List.map_toArray, List.map_cons, List.map_nil]); first | done | rfl | (simp only [List.length_drop, List.length_take]; rfl)) ?_; (with_reducible refine (number_May.calls t123 true _ A17.out).mono ?_); rintro e w23 ⟨rfl, hb⟩; refine ⟨_, rfl, ?_⟩; have n0_ := Aside0.mk (below_step (by repeat (first | (with_reducible first | exact HB.out | apply below_alloc | apply pw_below_drewN | apply below_drew1) | exact HB.out)) hb); clear HB; have HB := n0_; clear n0_; (try clear hb); (try clear hb2); (try clear hk); (try clear hi)) | (go_at_call 11; (with_reducible refine (number_May.calls t124 true _ A19.out).mono ?_); rintro e w24 ⟨rfl, hb⟩; have n0_ := Aside0.mk (below_step (by repeat (first | (with_reducible first | exact HB.out | apply below_alloc | apply pw_below_drewN | apply below_drew1) | exact HB.out)) hb); clear HB; have HB := n0_; clear n0_; (try clear hb); (try clear hb2); (try clear hk); (try clear hi)) | (go_at_call 11; (with_reducible refine (number_May.calls t125 true _ A21.out).mono ?_); rintro e w25 ⟨rfl, hb⟩; have n0_ := Aside0.mk (below_step (by repeat (first | (with_reducible first | exact HB.out | apply below_alloc | apply pw_below_drewN | apply below_drew1) | exact HB.out)) hb); clear HB; have HB := n0_; clear n0_; (try clear hb); (try clear hb2); (try clear hk); (try clear hi)))
              go_ret
              exact ⟨by first | rfl | (simp [errW_none, errW_some] <;> rfl) | (simp [*, errW_none, errW_some] <;> rfl), by repeat (first | (with_reducible first | exact HB.out | apply below_alloc | apply pw_below_drewN | apply below_drew1) | exact HB.out)⟩
            · replace c22 := Bool.eq_false_iff.mpr c22
              subst c22
              have H1 : ((graftwoodlaw02_awake.f kj9).bind fun t135 => (some t135)) = some r := by rw [if_neg (show ¬ (false = true) by decide)] at H; exact H
              clear H
              have H := H1
              clear H1
              replace H := Option.bind_eq_some_iff.mp H
              obtain ⟨t135, A260, H⟩ := H
              replace H : (some t135) = some r := H
              have A26 := Aside0.mk A260
              clear A260
              obtain rfl := Option.some.inj H
              go_wp2_with (first | ((with_reducible refine gate_callee (f := 11) rfl ?_); refine goesL_ (some 56) rfl rfl Try.func11 (by kernel_rfl) rfl #[.string t123] rfl (by (try simp only [List.map_toArray, List.map_cons, List.map_nil]); first | done | rfl | (simp only [List.length_drop, List.length_take]; rfl)) ?_; (with_reducible refine (number_May.calls t123 true _ A17.out).mono ?_); rintro e w27 ⟨rfl, hb⟩; refine ⟨_, rfl, ?_⟩; have n0_ := Aside0.mk (below_step (by repeat (first | (with_reducible first | exact HB.out | apply below_alloc | apply pw_below_drewN | apply below_drew1) | exact HB.out)) hb); clear HB; have HB := n0_; clear n0_; (try clear hb); (try clear hb2); (try clear hk); (try clear hi)) | (go_at_call 11; (with_reducible refine (number_May.calls t124 true _ A19.out).mono ?_); rintro e w28 ⟨rfl, hb⟩; have n0_ := Aside0.mk (below_step (by repeat (first | (with_reducible first | exact HB.out | apply below_alloc | apply pw_below_drewN | apply below_drew1) | exact HB.out)) hb); clear HB; have HB := n0_; clear n0_; (try clear hb); (try clear hb2); (try clear hk); (try clear hi)) | (go_at_call 11; (with_reducible refine (number_May.calls t125 false _ A21.out).mono ?_); rintro e w29 ⟨rfl, hb⟩; have n0_ := Aside0.mk (below_step (by repeat (first | (with_reducible first | exact HB.out | apply below_alloc | apply pw_below_drewN | apply below_drew1) | exact HB.out)) hb); clear HB; have HB := n0_; clear n0_; (try clear hb); (try clear hb2); (try clear hk); (try clear hi)) | (go_at_call 12; (with_reducible refine (graftwoodlaw02_awake.calls kj9  t135 _ A26.out).mono ?_); rintro e w30 ⟨rfl, hb⟩; have n0_ := Aside0.mk (below_step (by repeat (first | (with_reducible first | exact HB.out | apply below_alloc | apply pw_below_drewN | apply below_drew1) | exact HB.out)) hb); clear HB; have HB := n0_; clear n0_; (try clear hb); (try clear hb2); (try clear hk); (try clear hi)))
              go_ret
              exact ⟨by first | rfl | (simp [errW_none, errW_some] <;> rfl) | (simp [*, errW_none, errW_some] <;> rfl), by repeat (first | (with_reducible first | exact HB.out | apply below_alloc | apply pw_below_drewN | apply below_drew1) | exact HB.out)⟩
          · replace c20 := Bool.eq_false_iff.mpr c20
            subst c20
            have H1 : ((graftwoodlaw02_awake.f kj9).bind fun t136 => (some t136)) = some r := by rw [if_neg (show ¬ (false = true) by decide)] at H; exact H
            clear H
            have H := H1
            clear H1
            replace H := Option.bind_eq_some_iff.mp H
            obtain ⟨t136, A310, H⟩ := H
            replace H : (some t136) = some r := H
            have A31 := Aside0.mk A310
            clear A310
            obtain rfl := Option.some.inj H
            go_wp2_with (first | ((with_reducible refine gate_callee (f := 11) rfl ?_); refine goesL_ (some 56) rfl rfl Try.func11 (by kernel_rfl) rfl #[.string t123] rfl (by (try simp only [List.map_toArray, List.map_cons, List.map_nil]); first | done | rfl | (simp only [List.length_drop, List.length_take]; rfl)) ?_; (with_reducible refine (number_May.calls t123 true _ A17.out).mono ?_); rintro e w32 ⟨rfl, hb⟩; refine ⟨_, rfl, ?_⟩; have n0_ := Aside0.mk (below_step (by repeat (first | (with_reducible first | exact HB.out | apply below_alloc | apply pw_below_drewN | apply below_drew1) | exact HB.out)) hb); clear HB; have HB := n0_; clear n0_; (try clear hb); (try clear hb2); (try clear hk); (try clear hi)) | (go_at_call 11; (with_reducible refine (number_May.calls t124 false _ A19.out).mono ?_); rintro e w33 ⟨rfl, hb⟩; have n0_ := Aside0.mk (below_step (by repeat (first | (with_reducible first | exact HB.out | apply below_alloc | apply pw_below_drewN | apply below_drew1) | exact HB.out)) hb); clear HB; have HB := n0_; clear n0_; (try clear hb); (try clear hb2); (try clear hk); (try clear hi)) | (go_at_call 12; (with_reducible refine (graftwoodlaw02_awake.calls kj9  t136 _ A31.out).mono ?_); rintro e w34 ⟨rfl, hb⟩; have n0_ := Aside0.mk (below_step (by repeat (first | (with_reducible first | exact HB.out | apply below_alloc | apply pw_below_drewN | apply below_drew1) | exact HB.out)) hb); clear HB; have HB := n0_; clear n0_; (try clear hb); (try clear hb2); (try clear hk); (try clear hi)))
            go_ret
            exact ⟨by first | rfl | (simp [errW_none, errW_some] <;> rfl) | (simp [*, errW_none, errW_some] <;> rfl), by repeat (first | (with_reducible first | exact HB.out | apply below_alloc | apply pw_below_drewN | apply below_drew1) | exact HB.out)⟩
        · replace c18 := Bool.eq_false_iff.mpr c18
          subst c18
          have H1 : ((graftwoodlaw02_awake.f kj9).bind fun t137 => (some t137)) = some r := by rw [if_neg (show ¬ (false = true) by decide)] at H; exact H
          clear H
          have H := H1
          clear H1
          replace H := Option.bind_eq_some_iff.mp H
          obtain ⟨t137, A350, H⟩ := H
          replace H : (some t137) = some r := H
          have A35 := Aside0.mk A350
          clear A350
          obtain rfl := Option.some.inj H
          go_wp2_with (first | ((with_reducible refine gate_callee (f := 11) rfl ?_); refine goesL_ (some 56) rfl rfl Try.func11 (by kernel_rfl) rfl #[.string t123] rfl (by (try simp only [List.map_toArray, List.map_cons, List.map_nil]); first | done | rfl | (simp only [List.length_drop, List.length_take]; rfl)) ?_; (with_reducible refine (number_May.calls t123 false _ A17.out).mono ?_); rintro e w36 ⟨rfl, hb⟩; refine ⟨_, rfl, ?_⟩; have n0_ := Aside0.mk (below_step (by repeat (first | (with_reducible first | exact HB.out | apply below_alloc | apply pw_below_drewN | apply below_drew1) | exact HB.out)) hb); clear HB; have HB := n0_; clear n0_; (try clear hb); (try clear hb2); (try clear hk); (try clear hi)) | (go_at_call 12; (with_reducible refine (graftwoodlaw02_awake.calls kj9  t137 _ A35.out).mono ?_); rintro e w37 ⟨rfl, hb⟩; have n0_ := Aside0.mk (below_step (by repeat (first | (with_reducible first | exact HB.out | apply below_alloc | apply pw_below_drewN | apply below_drew1) | exact HB.out)) hb); clear HB; have HB := n0_; clear n0_; (try clear hb); (try clear hb2); (try clear hk); (try clear hi)))
          go_ret
          exact ⟨by first | rfl | (simp [errW_none, errW_some] <;> rfl) | (simp [*, errW_none, errW_some] <;> rfl), by repeat (first | (with_reducible first | exact HB.out | apply below_alloc | apply pw_below_drewN | apply below_drew1) | exact HB.out)⟩
      · replace c16 := Bool.eq_false_iff.mpr c16
        subst c16
        have H1 : (if t126 ≤ 0 then (if t128 ≤ 0 then (if t130 > 0 then (graftwoodlaw02_NumberOrder.j1 kj9 t123 t124 t126 true) else (if t126 ≥ 0 then (if t128 ≥ 0 then (if t130 < 0 then (graftwoodlaw02_NumberOrder.j1 kj9 t123 t124 t126 true) else (graftwoodlaw02_NumberOrder.j1 kj9 t123 t124 t126 ((t126 == 0) != (t123.toList == t124.toList)))) else (graftwoodlaw02_NumberOrder.j1 kj9 t123 t124 t126 ((t126 == 0) != (t123.toList == t124.toList)))) else (graftwoodlaw02_NumberOrder.j1 kj9 t123 t124 t126 ((t126 == 0) != (t123.toList == t124.toList))))) else (if t126 ≥ 0 then (if t128 ≥ 0 then (if t130 < 0 then (graftwoodlaw02_NumberOrder.j1 kj9 t123 t124 t126 true) else (graftwoodlaw02_NumberOrder.j1 kj9 t123 t124 t126 ((t126 == 0) != (t123.toList == t124.toList)))) else (graftwoodlaw02_NumberOrder.j1 kj9 t123 t124 t126 ((t126 == 0) != (t123.toList == t124.toList)))) else (graftwoodlaw02_NumberOrder.j1 kj9 t123 t124 t126 ((t126 == 0) != (t123.toList == t124.toList))))) else (if t126 ≥ 0 then (if t128 ≥ 0 then (if t130 < 0 then (graftwoodlaw02_NumberOrder.j1 kj9 t123 t124 t126 true) else (graftwoodlaw02_NumberOrder.j1 kj9 t123 t124 t126 ((t126 == 0) != (t123.toList == t124.toList)))) else (graftwoodlaw02_NumberOrder.j1 kj9 t123 t124 t126 ((t126 == 0) != (t123.toList == t124.toList)))) else (graftwoodlaw02_NumberOrder.j1 kj9 t123 t124 t126 ((t126 == 0) != (t123.toList == t124.toList))))) = some r := by rw [if_neg (show ¬ (false = true) by decide)] at H; exact H
        clear H
        have H := H1
        clear H1
        have HC38 := Aside0.mk H
        clear H
        go_upto_region 7 with (fail)
        go_cut [100] (fun v100 wc => ∃ (kq : Nat) (x100_37 : Bool), v100 = .bool x100_37 ∧ Aside0 (graftwoodlaw02_NumberOrder.j1 kq t123 t124 t126 x100_37 = some r) ∧ Aside0 (kq ≤ kj9) ∧ Aside0 (Below w.heap.size w wc))
        case first =>
          have H := HC38.out
          clear HC38
          by_cases c39 : t126 ≤ 0
          · rw [if_pos c39] at H
            have c39b0 : decide (t126 ≤ 0) = true := decide_eq_true c39
            clear c39
            (first | rw [c39b0] | (simp only [i64_w, i32_w]; rw [c39b0]) | skip)
            by_cases c40 : t128 ≤ 0
            · rw [if_pos c40] at H
              have c40b0 : decide (t128 ≤ 0) = true := decide_eq_true c40
              clear c40
              by_cases c41 : t130 > 0
              · rw [if_pos c41] at H
                have c41b0 : decide (0 < t130) = true := decide_eq_true c41
                clear c41
                have H' := Aside0.mk H
                clear H
                go_wp2
                go_meet
                case rel => exact ⟨_, (true), (by first | rfl | (simp; done) | (simp [*]; done) | (simp [bne]; done)), H', ⟨by have := HJ9.out; first | omega | exact Nat.le_refl _⟩, ⟨by repeat (first | (with_reducible first | exact HB.out | apply below_alloc | apply pw_below_drewN | apply below_drew1) | exact HB.out)⟩⟩
              · rw [if_neg c41] at H
                have c41b0 : decide (0 < t130) = false := decide_eq_false c41
                clear c41
                by_cases c42 : t126 ≥ 0
                · rw [if_pos c42] at H
                  have c42b0 : decide (0 ≤ t126) = true := decide_eq_true c42
                  clear c42
                  by_cases c43 : t128 ≥ 0
                  · rw [if_pos c43] at H
                    have c43b0 : decide (0 ≤ t128) = true := decide_eq_true c43
                    clear c43
                    by_cases c44 : t130 < 0
                    · rw [if_pos c44] at H
                      have c44b0 : decide (t130 < 0) = true := decide_eq_true c44
                      clear c44
                      have H' := Aside0.mk H
                      clear H
                      go_wp2
                      go_meet
                      case rel => exact ⟨_, (true), (by first | rfl | (simp; done) | (simp [*]; done) | (simp [bne]; done)), H', ⟨by have := HJ9.out; first | omega | exact Nat.le_refl _⟩, ⟨by repeat (first | (with_reducible first | exact HB.out | apply below_alloc | apply pw_below_drewN | apply below_drew1) | exact HB.out)⟩⟩
                    · rw [if_neg c44] at H
                      have c44b0 : decide (t130 < 0) = false := decide_eq_false c44
                      clear c44
                      have H' := Aside0.mk H
                      clear H
                      go_wp2
                      go_meet
                      case rel => exact ⟨_, (((t126 == 0) != (t123.toList == t124.toList))), (by first | rfl | (simp; done) | (simp [*]; done) | (simp [bne]; done)), H', ⟨by have := HJ9.out; first | omega | exact Nat.le_refl _⟩, ⟨by repeat (first | (with_reducible first | exact HB.out | apply below_alloc | apply pw_below_drewN | apply below_drew1) | exact HB.out)⟩⟩
                  · rw [if_neg c43] at H
                    have c43b0 : decide (0 ≤ t128) = false := decide_eq_false c43
                    clear c43
                    have H' := Aside0.mk H
                    clear H
                    go_wp2
                    go_meet
                    case rel => exact ⟨_, (((t126 == 0) != (t123.toList == t124.toList))), (by first | rfl | (simp; done) | (simp [*]; done) | (simp [bne]; done)), H', ⟨by have := HJ9.out; first | omega | exact Nat.le_refl _⟩, ⟨by repeat (first | (with_reducible first | exact HB.out | apply below_alloc | apply pw_below_drewN | apply below_drew1) | exact HB.out)⟩⟩
                · rw [if_neg c42] at H
                  have c42b0 : decide (0 ≤ t126) = false := decide_eq_false c42
                  clear c42
                  have H' := Aside0.mk H
                  clear H
                  go_wp2
                  go_meet
                  case rel => exact ⟨_, (((t126 == 0) != (t123.toList == t124.toList))), (by first | rfl | (simp; done) | (simp [*]; done) | (simp [bne]; done)), H', ⟨by have := HJ9.out; first | omega | exact Nat.le_refl _⟩, ⟨by repeat (first | (with_reducible first | exact HB.out | apply below_alloc | apply pw_below_drewN | apply below_drew1) | exact HB.out)⟩⟩
            · rw [if_neg c40] at H
              have c40b0 : decide (t128 ≤ 0) = false := decide_eq_false c40
              clear c40
              by_cases c45 : t126 ≥ 0
              · rw [if_pos c45] at H
                have c45b0 : decide (0 ≤ t126) = true := decide_eq_true c45
                clear c45
                by_cases c46 : t128 ≥ 0
                · rw [if_pos c46] at H
                  have c46b0 : decide (0 ≤ t128) = true := decide_eq_true c46
                  clear c46
                  by_cases c47 : t130 < 0
                  · rw [if_pos c47] at H
                    have c47b0 : decide (t130 < 0) = true := decide_eq_true c47
                    clear c47
                    have H' := Aside0.mk H
                    clear H
                    go_wp2
                    go_meet
                    case rel => exact ⟨_, (true), (by first | rfl | (simp; done) | (simp [*]; done) | (simp [bne]; done)), H', ⟨by have := HJ9.out; first | omega | exact Nat.le_refl _⟩, ⟨by repeat (first | (with_reducible first | exact HB.out | apply below_alloc | apply pw_below_drewN | apply below_drew1) | exact HB.out)⟩⟩
                  · rw [if_neg c47] at H
                    have c47b0 : decide (t130 < 0) = false := decide_eq_false c47
                    clear c47
                    have H' := Aside0.mk H
                    clear H
                    go_wp2
                    go_meet
                    case rel => exact ⟨_, (((t126 == 0) != (t123.toList == t124.toList))), (by first | rfl | (simp; done) | (simp [*]; done) | (simp [bne]; done)), H', ⟨by have := HJ9.out; first | omega | exact Nat.le_refl _⟩, ⟨by repeat (first | (with_reducible first | exact HB.out | apply below_alloc | apply pw_below_drewN | apply below_drew1) | exact HB.out)⟩⟩
                · rw [if_neg c46] at H
                  have c46b0 : decide (0 ≤ t128) = false := decide_eq_false c46
                  clear c46
                  have H' := Aside0.mk H
                  clear H
                  go_wp2
                  go_meet
                  case rel => exact ⟨_, (((t126 == 0) != (t123.toList == t124.toList))), (by first | rfl | (simp; done) | (simp [*]; done) | (simp [bne]; done)), H', ⟨by have := HJ9.out; first | omega | exact Nat.le_refl _⟩, ⟨by repeat (first | (with_reducible first | exact HB.out | apply below_alloc | apply pw_below_drewN | apply below_drew1) | exact HB.out)⟩⟩
              · rw [if_neg c45] at H
                have c45b0 : decide (0 ≤ t126) = false := decide_eq_false c45
                clear c45
                have H' := Aside0.mk H
                clear H
                go_wp2
                go_meet
                case rel => exact ⟨_, (((t126 == 0) != (t123.toList == t124.toList))), (by first | rfl | (simp; done) | (simp [*]; done) | (simp [bne]; done)), H', ⟨by have := HJ9.out; first | omega | exact Nat.le_refl _⟩, ⟨by repeat (first | (with_reducible first | exact HB.out | apply below_alloc | apply pw_below_drewN | apply below_drew1) | exact HB.out)⟩⟩
          · rw [if_neg c39] at H
            have c39b0 : decide (t126 ≤ 0) = false := decide_eq_false c39
            clear c39
            (first | rw [c39b0] | (simp only [i64_w, i32_w]; rw [c39b0]) | skip)
            by_cases c48 : t126 ≥ 0
            · rw [if_pos c48] at H
              have c48b0 : decide (0 ≤ t126) = true := decide_eq_true c48
              clear c48
              by_cases c49 : t128 ≥ 0
              · rw [if_pos c49] at H
                have c49b0 : decide (0 ≤ t128) = true := decide_eq_true c49
                clear c49
                by_cases c50 : t130 < 0
                · rw [if_pos c50] at H
                  have c50b0 : decide (t130 < 0) = true := decide_eq_true c50
                  clear c50
                  have H' := Aside0.mk H
                  clear H
                  go_wp2
                  go_meet
                  case rel => exact ⟨_, (true), (by first | rfl | (simp; done) | (simp [*]; done) | (simp [bne]; done)), H', ⟨by have := HJ9.out; first | omega | exact Nat.le_refl _⟩, ⟨by repeat (first | (with_reducible first | exact HB.out | apply below_alloc | apply pw_below_drewN | apply below_drew1) | exact HB.out)⟩⟩
                · rw [if_neg c50] at H
                  have c50b0 : decide (t130 < 0) = false := decide_eq_false c50
                  clear c50
                  have H' := Aside0.mk H
                  clear H
                  go_wp2
                  go_meet
                  case rel => exact ⟨_, (((t126 == 0) != (t123.toList == t124.toList))), (by first | rfl | (simp; done) | (simp [*]; done) | (simp [bne]; done)), H', ⟨by have := HJ9.out; first | omega | exact Nat.le_refl _⟩, ⟨by repeat (first | (with_reducible first | exact HB.out | apply below_alloc | apply pw_below_drewN | apply below_drew1) | exact HB.out)⟩⟩
              · rw [if_neg c49] at H
                have c49b0 : decide (0 ≤ t128) = false := decide_eq_false c49
                clear c49
                have H' := Aside0.mk H
                clear H
                go_wp2
                go_meet
                case rel => exact ⟨_, (((t126 == 0) != (t123.toList == t124.toList))), (by first | rfl | (simp; done) | (simp [*]; done) | (simp [bne]; done)), H', ⟨by have := HJ9.out; first | omega | exact Nat.le_refl _⟩, ⟨by repeat (first | (with_reducible first | exact HB.out | apply below_alloc | apply pw_below_drewN | apply below_drew1) | exact HB.out)⟩⟩
            · rw [if_neg c48] at H
              have c48b0 : decide (0 ≤ t126) = false := decide_eq_false c48
              clear c48
              have H' := Aside0.mk H
              clear H
              go_wp2
              go_meet
              case rel => exact ⟨_, (((t126 == 0) != (t123.toList == t124.toList))), (by first | rfl | (simp; done) | (simp [*]; done) | (simp [bne]; done)), H', ⟨by have := HJ9.out; first | omega | exact Nat.le_refl _⟩, ⟨by repeat (first | (with_reducible first | exact HB.out | apply below_alloc | apply pw_below_drewN | apply below_drew1) | exact HB.out)⟩⟩
        case rest =>
          clear HC38
          try clear c1
          try clear c2
          try clear p2
          try clear c3
          try clear c4
          try clear c5
          try clear c9
          try clear c10
          try clear c11
          try clear c14
          try clear c14b0
          try clear c14b1
          try clear c15
          try clear c15b0
          try clear c15b1
          try clear c16
          try clear c18
          try clear c20
          try clear c22
          try clear c39
          try clear c39b0
          try clear c40
          try clear c40b0
          try clear c41
          try clear c41b0
          try clear c42
          try clear c42b0
          try clear c43
          try clear c43b0
          try clear c44
          try clear c44b0
          try clear c45
          try clear c45b0
          try clear c46
          try clear c46b0
          try clear c47
          try clear c47b0
          try clear c48
          try clear c48b0
          try clear c49
          try clear c49b0
          try clear c50
          try clear c50b0
          try clear p2
          obtain ⟨kq, x100_37, rfl, HA, HJ37, HB⟩ := hcut
          cases kq with
          | zero => exact absurd HA.out (by simp [graftwoodlaw02_NumberOrder.j1])
          | succ kj37 =>
            have H := HA.out
            clear HA
            simp only [graftwoodlaw02_NumberOrder.j1] at H
            by_cases c51 : x100_37 = true
            · subst c51
              have H1 : (some false) = some r := by rw [if_pos rfl] at H; exact H
              clear H
              have H := H1
              clear H1
              obtain rfl := Option.some.inj H
              go_wp2
              go_ret
              exact ⟨by first | rfl | (simp [errW_none, errW_some] <;> rfl) | (simp [*, errW_none, errW_some] <;> rfl), by repeat (first | (with_reducible first | exact HB.out | apply below_alloc | apply pw_below_drewN | apply below_drew1) | exact HB.out)⟩
            · replace c51 := Bool.eq_false_iff.mpr c51
              subst c51
              have H1 : ((number_Next.f t123).bind fun bt138 => ((number_Cmp.f kj37 t123 bt138.1).bind fun bt140 => ((number_Cmp.f kj37 bt138.1 t124).bind fun bt142 => (if bt138.2 = 0 then (if bt140.2 = 0 then (if bt142.2 = 0 then (if bt140.1 = (-1) then (if t126 < 0 then (graftwoodlaw02_NumberOrder.j2 kj37 t123 t124 (decide (bt142.1 > 0))) else (graftwoodlaw02_NumberOrder.j2 kj37 t123 t124 false)) else (graftwoodlaw02_NumberOrder.j2 kj37 t123 t124 true)) else (graftwoodlaw02_NumberOrder.j2 kj37 t123 t124 true)) else (graftwoodlaw02_NumberOrder.j2 kj37 t123 t124 true)) else (graftwoodlaw02_NumberOrder.j2 kj37 t123 t124 true))))) = some r := by rw [if_neg (show ¬ (false = true) by decide)] at H; exact H
              clear H
              have H := H1
              clear H1
              replace H := Option.bind_eq_some_iff.mp H
              obtain ⟨⟨t138, t139⟩, A520, H⟩ := H
              replace H : ((number_Cmp.f kj37 t123 t138).bind fun bt140 => ((number_Cmp.f kj37 t138 t124).bind fun bt142 => (if t139 = 0 then (if bt140.2 = 0 then (if bt142.2 = 0 then (if bt140.1 = (-1) then (if t126 < 0 then (graftwoodlaw02_NumberOrder.j2 kj37 t123 t124 (decide (bt142.1 > 0))) else (graftwoodlaw02_NumberOrder.j2 kj37 t123 t124 false)) else (graftwoodlaw02_NumberOrder.j2 kj37 t123 t124 true)) else (graftwoodlaw02_NumberOrder.j2 kj37 t123 t124 true)) else (graftwoodlaw02_NumberOrder.j2 kj37 t123 t124 true)) else (graftwoodlaw02_NumberOrder.j2 kj37 t123 t124 true)))) = some r := H
              have A52 := Aside0.mk A520
              clear A520
              replace H := Option.bind_eq_some_iff.mp H
              obtain ⟨⟨t140, t141⟩, A530, H⟩ := H
              replace H : ((number_Cmp.f kj37 t138 t124).bind fun bt142 => (if t139 = 0 then (if t141 = 0 then (if bt142.2 = 0 then (if t140 = (-1) then (if t126 < 0 then (graftwoodlaw02_NumberOrder.j2 kj37 t123 t124 (decide (bt142.1 > 0))) else (graftwoodlaw02_NumberOrder.j2 kj37 t123 t124 false)) else (graftwoodlaw02_NumberOrder.j2 kj37 t123 t124 true)) else (graftwoodlaw02_NumberOrder.j2 kj37 t123 t124 true)) else (graftwoodlaw02_NumberOrder.j2 kj37 t123 t124 true)) else (graftwoodlaw02_NumberOrder.j2 kj37 t123 t124 true))) = some r := H
              have A53 := Aside0.mk A530
              clear A530
              replace H := Option.bind_eq_some_iff.mp H
              obtain ⟨⟨t142, t143⟩, A540, H⟩ := H
              replace H : (if t139 = 0 then (if t141 = 0 then (if t143 = 0 then (if t140 = (-1) then (if t126 < 0 then (graftwoodlaw02_NumberOrder.j2 kj37 t123 t124 (decide (t142 > 0))) else (graftwoodlaw02_NumberOrder.j2 kj37 t123 t124 false)) else (graftwoodlaw02_NumberOrder.j2 kj37 t123 t124 true)) else (graftwoodlaw02_NumberOrder.j2 kj37 t123 t124 true)) else (graftwoodlaw02_NumberOrder.j2 kj37 t123 t124 true)) else (graftwoodlaw02_NumberOrder.j2 kj37 t123 t124 true)) = some r := H
              have A54 := Aside0.mk A540
              clear A540
              have HC55 := Aside0.mk H
              clear H
              go_upto_region 12 with (first | ((with_reducible refine gate_callee (f := 13) rfl ?_); refine goesL_ (some 103) rfl rfl Try.func13 (by kernel_rfl) rfl #[.string t123] rfl (by (try simp only [List.map_toArray, List.map_cons, List.map_nil]); first | done | rfl | (simp only [List.length_drop, List.length_take]; rfl)) ?_; (with_reducible refine (number_Next.calls t123 t138 t139 _ A52.out).mono ?_); rintro e w56 ⟨rfl, hb⟩; refine ⟨_, rfl, ?_⟩; have n0_ := Aside0.mk (below_step (by repeat (first | (with_reducible first | exact HB.out | apply below_alloc | apply pw_below_drewN | apply below_drew1) | exact HB.out)) hb); clear HB; have HB := n0_; clear n0_; (try clear hb); (try clear hb2); (try clear hk); (try clear hi)) | ((with_reducible refine gate_callee (f := 10) rfl ?_); refine goesL_ (some 109) rfl rfl Try.func10 (by kernel_rfl) rfl #[.string t123, .string t138] rfl (by (try simp only [List.map_toArray, List.map_cons, List.map_nil]); first | done | rfl | (simp only [List.length_drop, List.length_take]; rfl)) ?_; (with_reducible refine (number_Cmp.calls kj37 t123 t138 t140 t141 _ A53.out).mono ?_); rintro e w57 ⟨rfl, hb⟩; refine ⟨_, rfl, ?_⟩; have n0_ := Aside0.mk (below_step (by repeat (first | (with_reducible first | exact HB.out | apply below_alloc | apply pw_below_drewN | apply below_drew1) | exact HB.out)) hb); clear HB; have HB := n0_; clear n0_; (try clear hb); (try clear hb2); (try clear hk); (try clear hi)) | ((with_reducible refine gate_callee (f := 10) rfl ?_); refine goesL_ (some 115) rfl rfl Try.func10 (by kernel_rfl) rfl #[.string t138, .string t124] rfl (by (try simp only [List.map_toArray, List.map_cons, List.map_nil]); first | done | rfl | (simp only [List.length_drop, List.length_take]; rfl)) ?_; (with_reducible refine (number_Cmp.calls kj37 t138 t124 t142 t143 _ A54.out).mono ?_); rintro e w58 ⟨rfl, hb⟩; refine ⟨_, rfl, ?_⟩; have n0_ := Aside0.mk (below_step (by repeat (first | (with_reducible first | exact HB.out | apply below_alloc | apply pw_below_drewN | apply below_drew1) | exact HB.out)) hb); clear HB; have HB := n0_; clear n0_; (try clear hb); (try clear hb2); (try clear hk); (try clear hi)))
              (try simp only [Act.put, List.setIfInBounds_toArray, List.set_cons_zero, List.set_cons_succ])
              go_cut [139] (fun v139 wc => ∃ (kq : Nat) (x139_54 : Bool), v139 = .bool x139_54 ∧ Aside0 (graftwoodlaw02_NumberOrder.j2 kq t123 t124 x139_54 = some r) ∧ Aside0 (kq ≤ kj37) ∧ Aside0 (Below w.heap.size w wc))
              case first =>
                have H := HC55.out
                clear HC55
                by_cases c59 : t139 = 0
                · rw [if_pos c59] at H
                  have c59b0 : (t139 == 0) = true := beq_iff_eq.mpr c59
                  have c59b1 : (t139 != 0) = false := bne_eq_false_iff_eq.mpr c59
                  clear c59
                  (first | rw [c59b0] | (simp only [i64_w, i32_w]; rw [c59b0]) | skip)
                  by_cases c60 : t141 = 0
                  · rw [if_pos c60] at H
                    have c60b0 : (t141 == 0) = true := beq_iff_eq.mpr c60
                    have c60b1 : (t141 != 0) = false := bne_eq_false_iff_eq.mpr c60
                    clear c60
                    by_cases c61 : t143 = 0
                    · rw [if_pos c61] at H
                      have c61b0 : (t143 == 0) = true := beq_iff_eq.mpr c61
                      have c61b1 : (t143 != 0) = false := bne_eq_false_iff_eq.mpr c61
                      clear c61
                      by_cases c62 : t140 = (-1)
                      · rw [if_pos c62] at H
                        have c62b0 : (t140 == (-1)) = true := beq_iff_eq.mpr c62
                        have c62b1 : (t140 != (-1)) = false := bne_eq_false_iff_eq.mpr c62
                        clear c62
                        by_cases c63 : t126 < 0
                        · rw [if_pos c63] at H
                          have c63b0 : decide (t126 < 0) = true := decide_eq_true c63
                          clear c63
                          have H' := Aside0.mk H
                          clear H
                          go_wp2
                          go_meet
                          case rel => exact ⟨_, (decide (t142 > 0)), (by first | rfl | (simp; done) | (simp [*]; done) | (simp [bne]; done)), H', ⟨by have := HJ9.out; have := HJ37.out; first | omega | exact Nat.le_refl _⟩, ⟨by repeat (first | (with_reducible first | exact HB.out | apply below_alloc | apply pw_below_drewN | apply below_drew1) | exact HB.out)⟩⟩
                        · rw [if_neg c63] at H
                          have c63b0 : decide (t126 < 0) = false := decide_eq_false c63
                          clear c63
                          have H' := Aside0.mk H
                          clear H
                          go_wp2
                          go_meet
                          case rel => exact ⟨_, (false), (by first | rfl | (simp; done) | (simp [*]; done) | (simp [bne]; done)), H', ⟨by have := HJ9.out; have := HJ37.out; first | omega | exact Nat.le_refl _⟩, ⟨by repeat (first | (with_reducible first | exact HB.out | apply below_alloc | apply pw_below_drewN | apply below_drew1) | exact HB.out)⟩⟩
                      · rw [if_neg c62] at H
                        have c62b0 : (t140 == (-1)) = false := beq_eq_false_iff_ne.mpr c62
                        have c62b1 : (t140 != (-1)) = true := bne_iff_ne.mpr c62
                        have H' := Aside0.mk H
                        clear H
                        go_wp2
                        go_meet
                        case rel => exact ⟨_, (true), (by first | rfl | (simp; done) | (simp [*]; done) | (simp [bne]; done)), H', ⟨by have := HJ9.out; have := HJ37.out; first | omega | exact Nat.le_refl _⟩, ⟨by repeat (first | (with_reducible first | exact HB.out | apply below_alloc | apply pw_below_drewN | apply below_drew1) | exact HB.out)⟩⟩
                    · rw [if_neg c61] at H
                      have c61b0 : (t143 == 0) = false := beq_eq_false_iff_ne.mpr c61
                      have c61b1 : (t143 != 0) = true := bne_iff_ne.mpr c61
                      have H' := Aside0.mk H
                      clear H
                      go_wp2
                      go_meet
                      case rel => exact ⟨_, (true), (by first | rfl | (simp; done) | (simp [*]; done) | (simp [bne]; done)), H', ⟨by have := HJ9.out; have := HJ37.out; first | omega | exact Nat.le_refl _⟩, ⟨by repeat (first | (with_reducible first | exact HB.out | apply below_alloc | apply pw_below_drewN | apply below_drew1) | exact HB.out)⟩⟩
                  · rw [if_neg c60] at H
                    have c60b0 : (t141 == 0) = false := beq_eq_false_iff_ne.mpr c60
                    have c60b1 : (t141 != 0) = true := bne_iff_ne.mpr c60
                    have H' := Aside0.mk H
                    clear H
                    go_wp2
                    go_meet
                    case rel => exact ⟨_, (true), (by first | rfl | (simp; done) | (simp [*]; done) | (simp [bne]; done)), H', ⟨by have := HJ9.out; have := HJ37.out; first | omega | exact Nat.le_refl _⟩, ⟨by repeat (first | (with_reducible first | exact HB.out | apply below_alloc | apply pw_below_drewN | apply below_drew1) | exact HB.out)⟩⟩
                · rw [if_neg c59] at H
                  have c59b0 : (t139 == 0) = false := beq_eq_false_iff_ne.mpr c59
                  have c59b1 : (t139 != 0) = true := bne_iff_ne.mpr c59
                  (first | rw [c59b0] | (simp only [i64_w, i32_w]; rw [c59b0]) | skip)
                  have H' := Aside0.mk H
                  clear H
                  go_wp2
                  go_meet
                  case rel => exact ⟨_, (true), (by first | rfl | (simp; done) | (simp [*]; done) | (simp [bne]; done)), H', ⟨by have := HJ9.out; have := HJ37.out; first | omega | exact Nat.le_refl _⟩, ⟨by repeat (first | (with_reducible first | exact HB.out | apply below_alloc | apply pw_below_drewN | apply below_drew1) | exact HB.out)⟩⟩
              case rest =>
                clear HC55
                try clear c1
                try clear c2
                try clear p2
                try clear c3
                try clear c4
                try clear c5
                try clear c6
                try clear c9
                try clear c10
                try clear c11
                try clear c13
                try clear c14
                try clear c14b0
                try clear c14b1
                try clear c15
                try clear c15b0
                try clear c15b1
                try clear c16
                try clear c18
                try clear c20
                try clear c22
                try clear c39
                try clear c39b0
                try clear c40
                try clear c40b0
                try clear c41
                try clear c41b0
                try clear c42
                try clear c42b0
                try clear c43
                try clear c43b0
                try clear c44
                try clear c44b0
                try clear c45
                try clear c45b0
                try clear c46
                try clear c46b0
                try clear c47
                try clear c47b0
                try clear c48
                try clear c48b0
                try clear c49
                try clear c49b0
                try clear c50
                try clear c50b0
                try clear c51
                try clear c59
                try clear c59b0
                try clear c59b1
                try clear c60
                try clear c60b0
                try clear c60b1
                try clear c61
                try clear c61b0
                try clear c61b1
                try clear c62
                try clear c62b0
                try clear c62b1
                try clear c63
                try clear c63b0
                try clear p2
                obtain ⟨kq, x139_54, rfl, HA, HJ54, HB⟩ := hcut
                cases kq with
                | zero => exact absurd HA.out (by simp [graftwoodlaw02_NumberOrder.j2])
                | succ kj54 =>
                  have H := HA.out
                  clear HA
                  simp only [graftwoodlaw02_NumberOrder.j2] at H
                  by_cases c64 : x139_54 = true
                  · subst c64
                    have H1 : (some false) = some r := by rw [if_pos rfl] at H; exact H
                    clear H
                    have H := H1
                    clear H1
                    obtain rfl := Option.some.inj H
                    go_wp2
                    go_ret
                    exact ⟨by first | rfl | (simp [errW_none, errW_some] <;> rfl) | (simp [*, errW_none, errW_some] <;> rfl), by repeat (first | (with_reducible first | exact HB.out | apply below_alloc | apply pw_below_drewN | apply below_drew1) | exact HB.out)⟩
                  · replace c64 := Bool.eq_false_iff.mpr c64
                    subst c64
                    have H1 : (if t124.size + 1 ≤ 9223372036854775807 then ((number_Cmp.f kj54 t123 (t124 ++ (⟨#[48]⟩ : ByteArray))).bind fun bt144 => (if bt144.2 = 0 then (if (t124.size : Int) < (t123.size : Int) then ((graftwoodlaw02_awake.f kj54).bind fun t146 => (some t146)) else (if bt144.1 < 0 then ((graftwoodlaw02_awake.f kj54).bind fun t147 => (some t147)) else (if t124.toList = ([48] : List UInt8) then ((graftwoodlaw02_awake.f kj54).bind fun t148 => (some t148)) else (some false)))) else ((graftwoodlaw02_awake.f kj54).bind fun t149 => (some t149)))) else (none)) = some r := by rw [if_neg (show ¬ (false = true) by decide)] at H; exact H
                    clear H
                    have H := H1
                    clear H1
                    by_cases c65 : t124.size + 1 ≤ 9223372036854775807
                    · rw [if_pos c65] at H
                      have c65b0 := eq_true c65
                      have c65b1 : decide (t124.size + 1 ≤ 9223372036854775807) = true := decide_eq_true c65
                      try have c65b2 : (9223372036854775807 < t124.size + 1) = False := eq_false (Nat.not_lt.2 c65)
                      replace H := Option.bind_eq_some_iff.mp H
                      obtain ⟨⟨t144, t145⟩, A660, H⟩ := H
                      replace H : (if t145 = 0 then (if (t124.size : Int) < (t123.size : Int) then ((graftwoodlaw02_awake.f kj54).bind fun t146 => (some t146)) else (if t144 < 0 then ((graftwoodlaw02_awake.f kj54).bind fun t147 => (some t147)) else (if t124.toList = ([48] : List UInt8) then ((graftwoodlaw02_awake.f kj54).bind fun t148 => (some t148)) else (some false)))) else ((graftwoodlaw02_awake.f kj54).bind fun t149 => (some t149))) = some r := H
                      have A66 := Aside0.mk A660
                      clear A660
                      by_cases c67 : t145 = 0
                      · rw [if_pos c67] at H
                        have c67b0 : (t145 == 0) = true := beq_iff_eq.mpr c67
                        have c67b1 : (t145 != 0) = false := bne_eq_false_iff_eq.mpr c67
                        clear c67
                        by_cases c68 : (t124.size : Int) < (t123.size : Int)
                        · rw [if_pos c68] at H
                          have c68b0 : decide ((t124.size : Int) < (t123.size : Int)) = true := decide_eq_true c68
                          have c68b1 : decide (t124.size < t123.size) = true := decide_eq_true (Int.ofNat_lt.mp c68)
                          (try (have c68n0 := c68b0; simp only [Int.ofNat_lt, Int.ofNat_le] at c68n0))
                          (try (have c68n1 := c68b1; simp only [Int.ofNat_lt, Int.ofNat_le] at c68n1))
                          clear c68
                          replace H := Option.bind_eq_some_iff.mp H
                          obtain ⟨t146, A690, H⟩ := H
                          replace H : (some t146) = some r := H
                          have A69 := Aside0.mk A690
                          clear A690
                          obtain rfl := Option.some.inj H
                          go_wp2_with (first | ((with_reducible refine gate_callee (f := 10) rfl ?_); refine goesL_ (some 144) rfl rfl Try.func10 (by kernel_rfl) rfl #[.string t123, .string (t124 ++ (⟨#[48]⟩ : ByteArray))] rfl (by (try simp only [List.map_toArray, List.map_cons, List.map_nil]); first | done | rfl | (simp only [List.length_drop, List.length_take]; rfl)) ?_; (with_reducible refine (number_Cmp.calls kj54 t123 (t124 ++ (⟨#[48]⟩ : ByteArray)) t144 t145 _ A66.out).mono ?_); rintro e w70 ⟨rfl, hb⟩; refine ⟨_, rfl, ?_⟩; have n0_ := Aside0.mk (below_step (by repeat (first | (with_reducible first | exact HB.out | apply below_alloc | apply pw_below_drewN | apply below_drew1) | exact HB.out)) hb); clear HB; have HB := n0_; clear n0_; (try clear hb); (try clear hb2); (try clear hk); (try clear hi)) | (go_at_call 12; (with_reducible refine (graftwoodlaw02_awake.calls kj54  t146 _ A69.out).mono ?_); rintro e w71 ⟨rfl, hb⟩; have n0_ := Aside0.mk (below_step (by repeat (first | (with_reducible first | exact HB.out | apply below_alloc | apply pw_below_drewN | apply below_drew1) | exact HB.out)) hb); clear HB; have HB := n0_; clear n0_; (try clear hb); (try clear hb2); (try clear hk); (try clear hi)))
                          go_ret
                          exact ⟨by first | rfl | (simp [errW_none, errW_some] <;> rfl) | (simp [*, errW_none, errW_some] <;> rfl), by repeat (first | (with_reducible first | exact HB.out | apply below_alloc | apply pw_below_drewN | apply below_drew1) | exact HB.out)⟩
                        · rw [if_neg c68] at H
                          have c68b0 : decide ((t124.size : Int) < (t123.size : Int)) = false := decide_eq_false c68
                          have c68b1 : decide (t124.size < t123.size) = false := decide_eq_false (fun h => c68 (Int.ofNat_lt.mpr h))
                          (try (have c68n0 := c68b0; simp only [Int.ofNat_lt, Int.ofNat_le] at c68n0))
                          (try (have c68n1 := c68b1; simp only [Int.ofNat_lt, Int.ofNat_le] at c68n1))
                          clear c68
                          by_cases c72 : t144 < 0
                          · rw [if_pos c72] at H
                            have c72b0 : decide (t144 < 0) = true := decide_eq_true c72
                            clear c72
                            replace H := Option.bind_eq_some_iff.mp H
                            obtain ⟨t147, A730, H⟩ := H
                            replace H : (some t147) = some r := H
                            have A73 := Aside0.mk A730
                            clear A730
                            obtain rfl := Option.some.inj H
                            go_wp2_with (first | ((with_reducible refine gate_callee (f := 10) rfl ?_); refine goesL_ (some 144) rfl rfl Try.func10 (by kernel_rfl) rfl #[.string t123, .string (t124 ++ (⟨#[48]⟩ : ByteArray))] rfl (by (try simp only [List.map_toArray, List.map_cons, List.map_nil]); first | done | rfl | (simp only [List.length_drop, List.length_take]; rfl)) ?_; (with_reducible refine (number_Cmp.calls kj54 t123 (t124 ++ (⟨#[48]⟩ : ByteArray)) t144 t145 _ A66.out).mono ?_); rintro e w74 ⟨rfl, hb⟩; refine ⟨_, rfl, ?_⟩; have n0_ := Aside0.mk (below_step (by repeat (first | (with_reducible first | exact HB.out | apply below_alloc | apply pw_below_drewN | apply below_drew1) | exact HB.out)) hb); clear HB; have HB := n0_; clear n0_; (try clear hb); (try clear hb2); (try clear hk); (try clear hi)) | (go_at_call 12; (with_reducible refine (graftwoodlaw02_awake.calls kj54  t147 _ A73.out).mono ?_); rintro e w75 ⟨rfl, hb⟩; have n0_ := Aside0.mk (below_step (by repeat (first | (with_reducible first | exact HB.out | apply below_alloc | apply pw_below_drewN | apply below_drew1) | exact HB.out)) hb); clear HB; have HB := n0_; clear n0_; (try clear hb); (try clear hb2); (try clear hk); (try clear hi)))
                            go_ret
                            exact ⟨by first | rfl | (simp [errW_none, errW_some] <;> rfl) | (simp [*, errW_none, errW_some] <;> rfl), by repeat (first | (with_reducible first | exact HB.out | apply below_alloc | apply pw_below_drewN | apply below_drew1) | exact HB.out)⟩
                          · rw [if_neg c72] at H
                            have c72b0 : decide (t144 < 0) = false := decide_eq_false c72
                            clear c72
                            by_cases c76 : t124.toList = ([48] : List UInt8)
                            · rw [if_pos c76] at H
                              have c76b0 : (t124.toList == ([48] : List UInt8)) = true := beq_iff_eq.mpr c76
                              have c76b1 : (t124.toList != ([48] : List UInt8)) = false := bne_eq_false_iff_eq.mpr c76
                              clear c76
                              replace H := Option.bind_eq_some_iff.mp H
                              obtain ⟨t148, A770, H⟩ := H
                              replace H : (some t148) = some r := H
                              have A77 := Aside0.mk A770
                              clear A770
                              obtain rfl := Option.some.inj H
                              go_wp2_with (first | ((with_reducible refine gate_callee (f := 10) rfl ?_); refine goesL_ (some 144) rfl rfl Try.func10 (by kernel_rfl) rfl #[.string t123, .string (t124 ++ (⟨#[48]⟩ : ByteArray))] rfl (by (try simp only [List.map_toArray, List.map_cons, List.map_nil]); first | done | rfl | (simp only [List.length_drop, List.length_take]; rfl)) ?_; (with_reducible refine (number_Cmp.calls kj54 t123 (t124 ++ (⟨#[48]⟩ : ByteArray)) t144 t145 _ A66.out).mono ?_); rintro e w78 ⟨rfl, hb⟩; refine ⟨_, rfl, ?_⟩; have n0_ := Aside0.mk (below_step (by repeat (first | (with_reducible first | exact HB.out | apply below_alloc | apply pw_below_drewN | apply below_drew1) | exact HB.out)) hb); clear HB; have HB := n0_; clear n0_; (try clear hb); (try clear hb2); (try clear hk); (try clear hi)) | (go_at_call 12; (with_reducible refine (graftwoodlaw02_awake.calls kj54  t148 _ A77.out).mono ?_); rintro e w79 ⟨rfl, hb⟩; have n0_ := Aside0.mk (below_step (by repeat (first | (with_reducible first | exact HB.out | apply below_alloc | apply pw_below_drewN | apply below_drew1) | exact HB.out)) hb); clear HB; have HB := n0_; clear n0_; (try clear hb); (try clear hb2); (try clear hk); (try clear hi)))
                              go_ret
                              exact ⟨by first | rfl | (simp [errW_none, errW_some] <;> rfl) | (simp [*, errW_none, errW_some] <;> rfl), by repeat (first | (with_reducible first | exact HB.out | apply below_alloc | apply pw_below_drewN | apply below_drew1) | exact HB.out)⟩
                            · rw [if_neg c76] at H
                              have c76b0 : (t124.toList == ([48] : List UInt8)) = false := beq_eq_false_iff_ne.mpr c76
                              have c76b1 : (t124.toList != ([48] : List UInt8)) = true := bne_iff_ne.mpr c76
                              obtain rfl := Option.some.inj H
                              go_wp2_with (first | ((with_reducible refine gate_callee (f := 10) rfl ?_); refine goesL_ (some 144) rfl rfl Try.func10 (by kernel_rfl) rfl #[.string t123, .string (t124 ++ (⟨#[48]⟩ : ByteArray))] rfl (by (try simp only [List.map_toArray, List.map_cons, List.map_nil]); first | done | rfl | (simp only [List.length_drop, List.length_take]; rfl)) ?_; (with_reducible refine (number_Cmp.calls kj54 t123 (t124 ++ (⟨#[48]⟩ : ByteArray)) t144 t145 _ A66.out).mono ?_); rintro e w80 ⟨rfl, hb⟩; refine ⟨_, rfl, ?_⟩; have n0_ := Aside0.mk (below_step (by repeat (first | (with_reducible first | exact HB.out | apply below_alloc | apply pw_below_drewN | apply below_drew1) | exact HB.out)) hb); clear HB; have HB := n0_; clear n0_; (try clear hb); (try clear hb2); (try clear hk); (try clear hi)))
                              go_ret
                              exact ⟨by first | rfl | (simp [errW_none, errW_some] <;> rfl) | (simp [*, errW_none, errW_some] <;> rfl), by repeat (first | (with_reducible first | exact HB.out | apply below_alloc | apply pw_below_drewN | apply below_drew1) | exact HB.out)⟩
                      · rw [if_neg c67] at H
                        have c67b0 : (t145 == 0) = false := beq_eq_false_iff_ne.mpr c67
                        have c67b1 : (t145 != 0) = true := bne_iff_ne.mpr c67
                        replace H := Option.bind_eq_some_iff.mp H
                        obtain ⟨t149, A810, H⟩ := H
                        replace H : (some t149) = some r := H
                        have A81 := Aside0.mk A810
                        clear A810
                        obtain rfl := Option.some.inj H
                        go_wp2_with (first | ((with_reducible refine gate_callee (f := 10) rfl ?_); refine goesL_ (some 144) rfl rfl Try.func10 (by kernel_rfl) rfl #[.string t123, .string (t124 ++ (⟨#[48]⟩ : ByteArray))] rfl (by (try simp only [List.map_toArray, List.map_cons, List.map_nil]); first | done | rfl | (simp only [List.length_drop, List.length_take]; rfl)) ?_; (with_reducible refine (number_Cmp.calls kj54 t123 (t124 ++ (⟨#[48]⟩ : ByteArray)) t144 t145 _ A66.out).mono ?_); rintro e w82 ⟨rfl, hb⟩; refine ⟨_, rfl, ?_⟩; have n0_ := Aside0.mk (below_step (by repeat (first | (with_reducible first | exact HB.out | apply below_alloc | apply pw_below_drewN | apply below_drew1) | exact HB.out)) hb); clear HB; have HB := n0_; clear n0_; (try clear hb); (try clear hb2); (try clear hk); (try clear hi)) | (go_at_call 12; (with_reducible refine (graftwoodlaw02_awake.calls kj54  t149 _ A81.out).mono ?_); rintro e w83 ⟨rfl, hb⟩; have n0_ := Aside0.mk (below_step (by repeat (first | (with_reducible first | exact HB.out | apply below_alloc | apply pw_below_drewN | apply below_drew1) | exact HB.out)) hb); clear HB; have HB := n0_; clear n0_; (try clear hb); (try clear hb2); (try clear hk); (try clear hi)))
                        go_ret
                        exact ⟨by first | rfl | (simp [errW_none, errW_some] <;> rfl) | (simp [*, errW_none, errW_some] <;> rfl), by repeat (first | (with_reducible first | exact HB.out | apply below_alloc | apply pw_below_drewN | apply below_drew1) | exact HB.out)⟩
                    · rw [if_neg c65] at H
                      exact absurd H (by simp)

/-- THE ONE PURE STATEMENT of graftwoodlaw02_NumberOrder: yours. -/
def graftwoodlaw02_NumberOrder.Pure : Prop := ∀ (a0 : ByteArray) (a1 : ByteArray) (a2 : ByteArray), a0.size ≤ 140737488351232 → a1.size ≤ 140737488351232 → a2.size ≤ 140737488351232 → ∃ k, graftwoodlaw02_NumberOrder.f k a0 a1 a2 = some true
theorem graftwoodlaw02_NumberOrder.walk (P : graftwoodlaw02_NumberOrder.Pure) (a0 : ByteArray) (a1 : ByteArray) (a2 : ByteArray) (w : World) (w0 : a0.size ≤ 140737488351232) (w1 : a1.size ≤ 140737488351232) (w2 : a2.size ≤ 140737488351232) :
    Calls Try.prog 3 #[.string a0, .string a1, .string a2] w fun e w' => e = .returned (.bool true) ∧ Below w.heap.size w w' := by
  obtain ⟨k, h⟩ := P a0 a1 a2 w0 w1 w2
  refine (graftwoodlaw02_NumberOrder.calls k a0 a1 a2 true w h).mono ?_
  rintro e w' ⟨rfl, hd⟩
  exact ⟨rfl, hd⟩

end Go.Proofs.Ytgldbbgcdpgbcaa.PAll
