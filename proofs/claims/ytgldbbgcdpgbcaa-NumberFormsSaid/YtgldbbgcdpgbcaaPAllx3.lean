-- WRITTEN FOR THIS CLAIM by a program of this session (a copy of the print with given functions)
import Derived.Test.YtgldbbgcdpgbcaaPAllx0
import Derived.Test.YtgldbbgcdpgbcaaPAllx1
namespace Go.Proofs.Ytgldbbgcdpgbcaa.PAll
open Go.RowKit Go.Proofs.YtgldbbgcdpgbcaaW.PrintWords Go.Proofs.YtgldbbgcdpgbcaaW.PrintLast Go.Proofs.YtgldbbgcdpgbcaaW.PrintMore
attribute [local go_sem] max2_int min2_int max_two min_two max_three min_three max_four min_four   -- for this text's walks alone
set_option linter.unusedVariables false
set_option linter.unusedSimpArgs false

/-! ### graftwoodlaw02_NumberForms: function 4 -/
mutual
def graftwoodlaw02_NumberForms.j0 : Nat → ByteArray → Int → Int → Bool → Option (Bool)
  | 0, _, _, _, _ => none
  | k + 1, x0, x1, x2, x19 => if x19 = true then (some false) else (if (wrap64 ((x0.size : Int) + 1)) = 0 then (none) else (if 0 ≤ (Int.tmod (wrap64 (x1)) (wrap64 ((x0.size : Int) + 1))) then (if (Int.tmod (wrap64 (x1)) (wrap64 ((x0.size : Int) + 1))) ≤ (x0.size : Int) then ((some (([x2] : List Int) : List Int)).bind fun y153 => (if (x0.extract 0 ((Int.tmod (wrap64 (x1)) (wrap64 ((x0.size : Int) + 1))) : Int).toNat).size + (strOfNums y153).size ≤ 9223372036854775807 then (if ((x0.extract 0 ((Int.tmod (wrap64 (x1)) (wrap64 ((x0.size : Int) + 1))) : Int).toNat) ++ (strOfNums y153)).size + (x0.extract ((Int.tmod (wrap64 (x1)) (wrap64 ((x0.size : Int) + 1))) : Int).toNat x0.size).size ≤ 9223372036854775807 then (if x2 < 48 then (graftwoodlaw02_NumberForms.j1 k x0 x2 (Int.tmod (wrap64 (x1)) (wrap64 ((x0.size : Int) + 1))) (((x0.extract 0 ((Int.tmod (wrap64 (x1)) (wrap64 ((x0.size : Int) + 1))) : Int).toNat) ++ (strOfNums y153)) ++ (x0.extract ((Int.tmod (wrap64 (x1)) (wrap64 ((x0.size : Int) + 1))) : Int).toNat x0.size)) true) else (graftwoodlaw02_NumberForms.j1 k x0 x2 (Int.tmod (wrap64 (x1)) (wrap64 ((x0.size : Int) + 1))) (((x0.extract 0 ((Int.tmod (wrap64 (x1)) (wrap64 ((x0.size : Int) + 1))) : Int).toNat) ++ (strOfNums y153)) ++ (x0.extract ((Int.tmod (wrap64 (x1)) (wrap64 ((x0.size : Int) + 1))) : Int).toNat x0.size)) (decide (x2 > 57)))) else (none)) else (none))) else (none)) else (none)))
def graftwoodlaw02_NumberForms.j1 : Nat → ByteArray → Int → Int → ByteArray → Bool → Option (Bool)
  | 0, _, _, _, _, _ => none
  | k + 1, x0, x2, x7, x8, x42 => if x42 = true then ((number_May.f x8).bind fun t156 => (if t156 = true then (some false) else ((graftwoodlaw02_awake.f k).bind fun t157 => (some t157)))) else ((number_May.f x0).bind fun t158 => (if t158 = true then ((number_May.f x8).bind fun t159 => (if x0.toList = ([48] : List UInt8) then (if x7 = 0 then (if (t159 == (x2 != 48)) = true then ((graftwoodlaw02_awake.f k).bind fun t160 => (some t160)) else (some false)) else (if (t159 == false) = true then ((graftwoodlaw02_awake.f k).bind fun t161 => (some t161)) else (some false))) else (if x7 > 0 then (if (t159 == true) = true then ((graftwoodlaw02_awake.f k).bind fun t162 => (some t162)) else (some false)) else (if x2 = 48 then (if (t159 == false) = true then ((graftwoodlaw02_awake.f k).bind fun t163 => (some t163)) else (some false)) else (if (t159 == true) = true then ((graftwoodlaw02_awake.f k).bind fun t164 => (some t164)) else (some false)))))) else ((graftwoodlaw02_awake.f k).bind fun t165 => (some t165))))
end
def graftwoodlaw02_NumberForms.f (k : Nat) (a0 : ByteArray) (a1 : Int) (a2 : Int) : Option (Bool) := (graftwoodlaw01_Few.f a0).bind fun t150 => ((number_May.f (⟨#[]⟩ : ByteArray)).bind fun t151 => (if t151 = true then (graftwoodlaw02_NumberForms.j0 k t150 a1 a2 true) else (if 1 + t150.size ≤ 9223372036854775807 then ((number_May.f ((⟨#[48]⟩ : ByteArray) ++ t150)).bind fun t152 => (graftwoodlaw02_NumberForms.j0 k t150 a1 a2 (t152 != (t150.toList == ([] : List UInt8))))) else (none))))
theorem graftwoodlaw02_NumberForms.mono_l : ∀ k, (∀ y0 y1 y2 y3, LeO (graftwoodlaw02_NumberForms.j0 k y0 y1 y2 y3) (graftwoodlaw02_NumberForms.j0 (k + 1) y0 y1 y2 y3)) ∧ (∀ y0 y1 y2 y3 y4, LeO (graftwoodlaw02_NumberForms.j1 k y0 y1 y2 y3 y4) (graftwoodlaw02_NumberForms.j1 (k + 1) y0 y1 y2 y3 y4))
  | 0 => ⟨fun _ _ _ _ r h => by simp [graftwoodlaw02_NumberForms.j0] at h, fun _ _ _ _ _ r h => by simp [graftwoodlaw02_NumberForms.j1] at h⟩
  | k + 1 => by
    obtain ⟨ih0, ih1⟩ := graftwoodlaw02_NumberForms.mono_l k
    refine ⟨?_, ?_⟩
    · intro y0 y1 y2 y3
      unfold graftwoodlaw02_NumberForms.j0
      repeat' first
      | (with_reducible exact ih0 _ _ _ _)
      | (with_reducible exact ih1 _ _ _ _ _)
      | (with_reducible exact graftwoodlaw02_awake.mono _)
      | (with_reducible exact LeO.refl _)
      | (with_reducible exact LeO.none _)
      | (with_reducible refine LeO.ite ?_ ?_)
      | (with_reducible refine LeO.bind ?_ (fun _ => ?_))
      | exact ih0 _ _ _ _
      | exact ih1 _ _ _ _ _
      | exact graftwoodlaw02_awake.mono _
      | exact LeO.none _
      | refine LeO.ite ?_ ?_
      | refine LeO.bind ?_ (fun _ => ?_)
    · intro y0 y1 y2 y3 y4
      unfold graftwoodlaw02_NumberForms.j1
      repeat' first
      | (with_reducible exact ih0 _ _ _ _)
      | (with_reducible exact ih1 _ _ _ _ _)
      | (with_reducible exact graftwoodlaw02_awake.mono _)
      | (with_reducible exact LeO.refl _)
      | (with_reducible exact LeO.none _)
      | (with_reducible refine LeO.ite ?_ ?_)
      | (with_reducible refine LeO.bind ?_ (fun _ => ?_))
      | exact ih0 _ _ _ _
      | exact ih1 _ _ _ _ _
      | exact graftwoodlaw02_awake.mono _
      | exact LeO.none _
      | refine LeO.ite ?_ ?_
      | refine LeO.bind ?_ (fun _ => ?_)
theorem graftwoodlaw02_NumberForms.mono : ∀ a0 a1 a2 k, LeO (graftwoodlaw02_NumberForms.f k a0 a1 a2) (graftwoodlaw02_NumberForms.f (k + 1) a0 a1 a2) := by
  intro a0 a1 a2 k
  obtain ⟨ih0, ih1⟩ := graftwoodlaw02_NumberForms.mono_l k
  unfold graftwoodlaw02_NumberForms.f
  repeat' first
      | (with_reducible exact ih0 _ _ _ _)
      | (with_reducible exact ih1 _ _ _ _ _)
      | (with_reducible exact graftwoodlaw02_awake.mono _)
      | (with_reducible exact LeO.refl _)
      | (with_reducible exact LeO.none _)
      | (with_reducible refine LeO.ite ?_ ?_)
      | (with_reducible refine LeO.bind ?_ (fun _ => ?_))
      | exact ih0 _ _ _ _
      | exact ih1 _ _ _ _ _
      | exact graftwoodlaw02_awake.mono _
      | exact LeO.none _
      | refine LeO.ite ?_ ?_
      | refine LeO.bind ?_ (fun _ => ?_)
def graftwoodlaw02_NumberForms.T5 : Bool × List (List Nat × List Nat) := (true, [([], []), ([], []), ([0, 1], [0, 1]), ([], []), ([3], [3]), ([4], [4]), ([2, 5], [2, 5]), ([], []), ([], []), ([7, 8], [7, 8]), ([6, 9], [6, 9]), ([10, 0, 1, 2, 3, 4, 5, 6, 7, 8, 9, 10], [10])])
def graftwoodlaw02_NumberForms.B5 : List Nat := [0, 0, 3, 0, 8, 24, 63, 0, 0, 384, 1023, 2047]
theorem graftwoodlaw02_NumberForms.tab5 : rtab .any (opsOf Try.f4 5) = graftwoodlaw02_NumberForms.T5 := by kernel_rfl
theorem graftwoodlaw02_NumberForms.bits5 : waitsOk graftwoodlaw02_NumberForms.T5.2 graftwoodlaw02_NumberForms.B5 = true := by kernel_rfl
set_option maxHeartbeats 8000000 in
set_option maxRecDepth 100000 in
theorem graftwoodlaw02_NumberForms.calls (k : Nat) (a0 : ByteArray) (a1 : Int) (a2 : Int) (r : Bool) (w : World) (h : graftwoodlaw02_NumberForms.f k a0 a1 a2 = some r) :
    Calls Try.prog 4 #[.string a0, .int .u8 a1, .int .u8 a2] w fun e w' => e = .returned (.bool r) ∧ Below w.heap.size w w' := by
  have HB := Aside0.mk (Below.refl w.heap.size w)
  have H : ((graftwoodlaw01_Few.f a0).bind fun t150 => ((number_May.f (⟨#[]⟩ : ByteArray)).bind fun t151 => (if t151 = true then (graftwoodlaw02_NumberForms.j0 k t150 a1 a2 true) else (if 1 + t150.size ≤ 9223372036854775807 then ((number_May.f ((⟨#[48]⟩ : ByteArray) ++ t150)).bind fun t152 => (graftwoodlaw02_NumberForms.j0 k t150 a1 a2 (t152 != (t150.toList == ([] : List UInt8))))) else (none))))) = some r := h
  clear h
  replace H := Option.bind_eq_some_iff.mp H
  obtain ⟨t150, A40, H⟩ := H
  replace H : ((number_May.f (⟨#[]⟩ : ByteArray)).bind fun t151 => (if t151 = true then (graftwoodlaw02_NumberForms.j0 k t150 a1 a2 true) else (if 1 + t150.size ≤ 9223372036854775807 then ((number_May.f ((⟨#[48]⟩ : ByteArray) ++ t150)).bind fun t152 => (graftwoodlaw02_NumberForms.j0 k t150 a1 a2 (t152 != (t150.toList == ([] : List UInt8))))) else (none)))) = some r := H
  have A4 := Aside0.mk A40
  clear A40
  have HC5 := Aside0.mk H
  clear H
  go_enter Try.func4, Try.ntmps4
  go_upto_region 2 with (first | ((with_reducible refine gate_callee (f := 9) rfl ?_); refine goesL_ (some 10) rfl rfl Try.func9 (by kernel_rfl) rfl #[.string a0] rfl (by (try simp only [List.map_toArray, List.map_cons, List.map_nil]); first | done | rfl | (simp only [List.length_drop, List.length_take]; rfl)) ?_; (with_reducible refine (graftwoodlaw01_Few.calls a0 t150 _ A4.out).mono ?_); rintro e w' ⟨rfl, ⟨nd, rfl⟩⟩; refine ⟨_, rfl, ?_⟩))
  (try simp only [Act.put, List.setIfInBounds_toArray, List.set_cons_zero, List.set_cons_succ])
  go_cut [19] (fun v19 wc => ∃ (kq : Nat) (x19_4 : Bool), v19 = .bool x19_4 ∧ Aside0 (graftwoodlaw02_NumberForms.j0 kq t150 a1 a2 x19_4 = some r) ∧ Aside0 (kq ≤ k) ∧ Aside0 (Below w.heap.size w wc))
  case first =>
    have H := HC5.out
    clear HC5
    replace H := Option.bind_eq_some_iff.mp H
    obtain ⟨t151, A60, H⟩ := H
    replace H : (if t151 = true then (graftwoodlaw02_NumberForms.j0 k t150 a1 a2 true) else (if 1 + t150.size ≤ 9223372036854775807 then ((number_May.f ((⟨#[48]⟩ : ByteArray) ++ t150)).bind fun t152 => (graftwoodlaw02_NumberForms.j0 k t150 a1 a2 (t152 != (t150.toList == ([] : List UInt8))))) else (none))) = some r := H
    have A6 := Aside0.mk A60
    clear A60
    by_cases c7 : t151 = true
    · subst c7
      have H1 : (graftwoodlaw02_NumberForms.j0 k t150 a1 a2 true) = some r := by rw [if_pos rfl] at H; exact H
      clear H
      have H := H1
      clear H1
      have H' := Aside0.mk H
      clear H
      go_wp2_with (first | ((with_reducible refine gate_callee (f := 11) rfl ?_); refine goesL_ (some 11) rfl rfl Try.func11 (by kernel_rfl) rfl #[.string (⟨#[]⟩ : ByteArray)] rfl (by (try simp only [List.map_toArray, List.map_cons, List.map_nil]); first | done | rfl | (simp only [List.length_drop, List.length_take]; rfl)) ?_; (with_reducible refine (number_May.calls (⟨#[]⟩ : ByteArray) true _ A6.out).mono ?_); rintro e w8 ⟨rfl, hb⟩; refine ⟨_, rfl, ?_⟩; have n0_ := Aside0.mk (below_step (by repeat (first | (with_reducible first | exact HB.out | apply below_alloc | apply pw_below_drewN | apply below_drew1) | exact HB.out)) hb); clear HB; have HB := n0_; clear n0_; (try clear hb); (try clear hb2); (try clear hk); (try clear hi)))
      go_meet
      case rel => exact ⟨_, (true), (by first | rfl | (simp; done) | (simp [*]; done) | (simp [bne]; done)), H', ⟨by first | omega | exact Nat.le_refl _⟩, ⟨by repeat (first | (with_reducible first | exact HB.out | apply below_alloc | apply pw_below_drewN | apply below_drew1) | exact HB.out)⟩⟩
    · replace c7 := Bool.eq_false_iff.mpr c7
      subst c7
      have H1 : (if 1 + t150.size ≤ 9223372036854775807 then ((number_May.f ((⟨#[48]⟩ : ByteArray) ++ t150)).bind fun t152 => (graftwoodlaw02_NumberForms.j0 k t150 a1 a2 (t152 != (t150.toList == ([] : List UInt8))))) else (none)) = some r := by rw [if_neg (show ¬ (false = true) by decide)] at H; exact H
      clear H
      have H := H1
      clear H1
      by_cases c9 : 1 + t150.size ≤ 9223372036854775807
      · rw [if_pos c9] at H
        have c9b0 := eq_true c9
        have c9b1 : decide (1 + t150.size ≤ 9223372036854775807) = true := decide_eq_true c9
        try have c9b2 : (9223372036854775807 < 1 + t150.size) = False := eq_false (Nat.not_lt.2 c9)
        replace H := Option.bind_eq_some_iff.mp H
        obtain ⟨t152, A100, H⟩ := H
        replace H : (graftwoodlaw02_NumberForms.j0 k t150 a1 a2 (t152 != (t150.toList == ([] : List UInt8)))) = some r := H
        have A10 := Aside0.mk A100
        clear A100
        have H' := Aside0.mk H
        clear H
        go_wp2_with (first | ((with_reducible refine gate_callee (f := 11) rfl ?_); refine goesL_ (some 11) rfl rfl Try.func11 (by kernel_rfl) rfl #[.string (⟨#[]⟩ : ByteArray)] rfl (by (try simp only [List.map_toArray, List.map_cons, List.map_nil]); first | done | rfl | (simp only [List.length_drop, List.length_take]; rfl)) ?_; (with_reducible refine (number_May.calls (⟨#[]⟩ : ByteArray) false _ A6.out).mono ?_); rintro e w11 ⟨rfl, hb⟩; refine ⟨_, rfl, ?_⟩; have n0_ := Aside0.mk (below_step (by repeat (first | (with_reducible first | exact HB.out | apply below_alloc | apply pw_below_drewN | apply below_drew1) | exact HB.out)) hb); clear HB; have HB := n0_; clear n0_; (try clear hb); (try clear hb2); (try clear hk); (try clear hi)) | (go_at_call 11; (with_reducible refine (number_May.calls ((⟨#[48]⟩ : ByteArray) ++ t150) t152 _ A10.out).mono ?_); rintro e w12 ⟨rfl, hb⟩; have n0_ := Aside0.mk (below_step (by repeat (first | (with_reducible first | exact HB.out | apply below_alloc | apply pw_below_drewN | apply below_drew1) | exact HB.out)) hb); clear HB; have HB := n0_; clear n0_; (try clear hb); (try clear hb2); (try clear hk); (try clear hi)))
        go_meet
        case rel => exact ⟨_, ((t152 != (t150.toList == ([] : List UInt8)))), (by first | rfl | (simp; done) | (simp [*]; done) | (simp [bne]; done)), H', ⟨by first | omega | exact Nat.le_refl _⟩, ⟨by repeat (first | (with_reducible first | exact HB.out | apply below_alloc | apply pw_below_drewN | apply below_drew1) | exact HB.out)⟩⟩
      · rw [if_neg c9] at H
        exact absurd H (by simp)
  case rest =>
    clear HC5
    try clear c1
    try clear p2
    try clear c4
    try clear c7
    try clear c9
    try clear c9b0
    try clear c9b1
    try clear c9b2
    try clear c11
    obtain ⟨kq, x19_4, rfl, HA, HJ4, HB⟩ := hcut
    cases kq with
    | zero => exact absurd HA.out (by simp [graftwoodlaw02_NumberForms.j0])
    | succ kj4 =>
      have H := HA.out
      clear HA
      simp only [graftwoodlaw02_NumberForms.j0] at H
      by_cases c13 : x19_4 = true
      · subst c13
        have H1 : (some false) = some r := by rw [if_pos rfl] at H; exact H
        clear H
        have H := H1
        clear H1
        obtain rfl := Option.some.inj H
        go_wp2
        go_ret
        exact ⟨by first | rfl | (simp [errW_none, errW_some] <;> rfl) | (simp [*, errW_none, errW_some] <;> rfl), by repeat (first | (with_reducible first | exact HB.out | apply below_alloc | apply pw_below_drewN | apply below_drew1) | exact HB.out)⟩
      · replace c13 := Bool.eq_false_iff.mpr c13
        subst c13
        have H1 : (if (wrap64 ((t150.size : Int) + 1)) = 0 then (none) else (if 0 ≤ (Int.tmod (wrap64 (a1)) (wrap64 ((t150.size : Int) + 1))) then (if (Int.tmod (wrap64 (a1)) (wrap64 ((t150.size : Int) + 1))) ≤ (t150.size : Int) then ((some (([a2] : List Int) : List Int)).bind fun y153 => (if (t150.extract 0 ((Int.tmod (wrap64 (a1)) (wrap64 ((t150.size : Int) + 1))) : Int).toNat).size + (strOfNums y153).size ≤ 9223372036854775807 then (if ((t150.extract 0 ((Int.tmod (wrap64 (a1)) (wrap64 ((t150.size : Int) + 1))) : Int).toNat) ++ (strOfNums y153)).size + (t150.extract ((Int.tmod (wrap64 (a1)) (wrap64 ((t150.size : Int) + 1))) : Int).toNat t150.size).size ≤ 9223372036854775807 then (if a2 < 48 then (graftwoodlaw02_NumberForms.j1 kj4 t150 a2 (Int.tmod (wrap64 (a1)) (wrap64 ((t150.size : Int) + 1))) (((t150.extract 0 ((Int.tmod (wrap64 (a1)) (wrap64 ((t150.size : Int) + 1))) : Int).toNat) ++ (strOfNums y153)) ++ (t150.extract ((Int.tmod (wrap64 (a1)) (wrap64 ((t150.size : Int) + 1))) : Int).toNat t150.size)) true) else (graftwoodlaw02_NumberForms.j1 kj4 t150 a2 (Int.tmod (wrap64 (a1)) (wrap64 ((t150.size : Int) + 1))) (((t150.extract 0 ((Int.tmod (wrap64 (a1)) (wrap64 ((t150.size : Int) + 1))) : Int).toNat) ++ (strOfNums y153)) ++ (t150.extract ((Int.tmod (wrap64 (a1)) (wrap64 ((t150.size : Int) + 1))) : Int).toNat t150.size)) (decide (a2 > 57)))) else (none)) else (none))) else (none)) else (none))) = some r := by rw [if_neg (show ¬ (false = true) by decide)] at H; exact H
        clear H
        have H := H1
        clear H1
        by_cases c14 : (wrap64 ((t150.size : Int) + 1)) = 0
        · rw [if_pos c14] at H
          exact absurd H (by simp)
        · rw [if_neg c14] at H
          have c14b0 : ((wrap64 ((t150.size : Int) + 1)) == 0) = false := beq_eq_false_iff_ne.mpr c14
          have c14b1 : ((wrap64 ((t150.size : Int) + 1)) != 0) = true := bne_iff_ne.mpr c14
          (try (have c14n0 := c14b0; simp only [Int.ofNat_lt, Int.ofNat_le] at c14n0))
          (try (have c14n1 := c14b1; simp only [Int.ofNat_lt, Int.ofNat_le] at c14n1))
          obtain ⟨ji15, hji15⟩ : ∃ j_ : Int, (Int.tmod (wrap64 (a1)) (wrap64 ((t150.size : Int) + 1))) = j_ := ⟨_, rfl⟩
          replace H : (if 0 ≤ (ji15) then (if (ji15) ≤ (t150.size : Int) then ((some (([a2] : List Int) : List Int)).bind fun y153 => (if (t150.extract 0 ((ji15) : Int).toNat).size + (strOfNums y153).size ≤ 9223372036854775807 then (if ((t150.extract 0 ((ji15) : Int).toNat) ++ (strOfNums y153)).size + (t150.extract ((ji15) : Int).toNat t150.size).size ≤ 9223372036854775807 then (if a2 < 48 then (graftwoodlaw02_NumberForms.j1 kj4 t150 a2 ji15 (((t150.extract 0 ((ji15) : Int).toNat) ++ (strOfNums y153)) ++ (t150.extract ((ji15) : Int).toNat t150.size)) true) else (graftwoodlaw02_NumberForms.j1 kj4 t150 a2 ji15 (((t150.extract 0 ((ji15) : Int).toNat) ++ (strOfNums y153)) ++ (t150.extract ((ji15) : Int).toNat t150.size)) (decide (a2 > 57)))) else (none)) else (none))) else (none)) else (none)) = some r := by first | (rw [hji15] at H; exact H) | (simp only [hji15] at H ⊢; exact H)
          by_cases c16 : 0 ≤ (ji15)
          · rw [if_pos c16] at H
            have c16b0 := eq_true c16
            have c16b1 : decide (0 ≤ (ji15)) = true := decide_eq_true c16
            clear c16
            by_cases c17 : (ji15) ≤ (t150.size : Int)
            · rw [if_pos c17] at H
              have c17b0 := eq_true c17
              have c17b1 : decide ((ji15) ≤ (t150.size : Int)) = true := decide_eq_true c17
              clear c17
              obtain ⟨y153, hy153⟩ : ∃ y_ : List Int, y_ = (([a2] : List Int)) := ⟨_, rfl⟩
              replace H : (if (t150.extract 0 ((ji15) : Int).toNat).size + (strOfNums y153).size ≤ 9223372036854775807 then (if ((t150.extract 0 ((ji15) : Int).toNat) ++ (strOfNums y153)).size + (t150.extract ((ji15) : Int).toNat t150.size).size ≤ 9223372036854775807 then (if a2 < 48 then (graftwoodlaw02_NumberForms.j1 kj4 t150 a2 ji15 (((t150.extract 0 ((ji15) : Int).toNat) ++ (strOfNums y153)) ++ (t150.extract ((ji15) : Int).toNat t150.size)) true) else (graftwoodlaw02_NumberForms.j1 kj4 t150 a2 ji15 (((t150.extract 0 ((ji15) : Int).toNat) ++ (strOfNums y153)) ++ (t150.extract ((ji15) : Int).toNat t150.size)) (decide (a2 > 57)))) else (none)) else (none)) = some r := by first | (rw [hy153]; with_reducible exact H) | (have H2_ := (Option.bind_some _ _).symm.trans H; rw [hy153]; with_reducible exact H2_) | (have H2_ := (Option.bind_some _ _).symm.trans H; with_reducible exact H2_) | with_reducible exact H | (rw [hy153]; exact H) | exact H
              have Ny153 := Aside0.mk hy153
              clear hy153
              by_cases c18 : (t150.extract 0 ((ji15) : Int).toNat).size + (strOfNums y153).size ≤ 9223372036854775807
              · rw [if_pos c18] at H
                have c18b0 := eq_true c18
                have c18b1 : decide ((t150.extract 0 ((ji15) : Int).toNat).size + (strOfNums y153).size ≤ 9223372036854775807) = true := decide_eq_true c18
                try have c18b2 : (9223372036854775807 < (t150.extract 0 ((ji15) : Int).toNat).size + (strOfNums y153).size) = False := eq_false (Nat.not_lt.2 c18)
                have c18z : (9223372036854775807 < (ji15).toNat + (strOfNums y153).size) = False := Oct.cat1 (of_decide_eq_true (by assumption)) c18
                have c19b0 := eq_true (of_decide_eq_true (by first | (with_reducible assumption) | assumption) : 0 ≤ (ji15))
                have c20b0 := eq_true (of_decide_eq_true (by first | (with_reducible assumption) | assumption) : (ji15) ≤ (t150.size : Int))
                by_cases c21 : ((t150.extract 0 ((ji15) : Int).toNat) ++ (strOfNums y153)).size + (t150.extract ((ji15) : Int).toNat t150.size).size ≤ 9223372036854775807
                · rw [if_pos c21] at H
                  have c21b0 := eq_true c21
                  have c21b1 : decide (((t150.extract 0 ((ji15) : Int).toNat) ++ (strOfNums y153)).size + (t150.extract ((ji15) : Int).toNat t150.size).size ≤ 9223372036854775807) = true := decide_eq_true c21
                  try have c21b2 : (9223372036854775807 < ((t150.extract 0 ((ji15) : Int).toNat) ++ (strOfNums y153)).size + (t150.extract ((ji15) : Int).toNat t150.size).size) = False := eq_false (Nat.not_lt.2 c21)
                  have c21z : (9223372036854775807 < (ji15).toNat + (strOfNums y153).size + (t150.size - (ji15).toNat)) = False := Oct.cat2 (of_decide_eq_true (by assumption)) c21
                  have HC22 := Aside0.mk H
                  clear H
                  try go_wp2
                  have n0_ := Aside0.mk (below_drew1 HB.out)
                  clear HB
                  have HB := n0_
                  clear n0_
                  refine start_ (n := 12) (S := fun w' => True) (ds := []) #[false, false, false, false, false, false, false, false, false, false, false, false] (by kernel_rfl) rfl rfl trivial (fun hHeld => ?_); refine with_tabW graftwoodlaw02_NumberForms.tab5 graftwoodlaw02_NumberForms.bits5 (fun HT_ HW_ => ?_)
                  generalize wc.drew = w23 at HB hHeld ⊢
                  refine pure_ (i := 0) (N := some 26) (v := ?_) (a' := ?_) #[true, false, false, false, false, false, false, false, false, false, false, false] rfl rfl (any_of HT_.out (by kernel_rfl)) (fun _ _ _ h => h) (Or.inl ⟨by rfl, ?_⟩) ?_ ?_
                  rotate_left
                  · intro w'
                    go_simp
                    with_reducible rfl
                  rotate_left
                  · simp only [Act.put, List.setIfInBounds_toArray, List.set_cons_zero, List.set_cons_succ, i64_w, i32_w]
                    rfl
                  refine pure_ (i := 1) (N := some 27) (v := ?_) (a' := ?_) #[true, true, false, false, false, false, false, false, false, false, false, false] rfl rfl (any_of HT_.out (by kernel_rfl)) (fun _ _ _ h => h) (Or.inl ⟨by rfl, ?_⟩) ?_ ?_
                  rotate_left
                  · intro w'
                    go_simp
                    with_reducible rfl
                  rotate_left
                  · simp only [Act.put, List.setIfInBounds_toArray, List.set_cons_zero, List.set_cons_succ, i64_w, i32_w]
                    rfl
                  refine pure_ (i := 2) (N := some 28) (v := ?_) (a' := ?_) #[true, true, true, false, false, false, false, false, false, false, false, false] rfl rfl (any_of HT_.out (by kernel_rfl)) (fun _ _ _ h => h) (Or.inl ⟨by rfl, ?_⟩) ?_ ?_
                  rotate_left
                  · intro w'
                    go_simp
                    with_reducible rfl
                  rotate_left
                  · simp only [Act.put, List.setIfInBounds_toArray, List.set_cons_zero, List.set_cons_succ, i64_w, i32_w]
                    rfl
                  refine pure_ (i := 3) (N := some 29) (v := ?_) (a' := ?_) #[true, true, true, true, false, false, false, false, false, false, false, false] rfl rfl (any_of HT_.out (by kernel_rfl)) (fun _ _ _ h => h) (Or.inl ⟨by rfl, ?_⟩) ?_ ?_
                  rotate_left
                  · intro w'
                    go_simp
                    with_reducible rfl
                  rotate_left
                  · simp only [Act.put, List.setIfInBounds_toArray, List.set_cons_zero, List.set_cons_succ, i64_w, i32_w]
                    rfl
                  refine pure_ (i := 7) (N := some 33) (v := ?_) (a' := ?_) #[true, true, true, true, false, false, false, true, false, false, false, false] rfl rfl (any_of HT_.out (by kernel_rfl)) (fun _ _ _ h => h) (Or.inl ⟨by rfl, ?_⟩) ?_ ?_
                  rotate_left
                  · intro w'
                    go_simp
                    with_reducible rfl
                  rotate_left
                  · simp only [Act.put, List.setIfInBounds_toArray, List.set_cons_zero, List.set_cons_succ, i64_w, i32_w]
                    rfl
                  refine pure_ (i := 8) (N := some 34) (v := ?_) (a' := ?_) #[true, true, true, true, false, false, false, true, true, false, false, false] rfl rfl (any_of HT_.out (by kernel_rfl)) (fun _ _ _ h => h) (Or.inl ⟨by rfl, ?_⟩) ?_ ?_
                  rotate_left
                  · intro w'
                    go_simp
                    with_reducible rfl
                  rotate_left
                  · simp only [Act.put, List.setIfInBounds_toArray, List.set_cons_zero, List.set_cons_succ, i64_w, i32_w]
                    rfl
                  refine pure_ (i := 9) (N := some 35) (v := ?_) (a' := ?_) #[true, true, true, true, false, false, false, true, true, true, false, false] rfl rfl (any_of HT_.out (by kernel_rfl)) (fun _ _ _ h => h) (Or.inl ⟨by rfl, ?_⟩) ?_ ?_
                  rotate_left
                  · intro w'
                    go_simp
                    with_reducible rfl
                  rotate_left
                  · simp only [Act.put, List.setIfInBounds_toArray, List.set_cons_zero, List.set_cons_succ, i64_w, i32_w]
                    rfl
                  refine one_ (i := 4) (N := some 30) #[true, true, true, true, true, false, false, true, true, true, false, false] rfl rfl (one_of HT_.out (by kernel_rfl)) (by decide) (fun K hK => ?_)
                  refine Kd.R_lit_step (Kd.int .u8) _ 5 ?hg (N := 30) ?hd (xs := ([a2] : List Int)) (inner := [.int .u8 a2]) (ok := fun _ => True) (okp := fun _ => True) ?hr ?hp (fun _ hk => hk) trivial (Below.refl _ _) (Nat.le_refl _) (by simp) ?_; (case hd => rfl); (case hg => rfl); (case hr => first | (go_simp; done) | (go_simp; rfl)); (case hp => exact (Reps.one (show Kd.M (Kd.int .u8) _ _ _ a2 [.int .u8 a2] from rfl) (Reps.none _ _)))
                  intro v154 w24 ho25 hb hg_ hnew_
                  clear hg_ hnew_
                  (first | rw [← Ny153.out] at ho25 | (simp only [Int.reduceToNat] at ho25; rw [← Ny153.out] at ho25))
                  have n0_ := Aside0.mk (Kd.R_lower ho25 (below_size (by repeat (first | (with_reducible first | exact HB.out | apply below_alloc | apply pw_below_drewN | apply below_drew1) | exact HB.out))))
                  have n1_ := Aside0.mk (below_step (by repeat (first | (with_reducible first | exact HB.out | apply below_alloc | apply pw_below_drewN | apply below_drew1) | exact HB.out)) hb)
                  clear HB
                  have HO155 := n0_
                  have HB := n1_
                  clear n0_ n1_
                  clear hb ho25
                  refine hK.out _ _ trivial (fun hHeld => ?_)
                  clear hK K
                  refine norm_ (a' := ?_) ?_ ?_
                  rotate_left
                  · show Act.put _ (some 30) _ = _
                    simp only [Act.put, List.setIfInBounds_toArray, List.set_cons_zero, List.set_cons_succ, i64_w, i32_w]
                    rfl
                  refine one_ (i := 5) (N := some 31) #[true, true, true, true, true, true, false, true, true, true, false, false] rfl rfl (one_of HT_.out (by kernel_rfl)) (by decide) (fun K hK => ?_)
                  have hcv26 := own_string (P := Try.prog) Try.underlying31 Try.underlying5 Try.underlying9 (Kd.own_of_R HO155.out)
                  refine value_ (w1 := ?_) (v := ?_) (by rfl) rfl ?_ ?_
                  rotate_left 2
                  · go_simp
                    constructor
                    · rfl
                    · rfl
                  clear hcv26
                  refine hK.out _ _ trivial (fun hHeld => ?_)
                  clear hK K
                  refine norm_ (a' := ?_) ?_ ?_
                  rotate_left
                  · show Act.put _ (some 31) _ = _
                    simp only [Act.put, List.setIfInBounds_toArray, List.set_cons_zero, List.set_cons_succ, i64_w, i32_w]
                    rfl
                  refine pure_ (i := 6) (N := some 32) (v := ?_) (a' := ?_) #[true, true, true, true, true, true, true, true, true, true, false, false] rfl rfl (any_of HT_.out (by kernel_rfl)) (fun _ _ _ h => h) (Or.inl ⟨by rfl, ?_⟩) ?_ ?_
                  rotate_left
                  · intro w'
                    go_simp
                    with_reducible rfl
                  rotate_left
                  · simp only [Act.put, List.setIfInBounds_toArray, List.set_cons_zero, List.set_cons_succ, i64_w, i32_w]
                    rfl
                  refine pure_ (i := 10) (N := some 36) (v := ?_) (a' := ?_) #[true, true, true, true, true, true, true, true, true, true, true, false] rfl rfl (any_of HT_.out (by kernel_rfl)) (fun _ _ _ h => h) (Or.inl ⟨by rfl, ?_⟩) ?_ ?_
                  rotate_left
                  · intro w'
                    go_simp
                    with_reducible rfl
                  rotate_left
                  · simp only [Act.put, List.setIfInBounds_toArray, List.set_cons_zero, List.set_cons_succ, i64_w, i32_w]
                    rfl
                  refine pure_ (i := 11) (N := some 8) (v := ?_) (a' := ?_) #[true, true, true, true, true, true, true, true, true, true, true, true] rfl rfl (any_of HT_.out (by kernel_rfl)) (fun _ _ _ h => h) (Or.inl ⟨by rfl, ?_⟩) ?_ ?_
                  rotate_left
                  · intro w'
                    go_simp
                    with_reducible rfl
                  rotate_left
                  · simp only [Act.put, List.setIfInBounds_toArray, List.set_cons_zero, List.set_cons_succ, i64_w, i32_w]
                    rfl
                  refine done_ (done_of HT_.out (by kernel_rfl)) ?_
                  go_upto_region 6 with (fail)
                  go_cut [42] (fun v42 wc => ∃ (kq : Nat) (x42_21 : Bool), v42 = .bool x42_21 ∧ Aside0 (graftwoodlaw02_NumberForms.j1 kq t150 a2 ji15 (((t150.extract 0 ((ji15) : Int).toNat) ++ (strOfNums y153)) ++ (t150.extract ((ji15) : Int).toNat t150.size)) x42_21 = some r) ∧ Aside0 (kq ≤ kj4) ∧ Aside0 (Below w.heap.size w wc))
                  case first =>
                    have H := HC22.out
                    clear HC22
                    by_cases c27 : a2 < 48
                    · rw [if_pos c27] at H
                      have c27b0 : decide (a2 < 48) = true := decide_eq_true c27
                      clear c27
                      (first | rw [c27b0] | (simp only [i64_w, i32_w]; rw [c27b0]) | skip)
                      have H' := Aside0.mk H
                      clear H
                      go_wp2
                      go_meet
                      case rel => exact ⟨_, (true), (by first | rfl | (simp; done) | (simp [*]; done) | (simp [bne]; done)), H', ⟨by have := HJ4.out; first | omega | exact Nat.le_refl _⟩, ⟨by repeat (first | (with_reducible first | exact HB.out | apply below_alloc | apply pw_below_drewN | apply below_drew1) | exact HB.out)⟩⟩
                    · rw [if_neg c27] at H
                      have c27b0 : decide (a2 < 48) = false := decide_eq_false c27
                      clear c27
                      (first | rw [c27b0] | (simp only [i64_w, i32_w]; rw [c27b0]) | skip)
                      have H' := Aside0.mk H
                      clear H
                      go_wp2
                      go_meet
                      case rel => exact ⟨_, (decide (a2 > 57)), (by first | rfl | (simp; done) | (simp [*]; done) | (simp [bne]; done)), H', ⟨by have := HJ4.out; first | omega | exact Nat.le_refl _⟩, ⟨by repeat (first | (with_reducible first | exact HB.out | apply below_alloc | apply pw_below_drewN | apply below_drew1) | exact HB.out)⟩⟩
                  case rest =>
                    clear HC22
                    try clear c1
                    try clear c2
                    try clear p2
                    try clear hcv2
                    try clear c4
                    try clear p6
                    try clear c7
                    try clear c9
                    try clear c9b0
                    try clear c9b1
                    try clear c9b2
                    try clear c11
                    try clear c13
                    try clear c14
                    try clear c14b0
                    try clear c14b1
                    try clear c16
                    try clear c16b0
                    try clear c16b1
                    try clear c17
                    try clear c17b0
                    try clear c17b1
                    try clear c18
                    try clear c18b0
                    try clear c18b1
                    try clear c18b2
                    try clear c19
                    try clear c19b0
                    try clear c20
                    try clear c20b0
                    try clear c21
                    try clear c21b0
                    try clear c21b1
                    try clear c21b2
                    try clear hcv26
                    try clear c27
                    try clear c27b0
                    try clear p2
                    obtain ⟨kq, x42_21, rfl, HA, HJ21, HB⟩ := hcut
                    cases kq with
                    | zero => exact absurd HA.out (by simp [graftwoodlaw02_NumberForms.j1])
                    | succ kj21 =>
                      have H := HA.out
                      clear HA
                      simp only [graftwoodlaw02_NumberForms.j1] at H
                      by_cases c28 : x42_21 = true
                      · subst c28
                        have H1 : ((number_May.f (((t150.extract 0 ((ji15) : Int).toNat) ++ (strOfNums y153)) ++ (t150.extract ((ji15) : Int).toNat t150.size))).bind fun t156 => (if t156 = true then (some false) else ((graftwoodlaw02_awake.f kj21).bind fun t157 => (some t157)))) = some r := by rw [if_pos rfl] at H; exact H
                        clear H
                        have H := H1
                        clear H1
                        replace H := Option.bind_eq_some_iff.mp H
                        obtain ⟨t156, A290, H⟩ := H
                        replace H : (if t156 = true then (some false) else ((graftwoodlaw02_awake.f kj21).bind fun t157 => (some t157))) = some r := H
                        have A29 := Aside0.mk A290
                        clear A290
                        by_cases c30 : t156 = true
                        · subst c30
                          have H1 : (some false) = some r := by rw [if_pos rfl] at H; exact H
                          clear H
                          have H := H1
                          clear H1
                          obtain rfl := Option.some.inj H
                          go_wp2_with (first | ((with_reducible refine gate_callee (f := 11) rfl ?_); refine goesL_ (some 44) rfl rfl Try.func11 (by kernel_rfl) rfl #[.string (((t150.extract 0 ((ji15) : Int).toNat) ++ (strOfNums y153)) ++ (t150.extract ((ji15) : Int).toNat t150.size))] rfl (by (try simp only [List.map_toArray, List.map_cons, List.map_nil]); first | done | (simp only [hji15]; rfl) | rfl | (simp only [List.length_drop, List.length_take]; rfl)) ?_; (with_reducible refine (number_May.calls (((t150.extract 0 ((ji15) : Int).toNat) ++ (strOfNums y153)) ++ (t150.extract ((ji15) : Int).toNat t150.size)) true _ A29.out).mono ?_); rintro e w31 ⟨rfl, hb⟩; refine ⟨_, rfl, ?_⟩; have n0_ := Aside0.mk (below_step (by repeat (first | (with_reducible first | exact HB.out | apply below_alloc | apply pw_below_drewN | apply below_drew1) | exact HB.out)) hb); clear HB; have HB := n0_; clear n0_; (try clear hb); (try clear hb2); (try clear hk); (try clear hi)))
                          go_ret
                          exact ⟨by first | rfl | (simp [errW_none, errW_some] <;> rfl) | (simp only [← hji15]; first | rfl | (simp [errW_none, errW_some] <;> rfl)) | (simp [*, errW_none, errW_some] <;> rfl), by repeat (first | (with_reducible first | exact HB.out | apply below_alloc | apply pw_below_drewN | apply below_drew1) | exact HB.out)⟩
                        · replace c30 := Bool.eq_false_iff.mpr c30
                          subst c30
                          have H1 : ((graftwoodlaw02_awake.f kj21).bind fun t157 => (some t157)) = some r := by rw [if_neg (show ¬ (false = true) by decide)] at H; exact H
                          clear H
                          have H := H1
                          clear H1
                          replace H := Option.bind_eq_some_iff.mp H
                          obtain ⟨t157, A320, H⟩ := H
                          replace H : (some t157) = some r := H
                          have A32 := Aside0.mk A320
                          clear A320
                          obtain rfl := Option.some.inj H
                          go_wp2_with (first | ((with_reducible refine gate_callee (f := 11) rfl ?_); refine goesL_ (some 44) rfl rfl Try.func11 (by kernel_rfl) rfl #[.string (((t150.extract 0 ((ji15) : Int).toNat) ++ (strOfNums y153)) ++ (t150.extract ((ji15) : Int).toNat t150.size))] rfl (by (try simp only [List.map_toArray, List.map_cons, List.map_nil]); first | done | (simp only [hji15]; rfl) | rfl | (simp only [List.length_drop, List.length_take]; rfl)) ?_; (with_reducible refine (number_May.calls (((t150.extract 0 ((ji15) : Int).toNat) ++ (strOfNums y153)) ++ (t150.extract ((ji15) : Int).toNat t150.size)) false _ A29.out).mono ?_); rintro e w33 ⟨rfl, hb⟩; refine ⟨_, rfl, ?_⟩; have n0_ := Aside0.mk (below_step (by repeat (first | (with_reducible first | exact HB.out | apply below_alloc | apply pw_below_drewN | apply below_drew1) | exact HB.out)) hb); clear HB; have HB := n0_; clear n0_; (try clear hb); (try clear hb2); (try clear hk); (try clear hi)) | (go_at_call 12; (with_reducible refine (graftwoodlaw02_awake.calls kj21  t157 _ A32.out).mono ?_); rintro e w34 ⟨rfl, hb⟩; have n0_ := Aside0.mk (below_step (by repeat (first | (with_reducible first | exact HB.out | apply below_alloc | apply pw_below_drewN | apply below_drew1) | exact HB.out)) hb); clear HB; have HB := n0_; clear n0_; (try clear hb); (try clear hb2); (try clear hk); (try clear hi)))
                          go_ret
                          exact ⟨by first | rfl | (simp [errW_none, errW_some] <;> rfl) | (simp only [← hji15]; first | rfl | (simp [errW_none, errW_some] <;> rfl)) | (simp [*, errW_none, errW_some] <;> rfl), by repeat (first | (with_reducible first | exact HB.out | apply below_alloc | apply pw_below_drewN | apply below_drew1) | exact HB.out)⟩
                      · replace c28 := Bool.eq_false_iff.mpr c28
                        subst c28
                        have H1 : ((number_May.f t150).bind fun t158 => (if t158 = true then ((number_May.f (((t150.extract 0 ((ji15) : Int).toNat) ++ (strOfNums y153)) ++ (t150.extract ((ji15) : Int).toNat t150.size))).bind fun t159 => (if t150.toList = ([48] : List UInt8) then (if ji15 = 0 then (if (t159 == (a2 != 48)) = true then ((graftwoodlaw02_awake.f kj21).bind fun t160 => (some t160)) else (some false)) else (if (t159 == false) = true then ((graftwoodlaw02_awake.f kj21).bind fun t161 => (some t161)) else (some false))) else (if ji15 > 0 then (if (t159 == true) = true then ((graftwoodlaw02_awake.f kj21).bind fun t162 => (some t162)) else (some false)) else (if a2 = 48 then (if (t159 == false) = true then ((graftwoodlaw02_awake.f kj21).bind fun t163 => (some t163)) else (some false)) else (if (t159 == true) = true then ((graftwoodlaw02_awake.f kj21).bind fun t164 => (some t164)) else (some false)))))) else ((graftwoodlaw02_awake.f kj21).bind fun t165 => (some t165)))) = some r := by rw [if_neg (show ¬ (false = true) by decide)] at H; exact H
                        clear H
                        have H := H1
                        clear H1
                        replace H := Option.bind_eq_some_iff.mp H
                        obtain ⟨t158, A350, H⟩ := H
                        replace H : (if t158 = true then ((number_May.f (((t150.extract 0 ((ji15) : Int).toNat) ++ (strOfNums y153)) ++ (t150.extract ((ji15) : Int).toNat t150.size))).bind fun t159 => (if t150.toList = ([48] : List UInt8) then (if ji15 = 0 then (if (t159 == (a2 != 48)) = true then ((graftwoodlaw02_awake.f kj21).bind fun t160 => (some t160)) else (some false)) else (if (t159 == false) = true then ((graftwoodlaw02_awake.f kj21).bind fun t161 => (some t161)) else (some false))) else (if ji15 > 0 then (if (t159 == true) = true then ((graftwoodlaw02_awake.f kj21).bind fun t162 => (some t162)) else (some false)) else (if a2 = 48 then (if (t159 == false) = true then ((graftwoodlaw02_awake.f kj21).bind fun t163 => (some t163)) else (some false)) else (if (t159 == true) = true then ((graftwoodlaw02_awake.f kj21).bind fun t164 => (some t164)) else (some false)))))) else ((graftwoodlaw02_awake.f kj21).bind fun t165 => (some t165))) = some r := H
                        have A35 := Aside0.mk A350
                        clear A350
                        by_cases c36 : t158 = true
                        · subst c36
                          have H1 : ((number_May.f (((t150.extract 0 ((ji15) : Int).toNat) ++ (strOfNums y153)) ++ (t150.extract ((ji15) : Int).toNat t150.size))).bind fun t159 => (if t150.toList = ([48] : List UInt8) then (if ji15 = 0 then (if (t159 == (a2 != 48)) = true then ((graftwoodlaw02_awake.f kj21).bind fun t160 => (some t160)) else (some false)) else (if (t159 == false) = true then ((graftwoodlaw02_awake.f kj21).bind fun t161 => (some t161)) else (some false))) else (if ji15 > 0 then (if (t159 == true) = true then ((graftwoodlaw02_awake.f kj21).bind fun t162 => (some t162)) else (some false)) else (if a2 = 48 then (if (t159 == false) = true then ((graftwoodlaw02_awake.f kj21).bind fun t163 => (some t163)) else (some false)) else (if (t159 == true) = true then ((graftwoodlaw02_awake.f kj21).bind fun t164 => (some t164)) else (some false)))))) = some r := by rw [if_pos rfl] at H; exact H
                          clear H
                          have H := H1
                          clear H1
                          replace H := Option.bind_eq_some_iff.mp H
                          obtain ⟨t159, A370, H⟩ := H
                          replace H : (if t150.toList = ([48] : List UInt8) then (if ji15 = 0 then (if (t159 == (a2 != 48)) = true then ((graftwoodlaw02_awake.f kj21).bind fun t160 => (some t160)) else (some false)) else (if (t159 == false) = true then ((graftwoodlaw02_awake.f kj21).bind fun t161 => (some t161)) else (some false))) else (if ji15 > 0 then (if (t159 == true) = true then ((graftwoodlaw02_awake.f kj21).bind fun t162 => (some t162)) else (some false)) else (if a2 = 48 then (if (t159 == false) = true then ((graftwoodlaw02_awake.f kj21).bind fun t163 => (some t163)) else (some false)) else (if (t159 == true) = true then ((graftwoodlaw02_awake.f kj21).bind fun t164 => (some t164)) else (some false))))) = some r := H
                          have A37 := Aside0.mk A370
                          clear A370
                          by_cases c38 : t150.toList = ([48] : List UInt8)
                          · rw [if_pos c38] at H
                            have c38b0 : (t150.toList == ([48] : List UInt8)) = true := beq_iff_eq.mpr c38
                            have c38b1 : (t150.toList != ([48] : List UInt8)) = false := bne_eq_false_iff_eq.mpr c38
                            clear c38
                            by_cases c39 : ji15 = 0
                            · rw [if_pos c39] at H
                              have c39b0 : (ji15 == 0) = true := beq_iff_eq.mpr c39
                              have c39b1 : (ji15 != 0) = false := bne_eq_false_iff_eq.mpr c39
                              clear c39
                              by_cases c40 : (t159 == (a2 != 48)) = true
                              · rw [if_pos c40] at H
                                have c40b0 : (t159 == (a2 != 48)) = true := c40
                                (try (have c40b1 : decide (t159 = (a2 != 48)) = true := by simpa using c40))
                                (try (have c40b2 : (t159 == (a2 != 48)) = true := by simpa using c40))
                                clear c40
                                replace H := Option.bind_eq_some_iff.mp H
                                obtain ⟨t160, A410, H⟩ := H
                                replace H : (some t160) = some r := H
                                have A41 := Aside0.mk A410
                                clear A410
                                obtain rfl := Option.some.inj H
                                go_wp2_with (first | ((with_reducible refine gate_callee (f := 11) rfl ?_); refine goesL_ (some 50) rfl rfl Try.func11 (by kernel_rfl) rfl #[.string t150] rfl (by (try simp only [List.map_toArray, List.map_cons, List.map_nil]); first | done | rfl | (simp only [List.length_drop, List.length_take]; rfl)) ?_; (with_reducible refine (number_May.calls t150 true _ A35.out).mono ?_); rintro e w42 ⟨rfl, hb⟩; refine ⟨_, rfl, ?_⟩; have n0_ := Aside0.mk (below_step (by repeat (first | (with_reducible first | exact HB.out | apply below_alloc | apply pw_below_drewN | apply below_drew1) | exact HB.out)) hb); clear HB; have HB := n0_; clear n0_; (try clear hb); (try clear hb2); (try clear hk); (try clear hi)) | (go_at_call 11; (with_reducible refine (number_May.calls (((t150.extract 0 ((ji15) : Int).toNat) ++ (strOfNums y153)) ++ (t150.extract ((ji15) : Int).toNat t150.size)) t159 _ A37.out).mono ?_); rintro e w43 ⟨rfl, hb⟩; have n0_ := Aside0.mk (below_step (by repeat (first | (with_reducible first | exact HB.out | apply below_alloc | apply pw_below_drewN | apply below_drew1) | exact HB.out)) hb); clear HB; have HB := n0_; clear n0_; (try clear hb); (try clear hb2); (try clear hk); (try clear hi)) | (go_at_call 12; (with_reducible refine (graftwoodlaw02_awake.calls kj21  t160 _ A41.out).mono ?_); rintro e w44 ⟨rfl, hb⟩; have n0_ := Aside0.mk (below_step (by repeat (first | (with_reducible first | exact HB.out | apply below_alloc | apply pw_below_drewN | apply below_drew1) | exact HB.out)) hb); clear HB; have HB := n0_; clear n0_; (try clear hb); (try clear hb2); (try clear hk); (try clear hi)))
                                go_ret
                                exact ⟨by first | rfl | (simp [errW_none, errW_some] <;> rfl) | (simp only [← hji15]; first | rfl | (simp [errW_none, errW_some] <;> rfl)) | (simp [*, errW_none, errW_some] <;> rfl), by repeat (first | (with_reducible first | exact HB.out | apply below_alloc | apply pw_below_drewN | apply below_drew1) | exact HB.out)⟩
                              · rw [if_neg c40] at H
                                have c40b0 : (t159 == (a2 != 48)) = false := by simpa using c40
                                (try (have c40b1 : decide (t159 = (a2 != 48)) = false := by simpa using c40))
                                (try (have c40b2 : (t159 == (a2 != 48)) = false := by simpa using c40))
                                (try (have c40b3 : ¬ (t159 = (a2 != 48)) := by simpa using c40))
                                clear c40
                                obtain rfl := Option.some.inj H
                                go_wp2_with (first | ((with_reducible refine gate_callee (f := 11) rfl ?_); refine goesL_ (some 50) rfl rfl Try.func11 (by kernel_rfl) rfl #[.string t150] rfl (by (try simp only [List.map_toArray, List.map_cons, List.map_nil]); first | done | rfl | (simp only [List.length_drop, List.length_take]; rfl)) ?_; (with_reducible refine (number_May.calls t150 true _ A35.out).mono ?_); rintro e w45 ⟨rfl, hb⟩; refine ⟨_, rfl, ?_⟩; have n0_ := Aside0.mk (below_step (by repeat (first | (with_reducible first | exact HB.out | apply below_alloc | apply pw_below_drewN | apply below_drew1) | exact HB.out)) hb); clear HB; have HB := n0_; clear n0_; (try clear hb); (try clear hb2); (try clear hk); (try clear hi)) | (go_at_call 11; (with_reducible refine (number_May.calls (((t150.extract 0 ((ji15) : Int).toNat) ++ (strOfNums y153)) ++ (t150.extract ((ji15) : Int).toNat t150.size)) t159 _ A37.out).mono ?_); rintro e w46 ⟨rfl, hb⟩; have n0_ := Aside0.mk (below_step (by repeat (first | (with_reducible first | exact HB.out | apply below_alloc | apply pw_below_drewN | apply below_drew1) | exact HB.out)) hb); clear HB; have HB := n0_; clear n0_; (try clear hb); (try clear hb2); (try clear hk); (try clear hi)))
                                go_ret
                                exact ⟨by first | rfl | (simp [errW_none, errW_some] <;> rfl) | (simp only [← hji15]; first | rfl | (simp [errW_none, errW_some] <;> rfl)) | (simp [*, errW_none, errW_some] <;> rfl), by repeat (first | (with_reducible first | exact HB.out | apply below_alloc | apply pw_below_drewN | apply below_drew1) | exact HB.out)⟩
                            · rw [if_neg c39] at H
                              have c39b0 : (ji15 == 0) = false := beq_eq_false_iff_ne.mpr c39
                              have c39b1 : (ji15 != 0) = true := bne_iff_ne.mpr c39
                              by_cases c47 : (t159 == false) = true
                              · rw [if_pos c47] at H
                                have c47b0 : (t159 == false) = true := c47
                                (try (have c47b1 : decide (t159 = false) = true := by simpa using c47))
                                (try (have c47b2 : (t159 == false) = true := by simpa using c47))
                                clear c47
                                replace H := Option.bind_eq_some_iff.mp H
                                obtain ⟨t161, A480, H⟩ := H
                                replace H : (some t161) = some r := H
                                have A48 := Aside0.mk A480
                                clear A480
                                obtain rfl := Option.some.inj H
                                go_wp2_with (first | ((with_reducible refine gate_callee (f := 11) rfl ?_); refine goesL_ (some 50) rfl rfl Try.func11 (by kernel_rfl) rfl #[.string t150] rfl (by (try simp only [List.map_toArray, List.map_cons, List.map_nil]); first | done | rfl | (simp only [List.length_drop, List.length_take]; rfl)) ?_; (with_reducible refine (number_May.calls t150 true _ A35.out).mono ?_); rintro e w49 ⟨rfl, hb⟩; refine ⟨_, rfl, ?_⟩; have n0_ := Aside0.mk (below_step (by repeat (first | (with_reducible first | exact HB.out | apply below_alloc | apply pw_below_drewN | apply below_drew1) | exact HB.out)) hb); clear HB; have HB := n0_; clear n0_; (try clear hb); (try clear hb2); (try clear hk); (try clear hi)) | (go_at_call 11; (with_reducible refine (number_May.calls (((t150.extract 0 ((ji15) : Int).toNat) ++ (strOfNums y153)) ++ (t150.extract ((ji15) : Int).toNat t150.size)) t159 _ A37.out).mono ?_); rintro e w50 ⟨rfl, hb⟩; have n0_ := Aside0.mk (below_step (by repeat (first | (with_reducible first | exact HB.out | apply below_alloc | apply pw_below_drewN | apply below_drew1) | exact HB.out)) hb); clear HB; have HB := n0_; clear n0_; (try clear hb); (try clear hb2); (try clear hk); (try clear hi)) | (go_at_call 12; (with_reducible refine (graftwoodlaw02_awake.calls kj21  t161 _ A48.out).mono ?_); rintro e w51 ⟨rfl, hb⟩; have n0_ := Aside0.mk (below_step (by repeat (first | (with_reducible first | exact HB.out | apply below_alloc | apply pw_below_drewN | apply below_drew1) | exact HB.out)) hb); clear HB; have HB := n0_; clear n0_; (try clear hb); (try clear hb2); (try clear hk); (try clear hi)))
                                go_ret
                                exact ⟨by first | rfl | (simp [errW_none, errW_some] <;> rfl) | (simp only [← hji15]; first | rfl | (simp [errW_none, errW_some] <;> rfl)) | (simp [*, errW_none, errW_some] <;> rfl), by repeat (first | (with_reducible first | exact HB.out | apply below_alloc | apply pw_below_drewN | apply below_drew1) | exact HB.out)⟩
                              · rw [if_neg c47] at H
                                have c47b0 : (t159 == false) = false := by simpa using c47
                                (try (have c47b1 : decide (t159 = false) = false := by simpa using c47))
                                (try (have c47b2 : (t159 == false) = false := by simpa using c47))
                                (try (have c47b3 : ¬ (t159 = false) := by simpa using c47))
                                clear c47
                                obtain rfl := Option.some.inj H
                                go_wp2_with (first | ((with_reducible refine gate_callee (f := 11) rfl ?_); refine goesL_ (some 50) rfl rfl Try.func11 (by kernel_rfl) rfl #[.string t150] rfl (by (try simp only [List.map_toArray, List.map_cons, List.map_nil]); first | done | rfl | (simp only [List.length_drop, List.length_take]; rfl)) ?_; (with_reducible refine (number_May.calls t150 true _ A35.out).mono ?_); rintro e w52 ⟨rfl, hb⟩; refine ⟨_, rfl, ?_⟩; have n0_ := Aside0.mk (below_step (by repeat (first | (with_reducible first | exact HB.out | apply below_alloc | apply pw_below_drewN | apply below_drew1) | exact HB.out)) hb); clear HB; have HB := n0_; clear n0_; (try clear hb); (try clear hb2); (try clear hk); (try clear hi)) | (go_at_call 11; (with_reducible refine (number_May.calls (((t150.extract 0 ((ji15) : Int).toNat) ++ (strOfNums y153)) ++ (t150.extract ((ji15) : Int).toNat t150.size)) t159 _ A37.out).mono ?_); rintro e w53 ⟨rfl, hb⟩; have n0_ := Aside0.mk (below_step (by repeat (first | (with_reducible first | exact HB.out | apply below_alloc | apply pw_below_drewN | apply below_drew1) | exact HB.out)) hb); clear HB; have HB := n0_; clear n0_; (try clear hb); (try clear hb2); (try clear hk); (try clear hi)))
                                go_ret
                                exact ⟨by first | rfl | (simp [errW_none, errW_some] <;> rfl) | (simp only [← hji15]; first | rfl | (simp [errW_none, errW_some] <;> rfl)) | (simp [*, errW_none, errW_some] <;> rfl), by repeat (first | (with_reducible first | exact HB.out | apply below_alloc | apply pw_below_drewN | apply below_drew1) | exact HB.out)⟩
                          · rw [if_neg c38] at H
                            have c38b0 : (t150.toList == ([48] : List UInt8)) = false := beq_eq_false_iff_ne.mpr c38
                            have c38b1 : (t150.toList != ([48] : List UInt8)) = true := bne_iff_ne.mpr c38
                            by_cases c54 : ji15 > 0
                            · rw [if_pos c54] at H
                              have c54b0 : decide (0 < ji15) = true := decide_eq_true c54
                              clear c54
                              by_cases c55 : (t159 == true) = true
                              · rw [if_pos c55] at H
                                have c55b0 : (t159 == true) = true := c55
                                (try (have c55b1 : decide (t159 = true) = true := by simpa using c55))
                                (try (have c55b2 : (t159 == true) = true := by simpa using c55))
                                clear c55
                                replace H := Option.bind_eq_some_iff.mp H
                                obtain ⟨t162, A560, H⟩ := H
                                replace H : (some t162) = some r := H
                                have A56 := Aside0.mk A560
                                clear A560
                                obtain rfl := Option.some.inj H
                                go_wp2_with (first | ((with_reducible refine gate_callee (f := 11) rfl ?_); refine goesL_ (some 50) rfl rfl Try.func11 (by kernel_rfl) rfl #[.string t150] rfl (by (try simp only [List.map_toArray, List.map_cons, List.map_nil]); first | done | rfl | (simp only [List.length_drop, List.length_take]; rfl)) ?_; (with_reducible refine (number_May.calls t150 true _ A35.out).mono ?_); rintro e w57 ⟨rfl, hb⟩; refine ⟨_, rfl, ?_⟩; have n0_ := Aside0.mk (below_step (by repeat (first | (with_reducible first | exact HB.out | apply below_alloc | apply pw_below_drewN | apply below_drew1) | exact HB.out)) hb); clear HB; have HB := n0_; clear n0_; (try clear hb); (try clear hb2); (try clear hk); (try clear hi)) | (go_at_call 11; (with_reducible refine (number_May.calls (((t150.extract 0 ((ji15) : Int).toNat) ++ (strOfNums y153)) ++ (t150.extract ((ji15) : Int).toNat t150.size)) t159 _ A37.out).mono ?_); rintro e w58 ⟨rfl, hb⟩; have n0_ := Aside0.mk (below_step (by repeat (first | (with_reducible first | exact HB.out | apply below_alloc | apply pw_below_drewN | apply below_drew1) | exact HB.out)) hb); clear HB; have HB := n0_; clear n0_; (try clear hb); (try clear hb2); (try clear hk); (try clear hi)) | (go_at_call 12; (with_reducible refine (graftwoodlaw02_awake.calls kj21  t162 _ A56.out).mono ?_); rintro e w59 ⟨rfl, hb⟩; have n0_ := Aside0.mk (below_step (by repeat (first | (with_reducible first | exact HB.out | apply below_alloc | apply pw_below_drewN | apply below_drew1) | exact HB.out)) hb); clear HB; have HB := n0_; clear n0_; (try clear hb); (try clear hb2); (try clear hk); (try clear hi)))
                                go_ret
                                exact ⟨by first | rfl | (simp [errW_none, errW_some] <;> rfl) | (simp only [← hji15]; first | rfl | (simp [errW_none, errW_some] <;> rfl)) | (simp [*, errW_none, errW_some] <;> rfl), by repeat (first | (with_reducible first | exact HB.out | apply below_alloc | apply pw_below_drewN | apply below_drew1) | exact HB.out)⟩
                              · rw [if_neg c55] at H
                                have c55b0 : (t159 == true) = false := by simpa using c55
                                (try (have c55b1 : decide (t159 = true) = false := by simpa using c55))
                                (try (have c55b2 : (t159 == true) = false := by simpa using c55))
                                (try (have c55b3 : ¬ (t159 = true) := by simpa using c55))
                                clear c55
                                obtain rfl := Option.some.inj H
                                go_wp2_with (first | ((with_reducible refine gate_callee (f := 11) rfl ?_); refine goesL_ (some 50) rfl rfl Try.func11 (by kernel_rfl) rfl #[.string t150] rfl (by (try simp only [List.map_toArray, List.map_cons, List.map_nil]); first | done | rfl | (simp only [List.length_drop, List.length_take]; rfl)) ?_; (with_reducible refine (number_May.calls t150 true _ A35.out).mono ?_); rintro e w60 ⟨rfl, hb⟩; refine ⟨_, rfl, ?_⟩; have n0_ := Aside0.mk (below_step (by repeat (first | (with_reducible first | exact HB.out | apply below_alloc | apply pw_below_drewN | apply below_drew1) | exact HB.out)) hb); clear HB; have HB := n0_; clear n0_; (try clear hb); (try clear hb2); (try clear hk); (try clear hi)) | (go_at_call 11; (with_reducible refine (number_May.calls (((t150.extract 0 ((ji15) : Int).toNat) ++ (strOfNums y153)) ++ (t150.extract ((ji15) : Int).toNat t150.size)) t159 _ A37.out).mono ?_); rintro e w61 ⟨rfl, hb⟩; have n0_ := Aside0.mk (below_step (by repeat (first | (with_reducible first | exact HB.out | apply below_alloc | apply pw_below_drewN | apply below_drew1) | exact HB.out)) hb); clear HB; have HB := n0_; clear n0_; (try clear hb); (try clear hb2); (try clear hk); (try clear hi)))
                                go_ret
                                exact ⟨by first | rfl | (simp [errW_none, errW_some] <;> rfl) | (simp only [← hji15]; first | rfl | (simp [errW_none, errW_some] <;> rfl)) | (simp [*, errW_none, errW_some] <;> rfl), by repeat (first | (with_reducible first | exact HB.out | apply below_alloc | apply pw_below_drewN | apply below_drew1) | exact HB.out)⟩
                            · rw [if_neg c54] at H
                              have c54b0 : decide (0 < ji15) = false := decide_eq_false c54
                              clear c54
                              by_cases c62 : a2 = 48
                              · rw [if_pos c62] at H
                                have c62b0 : (a2 == 48) = true := beq_iff_eq.mpr c62
                                have c62b1 : (a2 != 48) = false := bne_eq_false_iff_eq.mpr c62
                                clear c62
                                by_cases c63 : (t159 == false) = true
                                · rw [if_pos c63] at H
                                  have c63b0 : (t159 == false) = true := c63
                                  (try (have c63b1 : decide (t159 = false) = true := by simpa using c63))
                                  (try (have c63b2 : (t159 == false) = true := by simpa using c63))
                                  clear c63
                                  replace H := Option.bind_eq_some_iff.mp H
                                  obtain ⟨t163, A640, H⟩ := H
                                  replace H : (some t163) = some r := H
                                  have A64 := Aside0.mk A640
                                  clear A640
                                  obtain rfl := Option.some.inj H
                                  go_wp2_with (first | ((with_reducible refine gate_callee (f := 11) rfl ?_); refine goesL_ (some 50) rfl rfl Try.func11 (by kernel_rfl) rfl #[.string t150] rfl (by (try simp only [List.map_toArray, List.map_cons, List.map_nil]); first | done | rfl | (simp only [List.length_drop, List.length_take]; rfl)) ?_; (with_reducible refine (number_May.calls t150 true _ A35.out).mono ?_); rintro e w65 ⟨rfl, hb⟩; refine ⟨_, rfl, ?_⟩; have n0_ := Aside0.mk (below_step (by repeat (first | (with_reducible first | exact HB.out | apply below_alloc | apply pw_below_drewN | apply below_drew1) | exact HB.out)) hb); clear HB; have HB := n0_; clear n0_; (try clear hb); (try clear hb2); (try clear hk); (try clear hi)) | (go_at_call 11; (with_reducible refine (number_May.calls (((t150.extract 0 ((ji15) : Int).toNat) ++ (strOfNums y153)) ++ (t150.extract ((ji15) : Int).toNat t150.size)) t159 _ A37.out).mono ?_); rintro e w66 ⟨rfl, hb⟩; have n0_ := Aside0.mk (below_step (by repeat (first | (with_reducible first | exact HB.out | apply below_alloc | apply pw_below_drewN | apply below_drew1) | exact HB.out)) hb); clear HB; have HB := n0_; clear n0_; (try clear hb); (try clear hb2); (try clear hk); (try clear hi)) | (go_at_call 12; (with_reducible refine (graftwoodlaw02_awake.calls kj21  t163 _ A64.out).mono ?_); rintro e w67 ⟨rfl, hb⟩; have n0_ := Aside0.mk (below_step (by repeat (first | (with_reducible first | exact HB.out | apply below_alloc | apply pw_below_drewN | apply below_drew1) | exact HB.out)) hb); clear HB; have HB := n0_; clear n0_; (try clear hb); (try clear hb2); (try clear hk); (try clear hi)))
                                  go_ret
                                  exact ⟨by first | rfl | (simp [errW_none, errW_some] <;> rfl) | (simp only [← hji15]; first | rfl | (simp [errW_none, errW_some] <;> rfl)) | (simp [*, errW_none, errW_some] <;> rfl), by repeat (first | (with_reducible first | exact HB.out | apply below_alloc | apply pw_below_drewN | apply below_drew1) | exact HB.out)⟩
                                · rw [if_neg c63] at H
                                  have c63b0 : (t159 == false) = false := by simpa using c63
                                  (try (have c63b1 : decide (t159 = false) = false := by simpa using c63))
                                  (try (have c63b2 : (t159 == false) = false := by simpa using c63))
                                  (try (have c63b3 : ¬ (t159 = false) := by simpa using c63))
                                  clear c63
                                  obtain rfl := Option.some.inj H
                                  go_wp2_with (first | ((with_reducible refine gate_callee (f := 11) rfl ?_); refine goesL_ (some 50) rfl rfl Try.func11 (by kernel_rfl) rfl #[.string t150] rfl (by (try simp only [List.map_toArray, List.map_cons, List.map_nil]); first | done | rfl | (simp only [List.length_drop, List.length_take]; rfl)) ?_; (with_reducible refine (number_May.calls t150 true _ A35.out).mono ?_); rintro e w68 ⟨rfl, hb⟩; refine ⟨_, rfl, ?_⟩; have n0_ := Aside0.mk (below_step (by repeat (first | (with_reducible first | exact HB.out | apply below_alloc | apply pw_below_drewN | apply below_drew1) | exact HB.out)) hb); clear HB; have HB := n0_; clear n0_; (try clear hb); (try clear hb2); (try clear hk); (try clear hi)) | (go_at_call 11; (with_reducible refine (number_May.calls (((t150.extract 0 ((ji15) : Int).toNat) ++ (strOfNums y153)) ++ (t150.extract ((ji15) : Int).toNat t150.size)) t159 _ A37.out).mono ?_); rintro e w69 ⟨rfl, hb⟩; have n0_ := Aside0.mk (below_step (by repeat (first | (with_reducible first | exact HB.out | apply below_alloc | apply pw_below_drewN | apply below_drew1) | exact HB.out)) hb); clear HB; have HB := n0_; clear n0_; (try clear hb); (try clear hb2); (try clear hk); (try clear hi)))
                                  go_ret
                                  exact ⟨by first | rfl | (simp [errW_none, errW_some] <;> rfl) | (simp only [← hji15]; first | rfl | (simp [errW_none, errW_some] <;> rfl)) | (simp [*, errW_none, errW_some] <;> rfl), by repeat (first | (with_reducible first | exact HB.out | apply below_alloc | apply pw_below_drewN | apply below_drew1) | exact HB.out)⟩
                              · rw [if_neg c62] at H
                                have c62b0 : (a2 == 48) = false := beq_eq_false_iff_ne.mpr c62
                                have c62b1 : (a2 != 48) = true := bne_iff_ne.mpr c62
                                by_cases c70 : (t159 == true) = true
                                · rw [if_pos c70] at H
                                  have c70b0 : (t159 == true) = true := c70
                                  (try (have c70b1 : decide (t159 = true) = true := by simpa using c70))
                                  (try (have c70b2 : (t159 == true) = true := by simpa using c70))
                                  clear c70
                                  replace H := Option.bind_eq_some_iff.mp H
                                  obtain ⟨t164, A710, H⟩ := H
                                  replace H : (some t164) = some r := H
                                  have A71 := Aside0.mk A710
                                  clear A710
                                  obtain rfl := Option.some.inj H
                                  go_wp2_with (first | ((with_reducible refine gate_callee (f := 11) rfl ?_); refine goesL_ (some 50) rfl rfl Try.func11 (by kernel_rfl) rfl #[.string t150] rfl (by (try simp only [List.map_toArray, List.map_cons, List.map_nil]); first | done | rfl | (simp only [List.length_drop, List.length_take]; rfl)) ?_; (with_reducible refine (number_May.calls t150 true _ A35.out).mono ?_); rintro e w72 ⟨rfl, hb⟩; refine ⟨_, rfl, ?_⟩; have n0_ := Aside0.mk (below_step (by repeat (first | (with_reducible first | exact HB.out | apply below_alloc | apply pw_below_drewN | apply below_drew1) | exact HB.out)) hb); clear HB; have HB := n0_; clear n0_; (try clear hb); (try clear hb2); (try clear hk); (try clear hi)) | (go_at_call 11; (with_reducible refine (number_May.calls (((t150.extract 0 ((ji15) : Int).toNat) ++ (strOfNums y153)) ++ (t150.extract ((ji15) : Int).toNat t150.size)) t159 _ A37.out).mono ?_); rintro e w73 ⟨rfl, hb⟩; have n0_ := Aside0.mk (below_step (by repeat (first | (with_reducible first | exact HB.out | apply below_alloc | apply pw_below_drewN | apply below_drew1) | exact HB.out)) hb); clear HB; have HB := n0_; clear n0_; (try clear hb); (try clear hb2); (try clear hk); (try clear hi)) | (go_at_call 12; (with_reducible refine (graftwoodlaw02_awake.calls kj21  t164 _ A71.out).mono ?_); rintro e w74 ⟨rfl, hb⟩; have n0_ := Aside0.mk (below_step (by repeat (first | (with_reducible first | exact HB.out | apply below_alloc | apply pw_below_drewN | apply below_drew1) | exact HB.out)) hb); clear HB; have HB := n0_; clear n0_; (try clear hb); (try clear hb2); (try clear hk); (try clear hi)))
                                  go_ret
                                  exact ⟨by first | rfl | (simp [errW_none, errW_some] <;> rfl) | (simp only [← hji15]; first | rfl | (simp [errW_none, errW_some] <;> rfl)) | (simp [*, errW_none, errW_some] <;> rfl), by repeat (first | (with_reducible first | exact HB.out | apply below_alloc | apply pw_below_drewN | apply below_drew1) | exact HB.out)⟩
                                · rw [if_neg c70] at H
                                  have c70b0 : (t159 == true) = false := by simpa using c70
                                  (try (have c70b1 : decide (t159 = true) = false := by simpa using c70))
                                  (try (have c70b2 : (t159 == true) = false := by simpa using c70))
                                  (try (have c70b3 : ¬ (t159 = true) := by simpa using c70))
                                  clear c70
                                  obtain rfl := Option.some.inj H
                                  go_wp2_with (first | ((with_reducible refine gate_callee (f := 11) rfl ?_); refine goesL_ (some 50) rfl rfl Try.func11 (by kernel_rfl) rfl #[.string t150] rfl (by (try simp only [List.map_toArray, List.map_cons, List.map_nil]); first | done | rfl | (simp only [List.length_drop, List.length_take]; rfl)) ?_; (with_reducible refine (number_May.calls t150 true _ A35.out).mono ?_); rintro e w75 ⟨rfl, hb⟩; refine ⟨_, rfl, ?_⟩; have n0_ := Aside0.mk (below_step (by repeat (first | (with_reducible first | exact HB.out | apply below_alloc | apply pw_below_drewN | apply below_drew1) | exact HB.out)) hb); clear HB; have HB := n0_; clear n0_; (try clear hb); (try clear hb2); (try clear hk); (try clear hi)) | (go_at_call 11; (with_reducible refine (number_May.calls (((t150.extract 0 ((ji15) : Int).toNat) ++ (strOfNums y153)) ++ (t150.extract ((ji15) : Int).toNat t150.size)) t159 _ A37.out).mono ?_); rintro e w76 ⟨rfl, hb⟩; have n0_ := Aside0.mk (below_step (by repeat (first | (with_reducible first | exact HB.out | apply below_alloc | apply pw_below_drewN | apply below_drew1) | exact HB.out)) hb); clear HB; have HB := n0_; clear n0_; (try clear hb); (try clear hb2); (try clear hk); (try clear hi)))
                                  go_ret
                                  exact ⟨by first | rfl | (simp [errW_none, errW_some] <;> rfl) | (simp only [← hji15]; first | rfl | (simp [errW_none, errW_some] <;> rfl)) | (simp [*, errW_none, errW_some] <;> rfl), by repeat (first | (with_reducible first | exact HB.out | apply below_alloc | apply pw_below_drewN | apply below_drew1) | exact HB.out)⟩
                        · replace c36 := Bool.eq_false_iff.mpr c36
                          subst c36
                          have H1 : ((graftwoodlaw02_awake.f kj21).bind fun t165 => (some t165)) = some r := by rw [if_neg (show ¬ (false = true) by decide)] at H; exact H
                          clear H
                          have H := H1
                          clear H1
                          replace H := Option.bind_eq_some_iff.mp H
                          obtain ⟨t165, A770, H⟩ := H
                          replace H : (some t165) = some r := H
                          have A77 := Aside0.mk A770
                          clear A770
                          obtain rfl := Option.some.inj H
                          go_wp2_with (first | ((with_reducible refine gate_callee (f := 11) rfl ?_); refine goesL_ (some 50) rfl rfl Try.func11 (by kernel_rfl) rfl #[.string t150] rfl (by (try simp only [List.map_toArray, List.map_cons, List.map_nil]); first | done | rfl | (simp only [List.length_drop, List.length_take]; rfl)) ?_; (with_reducible refine (number_May.calls t150 false _ A35.out).mono ?_); rintro e w78 ⟨rfl, hb⟩; refine ⟨_, rfl, ?_⟩; have n0_ := Aside0.mk (below_step (by repeat (first | (with_reducible first | exact HB.out | apply below_alloc | apply pw_below_drewN | apply below_drew1) | exact HB.out)) hb); clear HB; have HB := n0_; clear n0_; (try clear hb); (try clear hb2); (try clear hk); (try clear hi)) | (go_at_call 12; (with_reducible refine (graftwoodlaw02_awake.calls kj21  t165 _ A77.out).mono ?_); rintro e w79 ⟨rfl, hb⟩; have n0_ := Aside0.mk (below_step (by repeat (first | (with_reducible first | exact HB.out | apply below_alloc | apply pw_below_drewN | apply below_drew1) | exact HB.out)) hb); clear HB; have HB := n0_; clear n0_; (try clear hb); (try clear hb2); (try clear hk); (try clear hi)))
                          go_ret
                          exact ⟨by first | rfl | (simp [errW_none, errW_some] <;> rfl) | (simp only [← hji15]; first | rfl | (simp [errW_none, errW_some] <;> rfl)) | (simp [*, errW_none, errW_some] <;> rfl), by repeat (first | (with_reducible first | exact HB.out | apply below_alloc | apply pw_below_drewN | apply below_drew1) | exact HB.out)⟩
                · rw [if_neg c21] at H
                  exact absurd H (by simp)
              · rw [if_neg c18] at H
                exact absurd H (by simp)
            · rw [if_neg c17] at H
              exact absurd H (by simp)
          · rw [if_neg c16] at H
            exact absurd H (by simp)

/-- THE ONE PURE STATEMENT of graftwoodlaw02_NumberForms: yours. -/
def graftwoodlaw02_NumberForms.Pure : Prop := ∀ (a0 : ByteArray) (a1 : Int) (a2 : Int), a0.size ≤ 140737488351232 → (Lit.int .u8 a1).wf = true → (Lit.int .u8 a2).wf = true → ∃ k, graftwoodlaw02_NumberForms.f k a0 a1 a2 = some true
theorem graftwoodlaw02_NumberForms.walk (P : graftwoodlaw02_NumberForms.Pure) (a0 : ByteArray) (a1 : Int) (a2 : Int) (w : World) (w0 : a0.size ≤ 140737488351232) (w1 : (Lit.int .u8 a1).wf = true) (w2 : (Lit.int .u8 a2).wf = true) :
    Calls Try.prog 4 #[.string a0, .int .u8 a1, .int .u8 a2] w fun e w' => e = .returned (.bool true) ∧ Below w.heap.size w w' := by
  obtain ⟨k, h⟩ := P a0 a1 a2 w0 w1 w2
  refine (graftwoodlaw02_NumberForms.calls k a0 a1 a2 true w h).mono ?_
  rintro e w' ⟨rfl, hd⟩
  exact ⟨rfl, hd⟩

end Go.Proofs.Ytgldbbgcdpgbcaa.PAll
