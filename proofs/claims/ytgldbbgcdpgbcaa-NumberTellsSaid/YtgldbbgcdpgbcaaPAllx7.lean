-- WRITTEN FOR THIS CLAIM by a program of this session (a copy of the print with given functions)
import Derived.Test.YtgldbbgcdpgbcaaPAllx0
import Derived.Test.YtgldbbgcdpgbcaaPAllx1
import Derived.Test.YtgldbbgcdpgbcaaPAllx5
import Derived.Test.YtgldbbgcdpgbcaaPAllx6
namespace Go.Proofs.Ytgldbbgcdpgbcaa.PAll
open Go.RowKit Go.Proofs.YtgldbbgcdpgbcaaW.PrintWords Go.Proofs.YtgldbbgcdpgbcaaW.PrintLast Go.Proofs.YtgldbbgcdpgbcaaW.PrintMore
attribute [local go_sem] max2_int min2_int max_two min_two max_three min_three max_four min_four   -- for this text's walks alone
set_option linter.unusedVariables false
set_option linter.unusedSimpArgs false

/-! ### graftwoodlaw02_NumberTells: function 7 -/
mutual
def graftwoodlaw02_NumberTells.j0 : Nat → ByteArray → ByteArray → Int → Int → ByteArray → Int → Bool → Option (Bool)
  | 0, _, _, _, _, _, _, _ => none
  | k + 1, x0, x1, x7, x8, x13, x14, x68 => if x68 = true then (some false) else ((graftwoodref02_May.f k x0).bind fun t226 => (if t226 = true then ((graftwoodref02_Next.f k x0).bind fun t228 => (if x13.toList = t228.toList then (graftwoodlaw02_NumberTells.j1 k x0 x1 x7 x8 (x14 != 0)) else (graftwoodlaw02_NumberTells.j1 k x0 x1 x7 x8 true))) else (if x7 = 0 then (if x8 = 1 then (if x13.toList = ([] : List UInt8) then (if x14 = 1 then ((graftwoodlaw02_awake.f k).bind fun t227 => (some t227)) else (some false)) else (some false)) else (some false)) else (some false))))
def graftwoodlaw02_NumberTells.j1 : Nat → ByteArray → ByteArray → Int → Int → Bool → Option (Bool)
  | 0, _, _, _, _, _ => none
  | k + 1, x0, x1, x7, x8, x96 => if x96 = true then (some false) else ((graftwoodref02_May.f k x1).bind fun t229 => (if t229 = true then ((graftwoodref02_Cmp.f k x0 x1).bind fun t230 => (if x7 = t230 then (if x8 = 0 then ((graftwoodlaw02_awake.f k).bind fun t231 => (some t231)) else (some false)) else (some false))) else (if x7 = 0 then (if x8 = 1 then ((graftwoodlaw02_awake.f k).bind fun t232 => (some t232)) else (some false)) else (some false))))
end
def graftwoodlaw02_NumberTells.f (k : Nat) (a0 : ByteArray) (a1 : ByteArray) (a2 : Int) : Option (Bool) := (graftwoodlaw01_Few.f a0).bind fun t210 => ((graftwoodlaw01_Few.f a1).bind fun t211 => ((number_Cmp.f k t210 t211).bind fun bt212 => ((number_Value.f t210).bind fun bt214 => ((graftwoodref02_Value.f k t210).bind fun bt216 => ((number_Next.f t210).bind fun bt218 => ((number_May.f t210).bind fun t220 => ((graftwoodref02_May.f k t210).bind fun t221 => (if (t220 != t221) = true then (graftwoodlaw02_NumberTells.j0 k t210 t211 bt212.1 bt212.2 bt218.1 bt218.2 true) else ((number_May.f t211).bind fun t222 => ((graftwoodref02_May.f k t211).bind fun t223 => (if (t222 != t223) = true then (graftwoodlaw02_NumberTells.j0 k t210 t211 bt212.1 bt212.2 bt218.1 bt218.2 true) else (if bt214.1 = bt216.1 then (if bt214.2 = bt216.2 then ((number_Of.f k a2).bind fun t224 => ((graftwoodref02_Of.f k a2).bind fun t225 => (graftwoodlaw02_NumberTells.j0 k t210 t211 bt212.1 bt212.2 bt218.1 bt218.2 (t224.toList != t225.toList)))) else (graftwoodlaw02_NumberTells.j0 k t210 t211 bt212.1 bt212.2 bt218.1 bt218.2 true)) else (graftwoodlaw02_NumberTells.j0 k t210 t211 bt212.1 bt212.2 bt218.1 bt218.2 true)))))))))))))
theorem graftwoodlaw02_NumberTells.mono_l : ∀ k, (∀ y0 y1 y2 y3 y4 y5 y6, LeO (graftwoodlaw02_NumberTells.j0 k y0 y1 y2 y3 y4 y5 y6) (graftwoodlaw02_NumberTells.j0 (k + 1) y0 y1 y2 y3 y4 y5 y6)) ∧ (∀ y0 y1 y2 y3 y4, LeO (graftwoodlaw02_NumberTells.j1 k y0 y1 y2 y3 y4) (graftwoodlaw02_NumberTells.j1 (k + 1) y0 y1 y2 y3 y4))
  | 0 => ⟨fun _ _ _ _ _ _ _ r h => by simp [graftwoodlaw02_NumberTells.j0] at h, fun _ _ _ _ _ r h => by simp [graftwoodlaw02_NumberTells.j1] at h⟩
  | k + 1 => by
    obtain ⟨ih0, ih1⟩ := graftwoodlaw02_NumberTells.mono_l k
    refine ⟨?_, ?_⟩
    · intro y0 y1 y2 y3 y4 y5 y6
      unfold graftwoodlaw02_NumberTells.j0
      repeat' first
      | (with_reducible exact ih0 _ _ _ _ _ _ _)
      | (with_reducible exact ih1 _ _ _ _ _)
      | (with_reducible exact graftwoodlaw02_awake.mono _)
      | (with_reducible exact graftwoodref02_Cmp.mono _ _ _)
      | (with_reducible exact graftwoodref02_May.mono _ _)
      | (with_reducible exact graftwoodref02_Next.mono _ _)
      | (with_reducible exact graftwoodref02_Of.mono _ _)
      | (with_reducible exact graftwoodref02_Value.mono _ _)
      | (with_reducible exact number_Cmp.mono _ _ _)
      | (with_reducible exact number_Of.mono _ _)
      | (with_reducible exact LeO.refl _)
      | (with_reducible exact LeO.none _)
      | (with_reducible refine LeO.ite ?_ ?_)
      | (with_reducible refine LeO.bind ?_ (fun _ => ?_))
      | exact ih0 _ _ _ _ _ _ _
      | exact ih1 _ _ _ _ _
      | exact graftwoodlaw02_awake.mono _
      | exact graftwoodref02_Cmp.mono _ _ _
      | exact graftwoodref02_May.mono _ _
      | exact graftwoodref02_Next.mono _ _
      | exact graftwoodref02_Of.mono _ _
      | exact graftwoodref02_Value.mono _ _
      | exact number_Cmp.mono _ _ _
      | exact number_Of.mono _ _
      | exact LeO.none _
      | refine LeO.ite ?_ ?_
      | refine LeO.bind ?_ (fun _ => ?_)
    · intro y0 y1 y2 y3 y4
      unfold graftwoodlaw02_NumberTells.j1
      repeat' first
      | (with_reducible exact ih0 _ _ _ _ _ _ _)
      | (with_reducible exact ih1 _ _ _ _ _)
      | (with_reducible exact graftwoodlaw02_awake.mono _)
      | (with_reducible exact graftwoodref02_Cmp.mono _ _ _)
      | (with_reducible exact graftwoodref02_May.mono _ _)
      | (with_reducible exact graftwoodref02_Next.mono _ _)
      | (with_reducible exact graftwoodref02_Of.mono _ _)
      | (with_reducible exact graftwoodref02_Value.mono _ _)
      | (with_reducible exact number_Cmp.mono _ _ _)
      | (with_reducible exact number_Of.mono _ _)
      | (with_reducible exact LeO.refl _)
      | (with_reducible exact LeO.none _)
      | (with_reducible refine LeO.ite ?_ ?_)
      | (with_reducible refine LeO.bind ?_ (fun _ => ?_))
      | exact ih0 _ _ _ _ _ _ _
      | exact ih1 _ _ _ _ _
      | exact graftwoodlaw02_awake.mono _
      | exact graftwoodref02_Cmp.mono _ _ _
      | exact graftwoodref02_May.mono _ _
      | exact graftwoodref02_Next.mono _ _
      | exact graftwoodref02_Of.mono _ _
      | exact graftwoodref02_Value.mono _ _
      | exact number_Cmp.mono _ _ _
      | exact number_Of.mono _ _
      | exact LeO.none _
      | refine LeO.ite ?_ ?_
      | refine LeO.bind ?_ (fun _ => ?_)
theorem graftwoodlaw02_NumberTells.mono : ∀ a0 a1 a2 k, LeO (graftwoodlaw02_NumberTells.f k a0 a1 a2) (graftwoodlaw02_NumberTells.f (k + 1) a0 a1 a2) := by
  intro a0 a1 a2 k
  obtain ⟨ih0, ih1⟩ := graftwoodlaw02_NumberTells.mono_l k
  unfold graftwoodlaw02_NumberTells.f
  repeat' first
      | (with_reducible exact ih0 _ _ _ _ _ _ _)
      | (with_reducible exact ih1 _ _ _ _ _)
      | (with_reducible exact graftwoodlaw02_awake.mono _)
      | (with_reducible exact graftwoodref02_Cmp.mono _ _ _)
      | (with_reducible exact graftwoodref02_May.mono _ _)
      | (with_reducible exact graftwoodref02_Next.mono _ _)
      | (with_reducible exact graftwoodref02_Of.mono _ _)
      | (with_reducible exact graftwoodref02_Value.mono _ _)
      | (with_reducible exact number_Cmp.mono _ _ _)
      | (with_reducible exact number_Of.mono _ _)
      | (with_reducible exact LeO.refl _)
      | (with_reducible exact LeO.none _)
      | (with_reducible refine LeO.ite ?_ ?_)
      | (with_reducible refine LeO.bind ?_ (fun _ => ?_))
      | exact ih0 _ _ _ _ _ _ _
      | exact ih1 _ _ _ _ _
      | exact graftwoodlaw02_awake.mono _
      | exact graftwoodref02_Cmp.mono _ _ _
      | exact graftwoodref02_May.mono _ _
      | exact graftwoodref02_Next.mono _ _
      | exact graftwoodref02_Of.mono _ _
      | exact graftwoodref02_Value.mono _ _
      | exact number_Cmp.mono _ _ _
      | exact number_Of.mono _ _
      | exact LeO.none _
      | refine LeO.ite ?_ ?_
      | refine LeO.bind ?_ (fun _ => ?_)
set_option maxHeartbeats 8000000 in
set_option maxRecDepth 100000 in
theorem graftwoodlaw02_NumberTells.calls (k : Nat) (a0 : ByteArray) (a1 : ByteArray) (a2 : Int) (r : Bool) (w : World) (h : graftwoodlaw02_NumberTells.f k a0 a1 a2 = some r) :
    Calls Try.prog 7 #[.string a0, .string a1, .int .u64 a2] w fun e w' => e = .returned (.bool r) ∧ Below w.heap.size w w' := by
  have HB := Aside0.mk (Below.refl w.heap.size w)
  have H : ((graftwoodlaw01_Few.f a0).bind fun t210 => ((graftwoodlaw01_Few.f a1).bind fun t211 => ((number_Cmp.f k t210 t211).bind fun bt212 => ((number_Value.f t210).bind fun bt214 => ((graftwoodref02_Value.f k t210).bind fun bt216 => ((number_Next.f t210).bind fun bt218 => ((number_May.f t210).bind fun t220 => ((graftwoodref02_May.f k t210).bind fun t221 => (if (t220 != t221) = true then (graftwoodlaw02_NumberTells.j0 k t210 t211 bt212.1 bt212.2 bt218.1 bt218.2 true) else ((number_May.f t211).bind fun t222 => ((graftwoodref02_May.f k t211).bind fun t223 => (if (t222 != t223) = true then (graftwoodlaw02_NumberTells.j0 k t210 t211 bt212.1 bt212.2 bt218.1 bt218.2 true) else (if bt214.1 = bt216.1 then (if bt214.2 = bt216.2 then ((number_Of.f k a2).bind fun t224 => ((graftwoodref02_Of.f k a2).bind fun t225 => (graftwoodlaw02_NumberTells.j0 k t210 t211 bt212.1 bt212.2 bt218.1 bt218.2 (t224.toList != t225.toList)))) else (graftwoodlaw02_NumberTells.j0 k t210 t211 bt212.1 bt212.2 bt218.1 bt218.2 true)) else (graftwoodlaw02_NumberTells.j0 k t210 t211 bt212.1 bt212.2 bt218.1 bt218.2 true)))))))))))))) = some r := h
  clear h
  replace H := Option.bind_eq_some_iff.mp H
  obtain ⟨t210, A40, H⟩ := H
  replace H : ((graftwoodlaw01_Few.f a1).bind fun t211 => ((number_Cmp.f k t210 t211).bind fun bt212 => ((number_Value.f t210).bind fun bt214 => ((graftwoodref02_Value.f k t210).bind fun bt216 => ((number_Next.f t210).bind fun bt218 => ((number_May.f t210).bind fun t220 => ((graftwoodref02_May.f k t210).bind fun t221 => (if (t220 != t221) = true then (graftwoodlaw02_NumberTells.j0 k t210 t211 bt212.1 bt212.2 bt218.1 bt218.2 true) else ((number_May.f t211).bind fun t222 => ((graftwoodref02_May.f k t211).bind fun t223 => (if (t222 != t223) = true then (graftwoodlaw02_NumberTells.j0 k t210 t211 bt212.1 bt212.2 bt218.1 bt218.2 true) else (if bt214.1 = bt216.1 then (if bt214.2 = bt216.2 then ((number_Of.f k a2).bind fun t224 => ((graftwoodref02_Of.f k a2).bind fun t225 => (graftwoodlaw02_NumberTells.j0 k t210 t211 bt212.1 bt212.2 bt218.1 bt218.2 (t224.toList != t225.toList)))) else (graftwoodlaw02_NumberTells.j0 k t210 t211 bt212.1 bt212.2 bt218.1 bt218.2 true)) else (graftwoodlaw02_NumberTells.j0 k t210 t211 bt212.1 bt212.2 bt218.1 bt218.2 true))))))))))))) = some r := H
  have A4 := Aside0.mk A40
  clear A40
  replace H := Option.bind_eq_some_iff.mp H
  obtain ⟨t211, A50, H⟩ := H
  replace H : ((number_Cmp.f k t210 t211).bind fun bt212 => ((number_Value.f t210).bind fun bt214 => ((graftwoodref02_Value.f k t210).bind fun bt216 => ((number_Next.f t210).bind fun bt218 => ((number_May.f t210).bind fun t220 => ((graftwoodref02_May.f k t210).bind fun t221 => (if (t220 != t221) = true then (graftwoodlaw02_NumberTells.j0 k t210 t211 bt212.1 bt212.2 bt218.1 bt218.2 true) else ((number_May.f t211).bind fun t222 => ((graftwoodref02_May.f k t211).bind fun t223 => (if (t222 != t223) = true then (graftwoodlaw02_NumberTells.j0 k t210 t211 bt212.1 bt212.2 bt218.1 bt218.2 true) else (if bt214.1 = bt216.1 then (if bt214.2 = bt216.2 then ((number_Of.f k a2).bind fun t224 => ((graftwoodref02_Of.f k a2).bind fun t225 => (graftwoodlaw02_NumberTells.j0 k t210 t211 bt212.1 bt212.2 bt218.1 bt218.2 (t224.toList != t225.toList)))) else (graftwoodlaw02_NumberTells.j0 k t210 t211 bt212.1 bt212.2 bt218.1 bt218.2 true)) else (graftwoodlaw02_NumberTells.j0 k t210 t211 bt212.1 bt212.2 bt218.1 bt218.2 true)))))))))))) = some r := H
  have A5 := Aside0.mk A50
  clear A50
  replace H := Option.bind_eq_some_iff.mp H
  obtain ⟨⟨t212, t213⟩, A60, H⟩ := H
  replace H : ((number_Value.f t210).bind fun bt214 => ((graftwoodref02_Value.f k t210).bind fun bt216 => ((number_Next.f t210).bind fun bt218 => ((number_May.f t210).bind fun t220 => ((graftwoodref02_May.f k t210).bind fun t221 => (if (t220 != t221) = true then (graftwoodlaw02_NumberTells.j0 k t210 t211 t212 t213 bt218.1 bt218.2 true) else ((number_May.f t211).bind fun t222 => ((graftwoodref02_May.f k t211).bind fun t223 => (if (t222 != t223) = true then (graftwoodlaw02_NumberTells.j0 k t210 t211 t212 t213 bt218.1 bt218.2 true) else (if bt214.1 = bt216.1 then (if bt214.2 = bt216.2 then ((number_Of.f k a2).bind fun t224 => ((graftwoodref02_Of.f k a2).bind fun t225 => (graftwoodlaw02_NumberTells.j0 k t210 t211 t212 t213 bt218.1 bt218.2 (t224.toList != t225.toList)))) else (graftwoodlaw02_NumberTells.j0 k t210 t211 t212 t213 bt218.1 bt218.2 true)) else (graftwoodlaw02_NumberTells.j0 k t210 t211 t212 t213 bt218.1 bt218.2 true))))))))))) = some r := H
  have A6 := Aside0.mk A60
  clear A60
  replace H := Option.bind_eq_some_iff.mp H
  obtain ⟨⟨t214, t215⟩, A70, H⟩ := H
  replace H : ((graftwoodref02_Value.f k t210).bind fun bt216 => ((number_Next.f t210).bind fun bt218 => ((number_May.f t210).bind fun t220 => ((graftwoodref02_May.f k t210).bind fun t221 => (if (t220 != t221) = true then (graftwoodlaw02_NumberTells.j0 k t210 t211 t212 t213 bt218.1 bt218.2 true) else ((number_May.f t211).bind fun t222 => ((graftwoodref02_May.f k t211).bind fun t223 => (if (t222 != t223) = true then (graftwoodlaw02_NumberTells.j0 k t210 t211 t212 t213 bt218.1 bt218.2 true) else (if t214 = bt216.1 then (if t215 = bt216.2 then ((number_Of.f k a2).bind fun t224 => ((graftwoodref02_Of.f k a2).bind fun t225 => (graftwoodlaw02_NumberTells.j0 k t210 t211 t212 t213 bt218.1 bt218.2 (t224.toList != t225.toList)))) else (graftwoodlaw02_NumberTells.j0 k t210 t211 t212 t213 bt218.1 bt218.2 true)) else (graftwoodlaw02_NumberTells.j0 k t210 t211 t212 t213 bt218.1 bt218.2 true)))))))))) = some r := H
  have A7 := Aside0.mk A70
  clear A70
  replace H := Option.bind_eq_some_iff.mp H
  obtain ⟨⟨t216, t217⟩, A80, H⟩ := H
  replace H : ((number_Next.f t210).bind fun bt218 => ((number_May.f t210).bind fun t220 => ((graftwoodref02_May.f k t210).bind fun t221 => (if (t220 != t221) = true then (graftwoodlaw02_NumberTells.j0 k t210 t211 t212 t213 bt218.1 bt218.2 true) else ((number_May.f t211).bind fun t222 => ((graftwoodref02_May.f k t211).bind fun t223 => (if (t222 != t223) = true then (graftwoodlaw02_NumberTells.j0 k t210 t211 t212 t213 bt218.1 bt218.2 true) else (if t214 = t216 then (if t215 = t217 then ((number_Of.f k a2).bind fun t224 => ((graftwoodref02_Of.f k a2).bind fun t225 => (graftwoodlaw02_NumberTells.j0 k t210 t211 t212 t213 bt218.1 bt218.2 (t224.toList != t225.toList)))) else (graftwoodlaw02_NumberTells.j0 k t210 t211 t212 t213 bt218.1 bt218.2 true)) else (graftwoodlaw02_NumberTells.j0 k t210 t211 t212 t213 bt218.1 bt218.2 true))))))))) = some r := H
  have A8 := Aside0.mk A80
  clear A80
  replace H := Option.bind_eq_some_iff.mp H
  obtain ⟨⟨t218, t219⟩, A90, H⟩ := H
  replace H : ((number_May.f t210).bind fun t220 => ((graftwoodref02_May.f k t210).bind fun t221 => (if (t220 != t221) = true then (graftwoodlaw02_NumberTells.j0 k t210 t211 t212 t213 t218 t219 true) else ((number_May.f t211).bind fun t222 => ((graftwoodref02_May.f k t211).bind fun t223 => (if (t222 != t223) = true then (graftwoodlaw02_NumberTells.j0 k t210 t211 t212 t213 t218 t219 true) else (if t214 = t216 then (if t215 = t217 then ((number_Of.f k a2).bind fun t224 => ((graftwoodref02_Of.f k a2).bind fun t225 => (graftwoodlaw02_NumberTells.j0 k t210 t211 t212 t213 t218 t219 (t224.toList != t225.toList)))) else (graftwoodlaw02_NumberTells.j0 k t210 t211 t212 t213 t218 t219 true)) else (graftwoodlaw02_NumberTells.j0 k t210 t211 t212 t213 t218 t219 true)))))))) = some r := H
  have A9 := Aside0.mk A90
  clear A90
  have HC10 := Aside0.mk H
  clear H
  go_enter Try.func7, Try.ntmps7
  go_upto_region 6 with (first | ((with_reducible refine gate_callee (f := 9) rfl ?_); refine goesL_ (some 16) rfl rfl Try.func9 (by kernel_rfl) rfl #[.string a0] rfl (by (try simp only [List.map_toArray, List.map_cons, List.map_nil]); first | done | rfl | (simp only [List.length_drop, List.length_take]; rfl)) ?_; (with_reducible refine (graftwoodlaw01_Few.calls a0 t210 _ A4.out).mono ?_); rintro e w' ⟨rfl, ⟨nd, rfl⟩⟩; refine ⟨_, rfl, ?_⟩) | ((with_reducible refine gate_callee (f := 9) rfl ?_); refine goesL_ (some 18) rfl rfl Try.func9 (by kernel_rfl) rfl #[.string a1] rfl (by (try simp only [List.map_toArray, List.map_cons, List.map_nil]); first | done | rfl | (simp only [List.length_drop, List.length_take]; rfl)) ?_; (with_reducible refine (graftwoodlaw01_Few.calls a1 t211 _ A5.out).mono ?_); rintro e w' ⟨rfl, ⟨nd, rfl⟩⟩; refine ⟨_, rfl, ?_⟩) | ((with_reducible refine gate_callee (f := 10) rfl ?_); refine goesL_ (some 22) rfl rfl Try.func10 (by kernel_rfl) rfl #[.string t210, .string t211] rfl (by (try simp only [List.map_toArray, List.map_cons, List.map_nil]); first | done | rfl | (simp only [List.length_drop, List.length_take]; rfl)) ?_; (with_reducible refine (number_Cmp.calls k t210 t211 t212 t213 _ A6.out).mono ?_); rintro e w11 ⟨rfl, hb⟩; refine ⟨_, rfl, ?_⟩; have n0_ := Aside0.mk (below_step (by repeat (first | (with_reducible first | exact HB.out | apply below_alloc | apply pw_below_drewN | apply below_drew1) | exact HB.out)) hb); clear HB; have HB := n0_; clear n0_; (try clear hb); (try clear hb2); (try clear hk); (try clear hi)) | ((with_reducible refine gate_callee (f := 15) rfl ?_); refine goesL_ (some 27) rfl rfl Try.func15 (by kernel_rfl) rfl #[.string t210] rfl (by (try simp only [List.map_toArray, List.map_cons, List.map_nil]); first | done | rfl | (simp only [List.length_drop, List.length_take]; rfl)) ?_; (with_reducible refine (number_Value.calls t210 t214 t215 _ A7.out).mono ?_); rintro e w12 ⟨rfl, hb⟩; refine ⟨_, rfl, ?_⟩; have n0_ := Aside0.mk (below_step (by repeat (first | (with_reducible first | exact HB.out | apply below_alloc | apply pw_below_drewN | apply below_drew1) | exact HB.out)) hb); clear HB; have HB := n0_; clear n0_; (try clear hb); (try clear hb2); (try clear hk); (try clear hi)) | ((with_reducible refine gate_callee (f := 16) rfl ?_); refine goesL_ (some 32) rfl rfl Try.func16 (by kernel_rfl) rfl #[.string t210] rfl (by (try simp only [List.map_toArray, List.map_cons, List.map_nil]); first | done | rfl | (simp only [List.length_drop, List.length_take]; rfl)) ?_; (with_reducible refine (graftwoodref02_Value.calls k t210 t216 t217 _ A8.out).mono ?_); rintro e w' ⟨rfl, ⟨nd, rfl⟩⟩; refine ⟨_, rfl, ?_⟩) | ((with_reducible refine gate_callee (f := 13) rfl ?_); refine goesL_ (some 37) rfl rfl Try.func13 (by kernel_rfl) rfl #[.string t210] rfl (by (try simp only [List.map_toArray, List.map_cons, List.map_nil]); first | done | rfl | (simp only [List.length_drop, List.length_take]; rfl)) ?_; (with_reducible refine (number_Next.calls t210 t218 t219 _ A9.out).mono ?_); rintro e w13 ⟨rfl, hb⟩; refine ⟨_, rfl, ?_⟩; have n0_ := Aside0.mk (below_step (by repeat (first | (with_reducible first | exact HB.out | apply below_alloc | apply pw_below_drewN | apply below_drew1) | exact HB.out)) hb); clear HB; have HB := n0_; clear n0_; (try clear hb); (try clear hb2); (try clear hk); (try clear hi)))
  (try simp only [Act.put, List.setIfInBounds_toArray, List.set_cons_zero, List.set_cons_succ])
  go_cut [68] (fun v68 wc => ∃ (kq : Nat) (x68_9 : Bool), v68 = .bool x68_9 ∧ Aside0 (graftwoodlaw02_NumberTells.j0 kq t210 t211 t212 t213 t218 t219 x68_9 = some r) ∧ Aside0 (kq ≤ k) ∧ Aside0 (Below w.heap.size w wc))
  case first =>
    have H := HC10.out
    clear HC10
    replace H := Option.bind_eq_some_iff.mp H
    obtain ⟨t220, A140, H⟩ := H
    replace H : ((graftwoodref02_May.f k t210).bind fun t221 => (if (t220 != t221) = true then (graftwoodlaw02_NumberTells.j0 k t210 t211 t212 t213 t218 t219 true) else ((number_May.f t211).bind fun t222 => ((graftwoodref02_May.f k t211).bind fun t223 => (if (t222 != t223) = true then (graftwoodlaw02_NumberTells.j0 k t210 t211 t212 t213 t218 t219 true) else (if t214 = t216 then (if t215 = t217 then ((number_Of.f k a2).bind fun t224 => ((graftwoodref02_Of.f k a2).bind fun t225 => (graftwoodlaw02_NumberTells.j0 k t210 t211 t212 t213 t218 t219 (t224.toList != t225.toList)))) else (graftwoodlaw02_NumberTells.j0 k t210 t211 t212 t213 t218 t219 true)) else (graftwoodlaw02_NumberTells.j0 k t210 t211 t212 t213 t218 t219 true))))))) = some r := H
    have A14 := Aside0.mk A140
    clear A140
    replace H := Option.bind_eq_some_iff.mp H
    obtain ⟨t221, A150, H⟩ := H
    replace H : (if (t220 != t221) = true then (graftwoodlaw02_NumberTells.j0 k t210 t211 t212 t213 t218 t219 true) else ((number_May.f t211).bind fun t222 => ((graftwoodref02_May.f k t211).bind fun t223 => (if (t222 != t223) = true then (graftwoodlaw02_NumberTells.j0 k t210 t211 t212 t213 t218 t219 true) else (if t214 = t216 then (if t215 = t217 then ((number_Of.f k a2).bind fun t224 => ((graftwoodref02_Of.f k a2).bind fun t225 => (graftwoodlaw02_NumberTells.j0 k t210 t211 t212 t213 t218 t219 (t224.toList != t225.toList)))) else (graftwoodlaw02_NumberTells.j0 k t210 t211 t212 t213 t218 t219 true)) else (graftwoodlaw02_NumberTells.j0 k t210 t211 t212 t213 t218 t219 true)))))) = some r := H
    have A15 := Aside0.mk A150
    clear A150
    by_cases c16 : (t220 != t221) = true
    · rw [if_pos c16] at H
      have c16b0 : (t220 != t221) = true := c16
      (try (have c16b1 : decide (t220 = t221) = false := by simpa using c16))
      (try (have c16b2 : (t220 == t221) = false := by simpa using c16))
      (try (have c16b3 : ¬ (t220 = t221) := by simpa using c16))
      clear c16
      (first | rw [c16b0] | (simp only [i64_w, i32_w]; rw [c16b0]) | skip)
      have H' := Aside0.mk H
      clear H
      go_wp2_with (first | ((with_reducible refine gate_callee (f := 11) rfl ?_); refine goesL_ (some 41) rfl rfl Try.func11 (by kernel_rfl) rfl #[.string t210] rfl (by (try simp only [List.map_toArray, List.map_cons, List.map_nil]); first | done | rfl | (simp only [List.length_drop, List.length_take]; rfl)) ?_; (with_reducible refine (number_May.calls t210 t220 _ A14.out).mono ?_); rintro e w17 ⟨rfl, hb⟩; refine ⟨_, rfl, ?_⟩; have n0_ := Aside0.mk (below_step (by repeat (first | (with_reducible first | exact HB.out | apply below_alloc | apply pw_below_drewN | apply below_drew1) | exact HB.out)) hb); clear HB; have HB := n0_; clear n0_; (try clear hb); (try clear hb2); (try clear hk); (try clear hi)) | ((with_reducible refine gate_callee (f := 17) rfl ?_); refine goesL_ (some 43) rfl rfl Try.func17 (by kernel_rfl) rfl #[.string t210] rfl (by (try simp only [List.map_toArray, List.map_cons, List.map_nil]); first | done | rfl | (simp only [List.length_drop, List.length_take]; rfl)) ?_; (with_reducible refine (graftwoodref02_May.calls k t210 t221 _ A15.out).mono ?_); rintro e w' ⟨rfl, ⟨nd, rfl⟩⟩; refine ⟨_, rfl, ?_⟩))
      go_meet
      case rel => exact ⟨_, (true), (by first | rfl | (simp; done) | (simp [*]; done) | (simp [bne]; done)), H', ⟨by first | omega | exact Nat.le_refl _⟩, ⟨by repeat (first | (with_reducible first | exact HB.out | apply below_alloc | apply pw_below_drewN | apply below_drew1) | exact HB.out)⟩⟩
    · rw [if_neg c16] at H
      have c16b0 : (t220 != t221) = false := by simpa using c16
      (try (have c16b1 : decide (t220 = t221) = true := by simpa using c16))
      (try (have c16b2 : (t220 == t221) = true := by simpa using c16))
      clear c16
      (first | rw [c16b0] | (simp only [i64_w, i32_w]; rw [c16b0]) | skip)
      replace H := Option.bind_eq_some_iff.mp H
      obtain ⟨t222, A180, H⟩ := H
      replace H : ((graftwoodref02_May.f k t211).bind fun t223 => (if (t222 != t223) = true then (graftwoodlaw02_NumberTells.j0 k t210 t211 t212 t213 t218 t219 true) else (if t214 = t216 then (if t215 = t217 then ((number_Of.f k a2).bind fun t224 => ((graftwoodref02_Of.f k a2).bind fun t225 => (graftwoodlaw02_NumberTells.j0 k t210 t211 t212 t213 t218 t219 (t224.toList != t225.toList)))) else (graftwoodlaw02_NumberTells.j0 k t210 t211 t212 t213 t218 t219 true)) else (graftwoodlaw02_NumberTells.j0 k t210 t211 t212 t213 t218 t219 true)))) = some r := H
      have A18 := Aside0.mk A180
      clear A180
      replace H := Option.bind_eq_some_iff.mp H
      obtain ⟨t223, A190, H⟩ := H
      replace H : (if (t222 != t223) = true then (graftwoodlaw02_NumberTells.j0 k t210 t211 t212 t213 t218 t219 true) else (if t214 = t216 then (if t215 = t217 then ((number_Of.f k a2).bind fun t224 => ((graftwoodref02_Of.f k a2).bind fun t225 => (graftwoodlaw02_NumberTells.j0 k t210 t211 t212 t213 t218 t219 (t224.toList != t225.toList)))) else (graftwoodlaw02_NumberTells.j0 k t210 t211 t212 t213 t218 t219 true)) else (graftwoodlaw02_NumberTells.j0 k t210 t211 t212 t213 t218 t219 true))) = some r := H
      have A19 := Aside0.mk A190
      clear A190
      by_cases c20 : (t222 != t223) = true
      · rw [if_pos c20] at H
        have c20b0 : (t222 != t223) = true := c20
        (try (have c20b1 : decide (t222 = t223) = false := by simpa using c20))
        (try (have c20b2 : (t222 == t223) = false := by simpa using c20))
        (try (have c20b3 : ¬ (t222 = t223) := by simpa using c20))
        clear c20
        have H' := Aside0.mk H
        clear H
        go_wp2_with (first | ((with_reducible refine gate_callee (f := 11) rfl ?_); refine goesL_ (some 41) rfl rfl Try.func11 (by kernel_rfl) rfl #[.string t210] rfl (by (try simp only [List.map_toArray, List.map_cons, List.map_nil]); first | done | rfl | (simp only [List.length_drop, List.length_take]; rfl)) ?_; (with_reducible refine (number_May.calls t210 t220 _ A14.out).mono ?_); rintro e w21 ⟨rfl, hb⟩; refine ⟨_, rfl, ?_⟩; have n0_ := Aside0.mk (below_step (by repeat (first | (with_reducible first | exact HB.out | apply below_alloc | apply pw_below_drewN | apply below_drew1) | exact HB.out)) hb); clear HB; have HB := n0_; clear n0_; (try clear hb); (try clear hb2); (try clear hk); (try clear hi)) | ((with_reducible refine gate_callee (f := 17) rfl ?_); refine goesL_ (some 43) rfl rfl Try.func17 (by kernel_rfl) rfl #[.string t210] rfl (by (try simp only [List.map_toArray, List.map_cons, List.map_nil]); first | done | rfl | (simp only [List.length_drop, List.length_take]; rfl)) ?_; (with_reducible refine (graftwoodref02_May.calls k t210 t221 _ A15.out).mono ?_); rintro e w' ⟨rfl, ⟨nd, rfl⟩⟩; refine ⟨_, rfl, ?_⟩) | (go_at_call 11; (with_reducible refine (number_May.calls t211 t222 _ A18.out).mono ?_); rintro e w22 ⟨rfl, hb⟩; have n0_ := Aside0.mk (below_step (by repeat (first | (with_reducible first | exact HB.out | apply below_alloc | apply pw_below_drewN | apply below_drew1) | exact HB.out)) hb); clear HB; have HB := n0_; clear n0_; (try clear hb); (try clear hb2); (try clear hk); (try clear hi)) | (go_at_call 17; (with_reducible refine (graftwoodref02_May.calls k t211 t223 _ A19.out).mono ?_); rintro e w' ⟨rfl, ⟨nd, rfl⟩⟩))
        go_meet
        case rel => exact ⟨_, (true), (by first | rfl | (simp; done) | (simp [*]; done) | (simp [bne]; done)), H', ⟨by first | omega | exact Nat.le_refl _⟩, ⟨by repeat (first | (with_reducible first | exact HB.out | apply below_alloc | apply pw_below_drewN | apply below_drew1) | exact HB.out)⟩⟩
      · rw [if_neg c20] at H
        have c20b0 : (t222 != t223) = false := by simpa using c20
        (try (have c20b1 : decide (t222 = t223) = true := by simpa using c20))
        (try (have c20b2 : (t222 == t223) = true := by simpa using c20))
        clear c20
        by_cases c23 : t214 = t216
        · rw [if_pos c23] at H
          have c23b0 : (t214 == t216) = true := beq_iff_eq.mpr c23
          have c23b1 : (t214 != t216) = false := bne_eq_false_iff_eq.mpr c23
          clear c23
          by_cases c24 : t215 = t217
          · rw [if_pos c24] at H
            have c24b0 : (t215 == t217) = true := beq_iff_eq.mpr c24
            have c24b1 : (t215 != t217) = false := bne_eq_false_iff_eq.mpr c24
            clear c24
            replace H := Option.bind_eq_some_iff.mp H
            obtain ⟨t224, A250, H⟩ := H
            replace H : ((graftwoodref02_Of.f k a2).bind fun t225 => (graftwoodlaw02_NumberTells.j0 k t210 t211 t212 t213 t218 t219 (t224.toList != t225.toList))) = some r := H
            have A25 := Aside0.mk A250
            clear A250
            replace H := Option.bind_eq_some_iff.mp H
            obtain ⟨t225, A260, H⟩ := H
            replace H : (graftwoodlaw02_NumberTells.j0 k t210 t211 t212 t213 t218 t219 (t224.toList != t225.toList)) = some r := H
            have A26 := Aside0.mk A260
            clear A260
            have H' := Aside0.mk H
            clear H
            go_wp2_with (first | ((with_reducible refine gate_callee (f := 11) rfl ?_); refine goesL_ (some 41) rfl rfl Try.func11 (by kernel_rfl) rfl #[.string t210] rfl (by (try simp only [List.map_toArray, List.map_cons, List.map_nil]); first | done | rfl | (simp only [List.length_drop, List.length_take]; rfl)) ?_; (with_reducible refine (number_May.calls t210 t220 _ A14.out).mono ?_); rintro e w27 ⟨rfl, hb⟩; refine ⟨_, rfl, ?_⟩; have n0_ := Aside0.mk (below_step (by repeat (first | (with_reducible first | exact HB.out | apply below_alloc | apply pw_below_drewN | apply below_drew1) | exact HB.out)) hb); clear HB; have HB := n0_; clear n0_; (try clear hb); (try clear hb2); (try clear hk); (try clear hi)) | ((with_reducible refine gate_callee (f := 17) rfl ?_); refine goesL_ (some 43) rfl rfl Try.func17 (by kernel_rfl) rfl #[.string t210] rfl (by (try simp only [List.map_toArray, List.map_cons, List.map_nil]); first | done | rfl | (simp only [List.length_drop, List.length_take]; rfl)) ?_; (with_reducible refine (graftwoodref02_May.calls k t210 t221 _ A15.out).mono ?_); rintro e w' ⟨rfl, ⟨nd, rfl⟩⟩; refine ⟨_, rfl, ?_⟩) | (go_at_call 11; (with_reducible refine (number_May.calls t211 t222 _ A18.out).mono ?_); rintro e w28 ⟨rfl, hb⟩; have n0_ := Aside0.mk (below_step (by repeat (first | (with_reducible first | exact HB.out | apply below_alloc | apply pw_below_drewN | apply below_drew1) | exact HB.out)) hb); clear HB; have HB := n0_; clear n0_; (try clear hb); (try clear hb2); (try clear hk); (try clear hi)) | (go_at_call 17; (with_reducible refine (graftwoodref02_May.calls k t211 t223 _ A19.out).mono ?_); rintro e w' ⟨rfl, ⟨nd, rfl⟩⟩) | (go_at_call 14; (with_reducible refine (number_Of.calls k a2 t224 _ A25.out).mono ?_); rintro e w29 ⟨rfl, hb⟩; have n0_ := Aside0.mk (below_step (by repeat (first | (with_reducible first | exact HB.out | apply below_alloc | apply pw_below_drewN | apply below_drew1) | exact HB.out)) hb); clear HB; have HB := n0_; clear n0_; (try clear hb); (try clear hb2); (try clear hk); (try clear hi)) | (go_at_call 18; (with_reducible refine (graftwoodref02_Of.calls k a2 t225 _ A26.out).mono ?_); rintro e w30 ⟨rfl, hb⟩; have n0_ := Aside0.mk (below_step (by repeat (first | (with_reducible first | exact HB.out | apply below_alloc | apply pw_below_drewN | apply below_drew1) | exact HB.out)) hb); clear HB; have HB := n0_; clear n0_; (try clear hb); (try clear hb2); (try clear hk); (try clear hi)))
            go_meet
            case rel => exact ⟨_, ((t224.toList != t225.toList)), (by first | rfl | (simp; done) | (simp [*]; done) | (simp [bne]; done)), H', ⟨by first | omega | exact Nat.le_refl _⟩, ⟨by repeat (first | (with_reducible first | exact HB.out | apply below_alloc | apply pw_below_drewN | apply below_drew1) | exact HB.out)⟩⟩
          · rw [if_neg c24] at H
            have c24b0 : (t215 == t217) = false := beq_eq_false_iff_ne.mpr c24
            have c24b1 : (t215 != t217) = true := bne_iff_ne.mpr c24
            have H' := Aside0.mk H
            clear H
            go_wp2_with (first | ((with_reducible refine gate_callee (f := 11) rfl ?_); refine goesL_ (some 41) rfl rfl Try.func11 (by kernel_rfl) rfl #[.string t210] rfl (by (try simp only [List.map_toArray, List.map_cons, List.map_nil]); first | done | rfl | (simp only [List.length_drop, List.length_take]; rfl)) ?_; (with_reducible refine (number_May.calls t210 t220 _ A14.out).mono ?_); rintro e w31 ⟨rfl, hb⟩; refine ⟨_, rfl, ?_⟩; have n0_ := Aside0.mk (below_step (by repeat (first | (with_reducible first | exact HB.out | apply below_alloc | apply pw_below_drewN | apply below_drew1) | exact HB.out)) hb); clear HB; have HB := n0_; clear n0_; (try clear hb); (try clear hb2); (try clear hk); (try clear hi)) | ((with_reducible refine gate_callee (f := 17) rfl ?_); refine goesL_ (some 43) rfl rfl Try.func17 (by kernel_rfl) rfl #[.string t210] rfl (by (try simp only [List.map_toArray, List.map_cons, List.map_nil]); first | done | rfl | (simp only [List.length_drop, List.length_take]; rfl)) ?_; (with_reducible refine (graftwoodref02_May.calls k t210 t221 _ A15.out).mono ?_); rintro e w' ⟨rfl, ⟨nd, rfl⟩⟩; refine ⟨_, rfl, ?_⟩) | (go_at_call 11; (with_reducible refine (number_May.calls t211 t222 _ A18.out).mono ?_); rintro e w32 ⟨rfl, hb⟩; have n0_ := Aside0.mk (below_step (by repeat (first | (with_reducible first | exact HB.out | apply below_alloc | apply pw_below_drewN | apply below_drew1) | exact HB.out)) hb); clear HB; have HB := n0_; clear n0_; (try clear hb); (try clear hb2); (try clear hk); (try clear hi)) | (go_at_call 17; (with_reducible refine (graftwoodref02_May.calls k t211 t223 _ A19.out).mono ?_); rintro e w' ⟨rfl, ⟨nd, rfl⟩⟩))
            go_meet
            case rel => exact ⟨_, (true), (by first | rfl | (simp; done) | (simp [*]; done) | (simp [bne]; done)), H', ⟨by first | omega | exact Nat.le_refl _⟩, ⟨by repeat (first | (with_reducible first | exact HB.out | apply below_alloc | apply pw_below_drewN | apply below_drew1) | exact HB.out)⟩⟩
        · rw [if_neg c23] at H
          have c23b0 : (t214 == t216) = false := beq_eq_false_iff_ne.mpr c23
          have c23b1 : (t214 != t216) = true := bne_iff_ne.mpr c23
          have H' := Aside0.mk H
          clear H
          go_wp2_with (first | ((with_reducible refine gate_callee (f := 11) rfl ?_); refine goesL_ (some 41) rfl rfl Try.func11 (by kernel_rfl) rfl #[.string t210] rfl (by (try simp only [List.map_toArray, List.map_cons, List.map_nil]); first | done | rfl | (simp only [List.length_drop, List.length_take]; rfl)) ?_; (with_reducible refine (number_May.calls t210 t220 _ A14.out).mono ?_); rintro e w33 ⟨rfl, hb⟩; refine ⟨_, rfl, ?_⟩; have n0_ := Aside0.mk (below_step (by repeat (first | (with_reducible first | exact HB.out | apply below_alloc | apply pw_below_drewN | apply below_drew1) | exact HB.out)) hb); clear HB; have HB := n0_; clear n0_; (try clear hb); (try clear hb2); (try clear hk); (try clear hi)) | ((with_reducible refine gate_callee (f := 17) rfl ?_); refine goesL_ (some 43) rfl rfl Try.func17 (by kernel_rfl) rfl #[.string t210] rfl (by (try simp only [List.map_toArray, List.map_cons, List.map_nil]); first | done | rfl | (simp only [List.length_drop, List.length_take]; rfl)) ?_; (with_reducible refine (graftwoodref02_May.calls k t210 t221 _ A15.out).mono ?_); rintro e w' ⟨rfl, ⟨nd, rfl⟩⟩; refine ⟨_, rfl, ?_⟩) | (go_at_call 11; (with_reducible refine (number_May.calls t211 t222 _ A18.out).mono ?_); rintro e w34 ⟨rfl, hb⟩; have n0_ := Aside0.mk (below_step (by repeat (first | (with_reducible first | exact HB.out | apply below_alloc | apply pw_below_drewN | apply below_drew1) | exact HB.out)) hb); clear HB; have HB := n0_; clear n0_; (try clear hb); (try clear hb2); (try clear hk); (try clear hi)) | (go_at_call 17; (with_reducible refine (graftwoodref02_May.calls k t211 t223 _ A19.out).mono ?_); rintro e w' ⟨rfl, ⟨nd, rfl⟩⟩))
          go_meet
          case rel => exact ⟨_, (true), (by first | rfl | (simp; done) | (simp [*]; done) | (simp [bne]; done)), H', ⟨by first | omega | exact Nat.le_refl _⟩, ⟨by repeat (first | (with_reducible first | exact HB.out | apply below_alloc | apply pw_below_drewN | apply below_drew1) | exact HB.out)⟩⟩
  case rest =>
    clear HC10
    try clear c1
    try clear c2
    try clear p2
    try clear c7
    try clear c9
    try clear c10
    try clear c11
    try clear c13
    try clear c15
    try clear c16
    try clear c16b0
    try clear c16b1
    try clear c16b2
    try clear c17
    try clear c20
    try clear c20b0
    try clear c20b1
    try clear c20b2
    try clear c23
    try clear c23b0
    try clear c23b1
    try clear c24
    try clear c24b0
    try clear c24b1
    obtain ⟨kq, x68_9, rfl, HA, HJ9, HB⟩ := hcut
    cases kq with
    | zero => exact absurd HA.out (by simp [graftwoodlaw02_NumberTells.j0])
    | succ kj9 =>
      have H := HA.out
      clear HA
      simp only [graftwoodlaw02_NumberTells.j0] at H
      by_cases c35 : x68_9 = true
      · subst c35
        have H1 : (some false) = some r := by rw [if_pos rfl] at H; exact H
        clear H
        have H := H1
        clear H1
        obtain rfl := Option.some.inj H
        go_wp2
        go_ret
        exact ⟨by first | rfl | (simp [errW_none, errW_some] <;> rfl) | (simp [*, errW_none, errW_some] <;> rfl), by repeat (first | (with_reducible first | exact HB.out | apply below_alloc | apply pw_below_drewN | apply below_drew1) | exact HB.out)⟩
      · replace c35 := Bool.eq_false_iff.mpr c35
        subst c35
        have H1 : ((graftwoodref02_May.f kj9 t210).bind fun t226 => (if t226 = true then ((graftwoodref02_Next.f kj9 t210).bind fun t228 => (if t218.toList = t228.toList then (graftwoodlaw02_NumberTells.j1 kj9 t210 t211 t212 t213 (t219 != 0)) else (graftwoodlaw02_NumberTells.j1 kj9 t210 t211 t212 t213 true))) else (if t212 = 0 then (if t213 = 1 then (if t218.toList = ([] : List UInt8) then (if t219 = 1 then ((graftwoodlaw02_awake.f kj9).bind fun t227 => (some t227)) else (some false)) else (some false)) else (some false)) else (some false)))) = some r := by rw [if_neg (show ¬ (false = true) by decide)] at H; exact H
        clear H
        have H := H1
        clear H1
        replace H := Option.bind_eq_some_iff.mp H
        obtain ⟨t226, A360, H⟩ := H
        replace H : (if t226 = true then ((graftwoodref02_Next.f kj9 t210).bind fun t228 => (if t218.toList = t228.toList then (graftwoodlaw02_NumberTells.j1 kj9 t210 t211 t212 t213 (t219 != 0)) else (graftwoodlaw02_NumberTells.j1 kj9 t210 t211 t212 t213 true))) else (if t212 = 0 then (if t213 = 1 then (if t218.toList = ([] : List UInt8) then (if t219 = 1 then ((graftwoodlaw02_awake.f kj9).bind fun t227 => (some t227)) else (some false)) else (some false)) else (some false)) else (some false))) = some r := H
        have A36 := Aside0.mk A360
        clear A360
        by_cases c37 : t226 = true
        · subst c37
          have H1 : ((graftwoodref02_Next.f kj9 t210).bind fun t228 => (if t218.toList = t228.toList then (graftwoodlaw02_NumberTells.j1 kj9 t210 t211 t212 t213 (t219 != 0)) else (graftwoodlaw02_NumberTells.j1 kj9 t210 t211 t212 t213 true))) = some r := by rw [if_pos rfl] at H; exact H
          clear H
          have H := H1
          clear H1
          have HC38 := Aside0.mk H
          clear H
          go_upto_region 10 with (first | ((with_reducible refine gate_callee (f := 17) rfl ?_); refine goesL_ (some 70) rfl rfl Try.func17 (by kernel_rfl) rfl #[.string t210] rfl (by (try simp only [List.map_toArray, List.map_cons, List.map_nil]); first | done | rfl | (simp only [List.length_drop, List.length_take]; rfl)) ?_; (with_reducible refine (graftwoodref02_May.calls kj9 t210 true _ A36.out).mono ?_); rintro e w' ⟨rfl, ⟨nd, rfl⟩⟩; refine ⟨_, rfl, ?_⟩))
          (try simp only [Act.put, List.setIfInBounds_toArray, List.set_cons_zero, List.set_cons_succ])
          go_cut [96] (fun v96 wc => ∃ (kq : Nat) (x96_37 : Bool), v96 = .bool x96_37 ∧ Aside0 (graftwoodlaw02_NumberTells.j1 kq t210 t211 t212 t213 x96_37 = some r) ∧ Aside0 (kq ≤ kj9) ∧ Aside0 (Below w.heap.size w wc))
          case first =>
            have H := HC38.out
            clear HC38
            replace H := Option.bind_eq_some_iff.mp H
            obtain ⟨t228, A390, H⟩ := H
            replace H : (if t218.toList = t228.toList then (graftwoodlaw02_NumberTells.j1 kj9 t210 t211 t212 t213 (t219 != 0)) else (graftwoodlaw02_NumberTells.j1 kj9 t210 t211 t212 t213 true)) = some r := H
            have A39 := Aside0.mk A390
            clear A390
            by_cases c40 : t218.toList = t228.toList
            · rw [if_pos c40] at H
              have c40b0 : (t218.toList == t228.toList) = true := beq_iff_eq.mpr c40
              have c40b1 : (t218.toList != t228.toList) = false := bne_eq_false_iff_eq.mpr c40
              clear c40
              (first | rw [c40b0] | (simp only [i64_w, i32_w]; rw [c40b0]) | skip)
              have H' := Aside0.mk H
              clear H
              go_wp2_with (first | ((with_reducible refine gate_callee (f := 19) rfl ?_); refine goesL_ (some 91) rfl rfl Try.func19 (by kernel_rfl) rfl #[.string t210] rfl (by (try simp only [List.map_toArray, List.map_cons, List.map_nil]); first | done | rfl | (simp only [List.length_drop, List.length_take]; rfl)) ?_; (with_reducible refine (graftwoodref02_Next.calls kj9 t210 t228 _ A39.out).mono ?_); rintro e w41 ⟨rfl, hb⟩; refine ⟨_, rfl, ?_⟩; have n0_ := Aside0.mk (below_step (by repeat (first | (with_reducible first | exact HB.out | apply below_alloc | apply pw_below_drewN | apply below_drew1) | exact HB.out)) hb); clear HB; have HB := n0_; clear n0_; (try clear hb); (try clear hb2); (try clear hk); (try clear hi)))
              go_meet
              case rel => exact ⟨_, ((t219 != 0)), (by first | rfl | (simp; done) | (simp [*]; done) | (simp [bne]; done)), H', ⟨by have := HJ9.out; first | omega | exact Nat.le_refl _⟩, ⟨by repeat (first | (with_reducible first | exact HB.out | apply below_alloc | apply pw_below_drewN | apply below_drew1) | exact HB.out)⟩⟩
            · rw [if_neg c40] at H
              have c40b0 : (t218.toList == t228.toList) = false := beq_eq_false_iff_ne.mpr c40
              have c40b1 : (t218.toList != t228.toList) = true := bne_iff_ne.mpr c40
              (first | rw [c40b0] | (simp only [i64_w, i32_w]; rw [c40b0]) | skip)
              have H' := Aside0.mk H
              clear H
              go_wp2_with (first | ((with_reducible refine gate_callee (f := 19) rfl ?_); refine goesL_ (some 91) rfl rfl Try.func19 (by kernel_rfl) rfl #[.string t210] rfl (by (try simp only [List.map_toArray, List.map_cons, List.map_nil]); first | done | rfl | (simp only [List.length_drop, List.length_take]; rfl)) ?_; (with_reducible refine (graftwoodref02_Next.calls kj9 t210 t228 _ A39.out).mono ?_); rintro e w42 ⟨rfl, hb⟩; refine ⟨_, rfl, ?_⟩; have n0_ := Aside0.mk (below_step (by repeat (first | (with_reducible first | exact HB.out | apply below_alloc | apply pw_below_drewN | apply below_drew1) | exact HB.out)) hb); clear HB; have HB := n0_; clear n0_; (try clear hb); (try clear hb2); (try clear hk); (try clear hi)))
              go_meet
              case rel => exact ⟨_, (true), (by first | rfl | (simp; done) | (simp [*]; done) | (simp [bne]; done)), H', ⟨by have := HJ9.out; first | omega | exact Nat.le_refl _⟩, ⟨by repeat (first | (with_reducible first | exact HB.out | apply below_alloc | apply pw_below_drewN | apply below_drew1) | exact HB.out)⟩⟩
          case rest =>
            clear HC38
            try clear c1
            try clear c2
            try clear p2
            try clear c3
            try clear c4
            try clear c7
            try clear c9
            try clear c10
            try clear c11
            try clear c13
            try clear c15
            try clear c16
            try clear c16b0
            try clear c16b1
            try clear c16b2
            try clear c17
            try clear c19
            try clear c20
            try clear c20b0
            try clear c20b1
            try clear c20b2
            try clear c23
            try clear c23b0
            try clear c23b1
            try clear c24
            try clear c24b0
            try clear c24b1
            try clear c35
            try clear c37
            try clear c40
            try clear c40b0
            try clear c40b1
            try clear p2
            obtain ⟨kq, x96_37, rfl, HA, HJ37, HB⟩ := hcut
            cases kq with
            | zero => exact absurd HA.out (by simp [graftwoodlaw02_NumberTells.j1])
            | succ kj37 =>
              have H := HA.out
              clear HA
              simp only [graftwoodlaw02_NumberTells.j1] at H
              by_cases c43 : x96_37 = true
              · subst c43
                have H1 : (some false) = some r := by rw [if_pos rfl] at H; exact H
                clear H
                have H := H1
                clear H1
                obtain rfl := Option.some.inj H
                go_wp2
                go_ret
                exact ⟨by first | rfl | (simp [errW_none, errW_some] <;> rfl) | (simp [*, errW_none, errW_some] <;> rfl), by repeat (first | (with_reducible first | exact HB.out | apply below_alloc | apply pw_below_drewN | apply below_drew1) | exact HB.out)⟩
              · replace c43 := Bool.eq_false_iff.mpr c43
                subst c43
                have H1 : ((graftwoodref02_May.f kj37 t211).bind fun t229 => (if t229 = true then ((graftwoodref02_Cmp.f kj37 t210 t211).bind fun t230 => (if t212 = t230 then (if t213 = 0 then ((graftwoodlaw02_awake.f kj37).bind fun t231 => (some t231)) else (some false)) else (some false))) else (if t212 = 0 then (if t213 = 1 then ((graftwoodlaw02_awake.f kj37).bind fun t232 => (some t232)) else (some false)) else (some false)))) = some r := by rw [if_neg (show ¬ (false = true) by decide)] at H; exact H
                clear H
                have H := H1
                clear H1
                replace H := Option.bind_eq_some_iff.mp H
                obtain ⟨t229, A440, H⟩ := H
                replace H : (if t229 = true then ((graftwoodref02_Cmp.f kj37 t210 t211).bind fun t230 => (if t212 = t230 then (if t213 = 0 then ((graftwoodlaw02_awake.f kj37).bind fun t231 => (some t231)) else (some false)) else (some false))) else (if t212 = 0 then (if t213 = 1 then ((graftwoodlaw02_awake.f kj37).bind fun t232 => (some t232)) else (some false)) else (some false))) = some r := H
                have A44 := Aside0.mk A440
                clear A440
                by_cases c45 : t229 = true
                · subst c45
                  have H1 : ((graftwoodref02_Cmp.f kj37 t210 t211).bind fun t230 => (if t212 = t230 then (if t213 = 0 then ((graftwoodlaw02_awake.f kj37).bind fun t231 => (some t231)) else (some false)) else (some false))) = some r := by rw [if_pos rfl] at H; exact H
                  clear H
                  have H := H1
                  clear H1
                  replace H := Option.bind_eq_some_iff.mp H
                  obtain ⟨t230, A460, H⟩ := H
                  replace H : (if t212 = t230 then (if t213 = 0 then ((graftwoodlaw02_awake.f kj37).bind fun t231 => (some t231)) else (some false)) else (some false)) = some r := H
                  have A46 := Aside0.mk A460
                  clear A460
                  by_cases c47 : t212 = t230
                  · rw [if_pos c47] at H
                    have c47b0 : (t212 == t230) = true := beq_iff_eq.mpr c47
                    have c47b1 : (t212 != t230) = false := bne_eq_false_iff_eq.mpr c47
                    clear c47
                    by_cases c48 : t213 = 0
                    · rw [if_pos c48] at H
                      have c48b0 : (t213 == 0) = true := beq_iff_eq.mpr c48
                      have c48b1 : (t213 != 0) = false := bne_eq_false_iff_eq.mpr c48
                      clear c48
                      replace H := Option.bind_eq_some_iff.mp H
                      obtain ⟨t231, A490, H⟩ := H
                      replace H : (some t231) = some r := H
                      have A49 := Aside0.mk A490
                      clear A490
                      obtain rfl := Option.some.inj H
                      go_wp2_with (first | ((with_reducible refine gate_callee (f := 17) rfl ?_); refine goesL_ (some 98) rfl rfl Try.func17 (by kernel_rfl) rfl #[.string t211] rfl (by (try simp only [List.map_toArray, List.map_cons, List.map_nil]); first | done | rfl | (simp only [List.length_drop, List.length_take]; rfl)) ?_; (with_reducible refine (graftwoodref02_May.calls kj37 t211 true _ A44.out).mono ?_); rintro e w' ⟨rfl, ⟨nd, rfl⟩⟩; refine ⟨_, rfl, ?_⟩) | ((with_reducible refine gate_callee (f := 20) rfl ?_); refine goesL_ (some 112) rfl rfl Try.func20 (by kernel_rfl) rfl #[.string t210, .string t211] rfl (by (try simp only [List.map_toArray, List.map_cons, List.map_nil]); first | done | rfl | (simp only [List.length_drop, List.length_take]; rfl)) ?_; (with_reducible refine (graftwoodref02_Cmp.calls kj37 t210 t211 t230 _ A46.out).mono ?_); rintro e w50 ⟨rfl, hb⟩; refine ⟨_, rfl, ?_⟩; have n0_ := Aside0.mk (below_step (by repeat (first | (with_reducible first | exact HB.out | apply below_alloc | apply pw_below_drewN | apply below_drew1) | exact HB.out)) hb); clear HB; have HB := n0_; clear n0_; (try clear hb); (try clear hb2); (try clear hk); (try clear hi)) | (go_at_call 12; (with_reducible refine (graftwoodlaw02_awake.calls kj37  t231 _ A49.out).mono ?_); rintro e w51 ⟨rfl, hb⟩; have n0_ := Aside0.mk (below_step (by repeat (first | (with_reducible first | exact HB.out | apply below_alloc | apply pw_below_drewN | apply below_drew1) | exact HB.out)) hb); clear HB; have HB := n0_; clear n0_; (try clear hb); (try clear hb2); (try clear hk); (try clear hi)))
                      go_ret
                      exact ⟨by first | rfl | (simp [errW_none, errW_some] <;> rfl) | (simp [*, errW_none, errW_some] <;> rfl), by repeat (first | (with_reducible first | exact HB.out | apply below_alloc | apply pw_below_drewN | apply below_drew1) | exact HB.out)⟩
                    · rw [if_neg c48] at H
                      have c48b0 : (t213 == 0) = false := beq_eq_false_iff_ne.mpr c48
                      have c48b1 : (t213 != 0) = true := bne_iff_ne.mpr c48
                      obtain rfl := Option.some.inj H
                      go_wp2_with (first | ((with_reducible refine gate_callee (f := 17) rfl ?_); refine goesL_ (some 98) rfl rfl Try.func17 (by kernel_rfl) rfl #[.string t211] rfl (by (try simp only [List.map_toArray, List.map_cons, List.map_nil]); first | done | rfl | (simp only [List.length_drop, List.length_take]; rfl)) ?_; (with_reducible refine (graftwoodref02_May.calls kj37 t211 true _ A44.out).mono ?_); rintro e w' ⟨rfl, ⟨nd, rfl⟩⟩; refine ⟨_, rfl, ?_⟩) | ((with_reducible refine gate_callee (f := 20) rfl ?_); refine goesL_ (some 112) rfl rfl Try.func20 (by kernel_rfl) rfl #[.string t210, .string t211] rfl (by (try simp only [List.map_toArray, List.map_cons, List.map_nil]); first | done | rfl | (simp only [List.length_drop, List.length_take]; rfl)) ?_; (with_reducible refine (graftwoodref02_Cmp.calls kj37 t210 t211 t230 _ A46.out).mono ?_); rintro e w52 ⟨rfl, hb⟩; refine ⟨_, rfl, ?_⟩; have n0_ := Aside0.mk (below_step (by repeat (first | (with_reducible first | exact HB.out | apply below_alloc | apply pw_below_drewN | apply below_drew1) | exact HB.out)) hb); clear HB; have HB := n0_; clear n0_; (try clear hb); (try clear hb2); (try clear hk); (try clear hi)))
                      go_ret
                      exact ⟨by first | rfl | (simp [errW_none, errW_some] <;> rfl) | (simp [*, errW_none, errW_some] <;> rfl), by repeat (first | (with_reducible first | exact HB.out | apply below_alloc | apply pw_below_drewN | apply below_drew1) | exact HB.out)⟩
                  · rw [if_neg c47] at H
                    have c47b0 : (t212 == t230) = false := beq_eq_false_iff_ne.mpr c47
                    have c47b1 : (t212 != t230) = true := bne_iff_ne.mpr c47
                    obtain rfl := Option.some.inj H
                    go_wp2_with (first | ((with_reducible refine gate_callee (f := 17) rfl ?_); refine goesL_ (some 98) rfl rfl Try.func17 (by kernel_rfl) rfl #[.string t211] rfl (by (try simp only [List.map_toArray, List.map_cons, List.map_nil]); first | done | rfl | (simp only [List.length_drop, List.length_take]; rfl)) ?_; (with_reducible refine (graftwoodref02_May.calls kj37 t211 true _ A44.out).mono ?_); rintro e w' ⟨rfl, ⟨nd, rfl⟩⟩; refine ⟨_, rfl, ?_⟩) | ((with_reducible refine gate_callee (f := 20) rfl ?_); refine goesL_ (some 112) rfl rfl Try.func20 (by kernel_rfl) rfl #[.string t210, .string t211] rfl (by (try simp only [List.map_toArray, List.map_cons, List.map_nil]); first | done | rfl | (simp only [List.length_drop, List.length_take]; rfl)) ?_; (with_reducible refine (graftwoodref02_Cmp.calls kj37 t210 t211 t230 _ A46.out).mono ?_); rintro e w53 ⟨rfl, hb⟩; refine ⟨_, rfl, ?_⟩; have n0_ := Aside0.mk (below_step (by repeat (first | (with_reducible first | exact HB.out | apply below_alloc | apply pw_below_drewN | apply below_drew1) | exact HB.out)) hb); clear HB; have HB := n0_; clear n0_; (try clear hb); (try clear hb2); (try clear hk); (try clear hi)))
                    go_ret
                    exact ⟨by first | rfl | (simp [errW_none, errW_some] <;> rfl) | (simp [*, errW_none, errW_some] <;> rfl), by repeat (first | (with_reducible first | exact HB.out | apply below_alloc | apply pw_below_drewN | apply below_drew1) | exact HB.out)⟩
                · replace c45 := Bool.eq_false_iff.mpr c45
                  subst c45
                  have H1 : (if t212 = 0 then (if t213 = 1 then ((graftwoodlaw02_awake.f kj37).bind fun t232 => (some t232)) else (some false)) else (some false)) = some r := by rw [if_neg (show ¬ (false = true) by decide)] at H; exact H
                  clear H
                  have H := H1
                  clear H1
                  by_cases c54 : t212 = 0
                  · rw [if_pos c54] at H
                    have c54b0 : (t212 == 0) = true := beq_iff_eq.mpr c54
                    have c54b1 : (t212 != 0) = false := bne_eq_false_iff_eq.mpr c54
                    clear c54
                    by_cases c55 : t213 = 1
                    · rw [if_pos c55] at H
                      have c55b0 : (t213 == 1) = true := beq_iff_eq.mpr c55
                      have c55b1 : (t213 != 1) = false := bne_eq_false_iff_eq.mpr c55
                      clear c55
                      replace H := Option.bind_eq_some_iff.mp H
                      obtain ⟨t232, A560, H⟩ := H
                      replace H : (some t232) = some r := H
                      have A56 := Aside0.mk A560
                      clear A560
                      obtain rfl := Option.some.inj H
                      go_wp2_with (first | ((with_reducible refine gate_callee (f := 17) rfl ?_); refine goesL_ (some 98) rfl rfl Try.func17 (by kernel_rfl) rfl #[.string t211] rfl (by (try simp only [List.map_toArray, List.map_cons, List.map_nil]); first | done | rfl | (simp only [List.length_drop, List.length_take]; rfl)) ?_; (with_reducible refine (graftwoodref02_May.calls kj37 t211 false _ A44.out).mono ?_); rintro e w' ⟨rfl, ⟨nd, rfl⟩⟩; refine ⟨_, rfl, ?_⟩) | (go_at_call 12; (with_reducible refine (graftwoodlaw02_awake.calls kj37  t232 _ A56.out).mono ?_); rintro e w57 ⟨rfl, hb⟩; have n0_ := Aside0.mk (below_step (by repeat (first | (with_reducible first | exact HB.out | apply below_alloc | apply pw_below_drewN | apply below_drew1) | exact HB.out)) hb); clear HB; have HB := n0_; clear n0_; (try clear hb); (try clear hb2); (try clear hk); (try clear hi)))
                      go_ret
                      exact ⟨by first | rfl | (simp [errW_none, errW_some] <;> rfl) | (simp [*, errW_none, errW_some] <;> rfl), by repeat (first | (with_reducible first | exact HB.out | apply below_alloc | apply pw_below_drewN | apply below_drew1) | exact HB.out)⟩
                    · rw [if_neg c55] at H
                      have c55b0 : (t213 == 1) = false := beq_eq_false_iff_ne.mpr c55
                      have c55b1 : (t213 != 1) = true := bne_iff_ne.mpr c55
                      obtain rfl := Option.some.inj H
                      go_wp2_with (first | ((with_reducible refine gate_callee (f := 17) rfl ?_); refine goesL_ (some 98) rfl rfl Try.func17 (by kernel_rfl) rfl #[.string t211] rfl (by (try simp only [List.map_toArray, List.map_cons, List.map_nil]); first | done | rfl | (simp only [List.length_drop, List.length_take]; rfl)) ?_; (with_reducible refine (graftwoodref02_May.calls kj37 t211 false _ A44.out).mono ?_); rintro e w' ⟨rfl, ⟨nd, rfl⟩⟩; refine ⟨_, rfl, ?_⟩))
                      go_ret
                      exact ⟨by first | rfl | (simp [errW_none, errW_some] <;> rfl) | (simp [*, errW_none, errW_some] <;> rfl), by repeat (first | (with_reducible first | exact HB.out | apply below_alloc | apply pw_below_drewN | apply below_drew1) | exact HB.out)⟩
                  · rw [if_neg c54] at H
                    have c54b0 : (t212 == 0) = false := beq_eq_false_iff_ne.mpr c54
                    have c54b1 : (t212 != 0) = true := bne_iff_ne.mpr c54
                    obtain rfl := Option.some.inj H
                    go_wp2_with (first | ((with_reducible refine gate_callee (f := 17) rfl ?_); refine goesL_ (some 98) rfl rfl Try.func17 (by kernel_rfl) rfl #[.string t211] rfl (by (try simp only [List.map_toArray, List.map_cons, List.map_nil]); first | done | rfl | (simp only [List.length_drop, List.length_take]; rfl)) ?_; (with_reducible refine (graftwoodref02_May.calls kj37 t211 false _ A44.out).mono ?_); rintro e w' ⟨rfl, ⟨nd, rfl⟩⟩; refine ⟨_, rfl, ?_⟩))
                    go_ret
                    exact ⟨by first | rfl | (simp [errW_none, errW_some] <;> rfl) | (simp [*, errW_none, errW_some] <;> rfl), by repeat (first | (with_reducible first | exact HB.out | apply below_alloc | apply pw_below_drewN | apply below_drew1) | exact HB.out)⟩
        · replace c37 := Bool.eq_false_iff.mpr c37
          subst c37
          have H1 : (if t212 = 0 then (if t213 = 1 then (if t218.toList = ([] : List UInt8) then (if t219 = 1 then ((graftwoodlaw02_awake.f kj9).bind fun t227 => (some t227)) else (some false)) else (some false)) else (some false)) else (some false)) = some r := by rw [if_neg (show ¬ (false = true) by decide)] at H; exact H
          clear H
          have H := H1
          clear H1
          by_cases c58 : t212 = 0
          · rw [if_pos c58] at H
            have c58b0 : (t212 == 0) = true := beq_iff_eq.mpr c58
            have c58b1 : (t212 != 0) = false := bne_eq_false_iff_eq.mpr c58
            clear c58
            by_cases c59 : t213 = 1
            · rw [if_pos c59] at H
              have c59b0 : (t213 == 1) = true := beq_iff_eq.mpr c59
              have c59b1 : (t213 != 1) = false := bne_eq_false_iff_eq.mpr c59
              clear c59
              by_cases c60 : t218.toList = ([] : List UInt8)
              · rw [if_pos c60] at H
                have c60b0 : (t218.toList == ([] : List UInt8)) = true := beq_iff_eq.mpr c60
                have c60b1 : (t218.toList != ([] : List UInt8)) = false := bne_eq_false_iff_eq.mpr c60
                clear c60
                by_cases c61 : t219 = 1
                · rw [if_pos c61] at H
                  have c61b0 : (t219 == 1) = true := beq_iff_eq.mpr c61
                  have c61b1 : (t219 != 1) = false := bne_eq_false_iff_eq.mpr c61
                  clear c61
                  replace H := Option.bind_eq_some_iff.mp H
                  obtain ⟨t227, A620, H⟩ := H
                  replace H : (some t227) = some r := H
                  have A62 := Aside0.mk A620
                  clear A620
                  obtain rfl := Option.some.inj H
                  go_wp2_with (first | ((with_reducible refine gate_callee (f := 17) rfl ?_); refine goesL_ (some 70) rfl rfl Try.func17 (by kernel_rfl) rfl #[.string t210] rfl (by (try simp only [List.map_toArray, List.map_cons, List.map_nil]); first | done | rfl | (simp only [List.length_drop, List.length_take]; rfl)) ?_; (with_reducible refine (graftwoodref02_May.calls kj9 t210 false _ A36.out).mono ?_); rintro e w' ⟨rfl, ⟨nd, rfl⟩⟩; refine ⟨_, rfl, ?_⟩) | (go_at_call 12; (with_reducible refine (graftwoodlaw02_awake.calls kj9  t227 _ A62.out).mono ?_); rintro e w63 ⟨rfl, hb⟩; have n0_ := Aside0.mk (below_step (by repeat (first | (with_reducible first | exact HB.out | apply below_alloc | apply pw_below_drewN | apply below_drew1) | exact HB.out)) hb); clear HB; have HB := n0_; clear n0_; (try clear hb); (try clear hb2); (try clear hk); (try clear hi)))
                  go_ret
                  exact ⟨by first | rfl | (simp [errW_none, errW_some] <;> rfl) | (simp [*, errW_none, errW_some] <;> rfl), by repeat (first | (with_reducible first | exact HB.out | apply below_alloc | apply pw_below_drewN | apply below_drew1) | exact HB.out)⟩
                · rw [if_neg c61] at H
                  have c61b0 : (t219 == 1) = false := beq_eq_false_iff_ne.mpr c61
                  have c61b1 : (t219 != 1) = true := bne_iff_ne.mpr c61
                  obtain rfl := Option.some.inj H
                  go_wp2_with (first | ((with_reducible refine gate_callee (f := 17) rfl ?_); refine goesL_ (some 70) rfl rfl Try.func17 (by kernel_rfl) rfl #[.string t210] rfl (by (try simp only [List.map_toArray, List.map_cons, List.map_nil]); first | done | rfl | (simp only [List.length_drop, List.length_take]; rfl)) ?_; (with_reducible refine (graftwoodref02_May.calls kj9 t210 false _ A36.out).mono ?_); rintro e w' ⟨rfl, ⟨nd, rfl⟩⟩; refine ⟨_, rfl, ?_⟩))
                  go_ret
                  exact ⟨by first | rfl | (simp [errW_none, errW_some] <;> rfl) | (simp [*, errW_none, errW_some] <;> rfl), by repeat (first | (with_reducible first | exact HB.out | apply below_alloc | apply pw_below_drewN | apply below_drew1) | exact HB.out)⟩
              · rw [if_neg c60] at H
                have c60b0 : (t218.toList == ([] : List UInt8)) = false := beq_eq_false_iff_ne.mpr c60
                have c60b1 : (t218.toList != ([] : List UInt8)) = true := bne_iff_ne.mpr c60
                obtain rfl := Option.some.inj H
                go_wp2_with (first | ((with_reducible refine gate_callee (f := 17) rfl ?_); refine goesL_ (some 70) rfl rfl Try.func17 (by kernel_rfl) rfl #[.string t210] rfl (by (try simp only [List.map_toArray, List.map_cons, List.map_nil]); first | done | rfl | (simp only [List.length_drop, List.length_take]; rfl)) ?_; (with_reducible refine (graftwoodref02_May.calls kj9 t210 false _ A36.out).mono ?_); rintro e w' ⟨rfl, ⟨nd, rfl⟩⟩; refine ⟨_, rfl, ?_⟩))
                go_ret
                exact ⟨by first | rfl | (simp [errW_none, errW_some] <;> rfl) | (simp [*, errW_none, errW_some] <;> rfl), by repeat (first | (with_reducible first | exact HB.out | apply below_alloc | apply pw_below_drewN | apply below_drew1) | exact HB.out)⟩
            · rw [if_neg c59] at H
              have c59b0 : (t213 == 1) = false := beq_eq_false_iff_ne.mpr c59
              have c59b1 : (t213 != 1) = true := bne_iff_ne.mpr c59
              obtain rfl := Option.some.inj H
              go_wp2_with (first | ((with_reducible refine gate_callee (f := 17) rfl ?_); refine goesL_ (some 70) rfl rfl Try.func17 (by kernel_rfl) rfl #[.string t210] rfl (by (try simp only [List.map_toArray, List.map_cons, List.map_nil]); first | done | rfl | (simp only [List.length_drop, List.length_take]; rfl)) ?_; (with_reducible refine (graftwoodref02_May.calls kj9 t210 false _ A36.out).mono ?_); rintro e w' ⟨rfl, ⟨nd, rfl⟩⟩; refine ⟨_, rfl, ?_⟩))
              go_ret
              exact ⟨by first | rfl | (simp [errW_none, errW_some] <;> rfl) | (simp [*, errW_none, errW_some] <;> rfl), by repeat (first | (with_reducible first | exact HB.out | apply below_alloc | apply pw_below_drewN | apply below_drew1) | exact HB.out)⟩
          · rw [if_neg c58] at H
            have c58b0 : (t212 == 0) = false := beq_eq_false_iff_ne.mpr c58
            have c58b1 : (t212 != 0) = true := bne_iff_ne.mpr c58
            obtain rfl := Option.some.inj H
            go_wp2_with (first | ((with_reducible refine gate_callee (f := 17) rfl ?_); refine goesL_ (some 70) rfl rfl Try.func17 (by kernel_rfl) rfl #[.string t210] rfl (by (try simp only [List.map_toArray, List.map_cons, List.map_nil]); first | done | rfl | (simp only [List.length_drop, List.length_take]; rfl)) ?_; (with_reducible refine (graftwoodref02_May.calls kj9 t210 false _ A36.out).mono ?_); rintro e w' ⟨rfl, ⟨nd, rfl⟩⟩; refine ⟨_, rfl, ?_⟩))
            go_ret
            exact ⟨by first | rfl | (simp [errW_none, errW_some] <;> rfl) | (simp [*, errW_none, errW_some] <;> rfl), by repeat (first | (with_reducible first | exact HB.out | apply below_alloc | apply pw_below_drewN | apply below_drew1) | exact HB.out)⟩

/-- THE ONE PURE STATEMENT of graftwoodlaw02_NumberTells: yours. -/
def graftwoodlaw02_NumberTells.Pure : Prop := ∀ (a0 : ByteArray) (a1 : ByteArray) (a2 : Int), a0.size ≤ 140737488351232 → a1.size ≤ 140737488351232 → (Lit.int .u64 a2).wf = true → ∃ k, graftwoodlaw02_NumberTells.f k a0 a1 a2 = some true
theorem graftwoodlaw02_NumberTells.walk (P : graftwoodlaw02_NumberTells.Pure) (a0 : ByteArray) (a1 : ByteArray) (a2 : Int) (w : World) (w0 : a0.size ≤ 140737488351232) (w1 : a1.size ≤ 140737488351232) (w2 : (Lit.int .u64 a2).wf = true) :
    Calls Try.prog 7 #[.string a0, .string a1, .int .u64 a2] w fun e w' => e = .returned (.bool true) ∧ Below w.heap.size w w' := by
  obtain ⟨k, h⟩ := P a0 a1 a2 w0 w1 w2
  refine (graftwoodlaw02_NumberTells.calls k a0 a1 a2 true w h).mono ?_
  rintro e w' ⟨rfl, hd⟩
  exact ⟨rfl, hd⟩

/-! ### graftwoodlaw02_NumberBack: function 8 -/
def graftwoodlaw02_NumberBack.j0 : Nat → Int → ByteArray → Bool → Option (Bool)
  | 0, _, _, _ => none
  | k + 1, x0, x11, x78 => if x78 = true then (some false) else (if x0 = 18446744073709551615 then ((number_Value.f x11).bind fun bt242 => (if x11.toList = ([49, 56, 52, 52, 54, 55, 52, 52, 48, 55, 51, 55, 48, 57, 53, 53, 49, 54, 49, 54] : List UInt8) then (if bt242.2 = 4 then ((graftwoodlaw02_awake.f k).bind fun t244 => (some t244)) else (some false)) else (some false))) else ((number_Of.f k (IntKind.u64.wrap (x0 + 1))).bind fun t245 => (if x11.toList = t245.toList then ((graftwoodlaw02_awake.f k).bind fun t246 => (some t246)) else (some false))))
def graftwoodlaw02_NumberBack.f (k : Nat) (a0 : Int) (a1 : Int) : Option (Bool) := (number_Of.f k a0).bind fun t233 => ((number_Of.f k a1).bind fun t234 => ((number_Value.f t233).bind fun bt235 => ((number_Cmp.f k t233 t234).bind fun bt237 => ((number_Next.f t233).bind fun bt239 => ((number_May.f t233).bind fun t241 => (if t241 = true then (if bt235.1 = a0 then (if bt235.2 = 0 then (if bt237.2 = 0 then (if bt239.2 = 0 then (if ((decide (bt237.1 < 0)) != (decide (a0 < a1))) = true then (graftwoodlaw02_NumberBack.j0 k a0 bt239.1 true) else (if ((bt237.1 == 0) != (a0 == a1)) = true then (graftwoodlaw02_NumberBack.j0 k a0 bt239.1 true) else (graftwoodlaw02_NumberBack.j0 k a0 bt239.1 ((bt237.1 == 0) != (t233.toList == t234.toList))))) else (graftwoodlaw02_NumberBack.j0 k a0 bt239.1 true)) else (graftwoodlaw02_NumberBack.j0 k a0 bt239.1 true)) else (graftwoodlaw02_NumberBack.j0 k a0 bt239.1 true)) else (graftwoodlaw02_NumberBack.j0 k a0 bt239.1 true)) else (graftwoodlaw02_NumberBack.j0 k a0 bt239.1 true)))))))
theorem graftwoodlaw02_NumberBack.mono_l : ∀ k, (∀ y0 y1 y2, LeO (graftwoodlaw02_NumberBack.j0 k y0 y1 y2) (graftwoodlaw02_NumberBack.j0 (k + 1) y0 y1 y2))
  | 0 => fun _ _ _ r h => by simp [graftwoodlaw02_NumberBack.j0] at h
  | k + 1 => by
    have ih0 := graftwoodlaw02_NumberBack.mono_l k
    · intro y0 y1 y2
      unfold graftwoodlaw02_NumberBack.j0
      repeat' first
      | (with_reducible exact ih0 _ _ _)
      | (with_reducible exact graftwoodlaw02_awake.mono _)
      | (with_reducible exact number_Cmp.mono _ _ _)
      | (with_reducible exact number_Of.mono _ _)
      | (with_reducible exact LeO.refl _)
      | (with_reducible exact LeO.none _)
      | (with_reducible refine LeO.ite ?_ ?_)
      | (with_reducible refine LeO.bind ?_ (fun _ => ?_))
      | exact ih0 _ _ _
      | exact graftwoodlaw02_awake.mono _
      | exact number_Cmp.mono _ _ _
      | exact number_Of.mono _ _
      | exact LeO.none _
      | refine LeO.ite ?_ ?_
      | refine LeO.bind ?_ (fun _ => ?_)
theorem graftwoodlaw02_NumberBack.mono : ∀ a0 a1 k, LeO (graftwoodlaw02_NumberBack.f k a0 a1) (graftwoodlaw02_NumberBack.f (k + 1) a0 a1) := by
  intro a0 a1 k
  have ih0 := graftwoodlaw02_NumberBack.mono_l k
  unfold graftwoodlaw02_NumberBack.f
  repeat' first
      | (with_reducible exact ih0 _ _ _)
      | (with_reducible exact graftwoodlaw02_awake.mono _)
      | (with_reducible exact number_Cmp.mono _ _ _)
      | (with_reducible exact number_Of.mono _ _)
      | (with_reducible exact LeO.refl _)
      | (with_reducible exact LeO.none _)
      | (with_reducible refine LeO.ite ?_ ?_)
      | (with_reducible refine LeO.bind ?_ (fun _ => ?_))
      | exact ih0 _ _ _
      | exact graftwoodlaw02_awake.mono _
      | exact number_Cmp.mono _ _ _
      | exact number_Of.mono _ _
      | exact LeO.none _
      | refine LeO.ite ?_ ?_
      | refine LeO.bind ?_ (fun _ => ?_)
set_option maxHeartbeats 8000000 in
set_option maxRecDepth 100000 in
theorem graftwoodlaw02_NumberBack.calls (k : Nat) (a0 : Int) (a1 : Int) (r : Bool) (w : World) (h : graftwoodlaw02_NumberBack.f k a0 a1 = some r) :
    Calls Try.prog 8 #[.int .u64 a0, .int .u64 a1] w fun e w' => e = .returned (.bool r) ∧ Below w.heap.size w w' := by
  have HB := Aside0.mk (Below.refl w.heap.size w)
  have H : ((number_Of.f k a0).bind fun t233 => ((number_Of.f k a1).bind fun t234 => ((number_Value.f t233).bind fun bt235 => ((number_Cmp.f k t233 t234).bind fun bt237 => ((number_Next.f t233).bind fun bt239 => ((number_May.f t233).bind fun t241 => (if t241 = true then (if bt235.1 = a0 then (if bt235.2 = 0 then (if bt237.2 = 0 then (if bt239.2 = 0 then (if ((decide (bt237.1 < 0)) != (decide (a0 < a1))) = true then (graftwoodlaw02_NumberBack.j0 k a0 bt239.1 true) else (if ((bt237.1 == 0) != (a0 == a1)) = true then (graftwoodlaw02_NumberBack.j0 k a0 bt239.1 true) else (graftwoodlaw02_NumberBack.j0 k a0 bt239.1 ((bt237.1 == 0) != (t233.toList == t234.toList))))) else (graftwoodlaw02_NumberBack.j0 k a0 bt239.1 true)) else (graftwoodlaw02_NumberBack.j0 k a0 bt239.1 true)) else (graftwoodlaw02_NumberBack.j0 k a0 bt239.1 true)) else (graftwoodlaw02_NumberBack.j0 k a0 bt239.1 true)) else (graftwoodlaw02_NumberBack.j0 k a0 bt239.1 true)))))))) = some r := h
  clear h
  replace H := Option.bind_eq_some_iff.mp H
  obtain ⟨t233, A30, H⟩ := H
  replace H : ((number_Of.f k a1).bind fun t234 => ((number_Value.f t233).bind fun bt235 => ((number_Cmp.f k t233 t234).bind fun bt237 => ((number_Next.f t233).bind fun bt239 => ((number_May.f t233).bind fun t241 => (if t241 = true then (if bt235.1 = a0 then (if bt235.2 = 0 then (if bt237.2 = 0 then (if bt239.2 = 0 then (if ((decide (bt237.1 < 0)) != (decide (a0 < a1))) = true then (graftwoodlaw02_NumberBack.j0 k a0 bt239.1 true) else (if ((bt237.1 == 0) != (a0 == a1)) = true then (graftwoodlaw02_NumberBack.j0 k a0 bt239.1 true) else (graftwoodlaw02_NumberBack.j0 k a0 bt239.1 ((bt237.1 == 0) != (t233.toList == t234.toList))))) else (graftwoodlaw02_NumberBack.j0 k a0 bt239.1 true)) else (graftwoodlaw02_NumberBack.j0 k a0 bt239.1 true)) else (graftwoodlaw02_NumberBack.j0 k a0 bt239.1 true)) else (graftwoodlaw02_NumberBack.j0 k a0 bt239.1 true)) else (graftwoodlaw02_NumberBack.j0 k a0 bt239.1 true))))))) = some r := H
  have A3 := Aside0.mk A30
  clear A30
  replace H := Option.bind_eq_some_iff.mp H
  obtain ⟨t234, A40, H⟩ := H
  replace H : ((number_Value.f t233).bind fun bt235 => ((number_Cmp.f k t233 t234).bind fun bt237 => ((number_Next.f t233).bind fun bt239 => ((number_May.f t233).bind fun t241 => (if t241 = true then (if bt235.1 = a0 then (if bt235.2 = 0 then (if bt237.2 = 0 then (if bt239.2 = 0 then (if ((decide (bt237.1 < 0)) != (decide (a0 < a1))) = true then (graftwoodlaw02_NumberBack.j0 k a0 bt239.1 true) else (if ((bt237.1 == 0) != (a0 == a1)) = true then (graftwoodlaw02_NumberBack.j0 k a0 bt239.1 true) else (graftwoodlaw02_NumberBack.j0 k a0 bt239.1 ((bt237.1 == 0) != (t233.toList == t234.toList))))) else (graftwoodlaw02_NumberBack.j0 k a0 bt239.1 true)) else (graftwoodlaw02_NumberBack.j0 k a0 bt239.1 true)) else (graftwoodlaw02_NumberBack.j0 k a0 bt239.1 true)) else (graftwoodlaw02_NumberBack.j0 k a0 bt239.1 true)) else (graftwoodlaw02_NumberBack.j0 k a0 bt239.1 true)))))) = some r := H
  have A4 := Aside0.mk A40
  clear A40
  replace H := Option.bind_eq_some_iff.mp H
  obtain ⟨⟨t235, t236⟩, A50, H⟩ := H
  replace H : ((number_Cmp.f k t233 t234).bind fun bt237 => ((number_Next.f t233).bind fun bt239 => ((number_May.f t233).bind fun t241 => (if t241 = true then (if t235 = a0 then (if t236 = 0 then (if bt237.2 = 0 then (if bt239.2 = 0 then (if ((decide (bt237.1 < 0)) != (decide (a0 < a1))) = true then (graftwoodlaw02_NumberBack.j0 k a0 bt239.1 true) else (if ((bt237.1 == 0) != (a0 == a1)) = true then (graftwoodlaw02_NumberBack.j0 k a0 bt239.1 true) else (graftwoodlaw02_NumberBack.j0 k a0 bt239.1 ((bt237.1 == 0) != (t233.toList == t234.toList))))) else (graftwoodlaw02_NumberBack.j0 k a0 bt239.1 true)) else (graftwoodlaw02_NumberBack.j0 k a0 bt239.1 true)) else (graftwoodlaw02_NumberBack.j0 k a0 bt239.1 true)) else (graftwoodlaw02_NumberBack.j0 k a0 bt239.1 true)) else (graftwoodlaw02_NumberBack.j0 k a0 bt239.1 true))))) = some r := H
  have A5 := Aside0.mk A50
  clear A50
  replace H := Option.bind_eq_some_iff.mp H
  obtain ⟨⟨t237, t238⟩, A60, H⟩ := H
  replace H : ((number_Next.f t233).bind fun bt239 => ((number_May.f t233).bind fun t241 => (if t241 = true then (if t235 = a0 then (if t236 = 0 then (if t238 = 0 then (if bt239.2 = 0 then (if ((decide (t237 < 0)) != (decide (a0 < a1))) = true then (graftwoodlaw02_NumberBack.j0 k a0 bt239.1 true) else (if ((t237 == 0) != (a0 == a1)) = true then (graftwoodlaw02_NumberBack.j0 k a0 bt239.1 true) else (graftwoodlaw02_NumberBack.j0 k a0 bt239.1 ((t237 == 0) != (t233.toList == t234.toList))))) else (graftwoodlaw02_NumberBack.j0 k a0 bt239.1 true)) else (graftwoodlaw02_NumberBack.j0 k a0 bt239.1 true)) else (graftwoodlaw02_NumberBack.j0 k a0 bt239.1 true)) else (graftwoodlaw02_NumberBack.j0 k a0 bt239.1 true)) else (graftwoodlaw02_NumberBack.j0 k a0 bt239.1 true)))) = some r := H
  have A6 := Aside0.mk A60
  clear A60
  replace H := Option.bind_eq_some_iff.mp H
  obtain ⟨⟨t239, t240⟩, A70, H⟩ := H
  replace H : ((number_May.f t233).bind fun t241 => (if t241 = true then (if t235 = a0 then (if t236 = 0 then (if t238 = 0 then (if t240 = 0 then (if ((decide (t237 < 0)) != (decide (a0 < a1))) = true then (graftwoodlaw02_NumberBack.j0 k a0 t239 true) else (if ((t237 == 0) != (a0 == a1)) = true then (graftwoodlaw02_NumberBack.j0 k a0 t239 true) else (graftwoodlaw02_NumberBack.j0 k a0 t239 ((t237 == 0) != (t233.toList == t234.toList))))) else (graftwoodlaw02_NumberBack.j0 k a0 t239 true)) else (graftwoodlaw02_NumberBack.j0 k a0 t239 true)) else (graftwoodlaw02_NumberBack.j0 k a0 t239 true)) else (graftwoodlaw02_NumberBack.j0 k a0 t239 true)) else (graftwoodlaw02_NumberBack.j0 k a0 t239 true))) = some r := H
  have A7 := Aside0.mk A70
  clear A70
  have HC8 := Aside0.mk H
  clear H
  go_enter Try.func8, Try.ntmps8
  go_upto_region 5 with (first | ((with_reducible refine gate_callee (f := 14) rfl ?_); refine goesL_ (some 16) rfl rfl Try.func14 (by kernel_rfl) rfl #[.int .u64 a0] rfl (by (try simp only [List.map_toArray, List.map_cons, List.map_nil]); first | done | rfl | (simp only [List.length_drop, List.length_take]; rfl)) ?_; (with_reducible refine (number_Of.calls k a0 t233 _ A3.out).mono ?_); rintro e w9 ⟨rfl, hb⟩; refine ⟨_, rfl, ?_⟩; have n0_ := Aside0.mk (below_step (by repeat (first | (with_reducible first | exact HB.out | apply below_alloc | apply pw_below_drewN | apply below_drew1) | exact HB.out)) hb); clear HB; have HB := n0_; clear n0_; (try clear hb); (try clear hb2); (try clear hk); (try clear hi)) | ((with_reducible refine gate_callee (f := 14) rfl ?_); refine goesL_ (some 18) rfl rfl Try.func14 (by kernel_rfl) rfl #[.int .u64 a1] rfl (by (try simp only [List.map_toArray, List.map_cons, List.map_nil]); first | done | rfl | (simp only [List.length_drop, List.length_take]; rfl)) ?_; (with_reducible refine (number_Of.calls k a1 t234 _ A4.out).mono ?_); rintro e w10 ⟨rfl, hb⟩; refine ⟨_, rfl, ?_⟩; have n0_ := Aside0.mk (below_step (by repeat (first | (with_reducible first | exact HB.out | apply below_alloc | apply pw_below_drewN | apply below_drew1) | exact HB.out)) hb); clear HB; have HB := n0_; clear n0_; (try clear hb); (try clear hb2); (try clear hk); (try clear hi)) | ((with_reducible refine gate_callee (f := 15) rfl ?_); refine goesL_ (some 21) rfl rfl Try.func15 (by kernel_rfl) rfl #[.string t233] rfl (by (try simp only [List.map_toArray, List.map_cons, List.map_nil]); first | done | rfl | (simp only [List.length_drop, List.length_take]; rfl)) ?_; (with_reducible refine (number_Value.calls t233 t235 t236 _ A5.out).mono ?_); rintro e w11 ⟨rfl, hb⟩; refine ⟨_, rfl, ?_⟩; have n0_ := Aside0.mk (below_step (by repeat (first | (with_reducible first | exact HB.out | apply below_alloc | apply pw_below_drewN | apply below_drew1) | exact HB.out)) hb); clear HB; have HB := n0_; clear n0_; (try clear hb); (try clear hb2); (try clear hk); (try clear hi)) | ((with_reducible refine gate_callee (f := 10) rfl ?_); refine goesL_ (some 27) rfl rfl Try.func10 (by kernel_rfl) rfl #[.string t233, .string t234] rfl (by (try simp only [List.map_toArray, List.map_cons, List.map_nil]); first | done | rfl | (simp only [List.length_drop, List.length_take]; rfl)) ?_; (with_reducible refine (number_Cmp.calls k t233 t234 t237 t238 _ A6.out).mono ?_); rintro e w12 ⟨rfl, hb⟩; refine ⟨_, rfl, ?_⟩; have n0_ := Aside0.mk (below_step (by repeat (first | (with_reducible first | exact HB.out | apply below_alloc | apply pw_below_drewN | apply below_drew1) | exact HB.out)) hb); clear HB; have HB := n0_; clear n0_; (try clear hb); (try clear hb2); (try clear hk); (try clear hi)) | ((with_reducible refine gate_callee (f := 13) rfl ?_); refine goesL_ (some 32) rfl rfl Try.func13 (by kernel_rfl) rfl #[.string t233] rfl (by (try simp only [List.map_toArray, List.map_cons, List.map_nil]); first | done | rfl | (simp only [List.length_drop, List.length_take]; rfl)) ?_; (with_reducible refine (number_Next.calls t233 t239 t240 _ A7.out).mono ?_); rintro e w13 ⟨rfl, hb⟩; refine ⟨_, rfl, ?_⟩; have n0_ := Aside0.mk (below_step (by repeat (first | (with_reducible first | exact HB.out | apply below_alloc | apply pw_below_drewN | apply below_drew1) | exact HB.out)) hb); clear HB; have HB := n0_; clear n0_; (try clear hb); (try clear hb2); (try clear hk); (try clear hi)))
  (try simp only [Act.put, List.setIfInBounds_toArray, List.set_cons_zero, List.set_cons_succ])
  go_cut [78] (fun v78 wc => ∃ (kq : Nat) (x78_7 : Bool), v78 = .bool x78_7 ∧ Aside0 (graftwoodlaw02_NumberBack.j0 kq a0 t239 x78_7 = some r) ∧ Aside0 (kq ≤ k) ∧ Aside0 (Below w.heap.size w wc))
  case first =>
    have H := HC8.out
    clear HC8
    replace H := Option.bind_eq_some_iff.mp H
    obtain ⟨t241, A140, H⟩ := H
    replace H : (if t241 = true then (if t235 = a0 then (if t236 = 0 then (if t238 = 0 then (if t240 = 0 then (if ((decide (t237 < 0)) != (decide (a0 < a1))) = true then (graftwoodlaw02_NumberBack.j0 k a0 t239 true) else (if ((t237 == 0) != (a0 == a1)) = true then (graftwoodlaw02_NumberBack.j0 k a0 t239 true) else (graftwoodlaw02_NumberBack.j0 k a0 t239 ((t237 == 0) != (t233.toList == t234.toList))))) else (graftwoodlaw02_NumberBack.j0 k a0 t239 true)) else (graftwoodlaw02_NumberBack.j0 k a0 t239 true)) else (graftwoodlaw02_NumberBack.j0 k a0 t239 true)) else (graftwoodlaw02_NumberBack.j0 k a0 t239 true)) else (graftwoodlaw02_NumberBack.j0 k a0 t239 true)) = some r := H
    have A14 := Aside0.mk A140
    clear A140
    by_cases c15 : t241 = true
    · subst c15
      have H1 : (if t235 = a0 then (if t236 = 0 then (if t238 = 0 then (if t240 = 0 then (if ((decide (t237 < 0)) != (decide (a0 < a1))) = true then (graftwoodlaw02_NumberBack.j0 k a0 t239 true) else (if ((t237 == 0) != (a0 == a1)) = true then (graftwoodlaw02_NumberBack.j0 k a0 t239 true) else (graftwoodlaw02_NumberBack.j0 k a0 t239 ((t237 == 0) != (t233.toList == t234.toList))))) else (graftwoodlaw02_NumberBack.j0 k a0 t239 true)) else (graftwoodlaw02_NumberBack.j0 k a0 t239 true)) else (graftwoodlaw02_NumberBack.j0 k a0 t239 true)) else (graftwoodlaw02_NumberBack.j0 k a0 t239 true)) = some r := by rw [if_pos rfl] at H; exact H
      clear H
      have H := H1
      clear H1
      by_cases c16 : t235 = a0
      · rw [if_pos c16] at H
        have c16b0 : (t235 == a0) = true := beq_iff_eq.mpr c16
        have c16b1 : (t235 != a0) = false := bne_eq_false_iff_eq.mpr c16
        clear c16
        (first | rw [c16b0] | (simp only [i64_w, i32_w]; rw [c16b0]) | skip)
        by_cases c17 : t236 = 0
        · rw [if_pos c17] at H
          have c17b0 : (t236 == 0) = true := beq_iff_eq.mpr c17
          have c17b1 : (t236 != 0) = false := bne_eq_false_iff_eq.mpr c17
          clear c17
          by_cases c18 : t238 = 0
          · rw [if_pos c18] at H
            have c18b0 : (t238 == 0) = true := beq_iff_eq.mpr c18
            have c18b1 : (t238 != 0) = false := bne_eq_false_iff_eq.mpr c18
            clear c18
            by_cases c19 : t240 = 0
            · rw [if_pos c19] at H
              have c19b0 : (t240 == 0) = true := beq_iff_eq.mpr c19
              have c19b1 : (t240 != 0) = false := bne_eq_false_iff_eq.mpr c19
              clear c19
              by_cases c20 : ((decide (t237 < 0)) != (decide (a0 < a1))) = true
              · rw [if_pos c20] at H
                have c20b0 : ((decide (t237 < 0)) != (decide (a0 < a1))) = true := c20
                (try (have c20b1 : decide ((decide (t237 < 0)) = (decide (a0 < a1))) = false := by simpa using c20))
                (try (have c20b2 : ((decide (t237 < 0)) == (decide (a0 < a1))) = false := by simpa using c20))
                (try (have c20b3 : ¬ ((decide (t237 < 0)) = (decide (a0 < a1))) := by simpa using c20))
                clear c20
                have H' := Aside0.mk H
                clear H
                go_wp2_with (first | ((with_reducible refine gate_callee (f := 11) rfl ?_); refine goesL_ (some 36) rfl rfl Try.func11 (by kernel_rfl) rfl #[.string t233] rfl (by (try simp only [List.map_toArray, List.map_cons, List.map_nil]); first | done | rfl | (simp only [List.length_drop, List.length_take]; rfl)) ?_; (with_reducible refine (number_May.calls t233 true _ A14.out).mono ?_); rintro e w21 ⟨rfl, hb⟩; refine ⟨_, rfl, ?_⟩; have n0_ := Aside0.mk (below_step (by repeat (first | (with_reducible first | exact HB.out | apply below_alloc | apply pw_below_drewN | apply below_drew1) | exact HB.out)) hb); clear HB; have HB := n0_; clear n0_; (try clear hb); (try clear hb2); (try clear hk); (try clear hi)))
                go_meet
                case rel => exact ⟨_, (true), (by first | rfl | (simp; done) | (simp [*]; done) | (simp [bne]; done)), H', ⟨by first | omega | exact Nat.le_refl _⟩, ⟨by repeat (first | (with_reducible first | exact HB.out | apply below_alloc | apply pw_below_drewN | apply below_drew1) | exact HB.out)⟩⟩
              · rw [if_neg c20] at H
                have c20b0 : ((decide (t237 < 0)) != (decide (a0 < a1))) = false := by simpa using c20
                (try (have c20b1 : decide ((decide (t237 < 0)) = (decide (a0 < a1))) = true := by simpa using c20))
                (try (have c20b2 : ((decide (t237 < 0)) == (decide (a0 < a1))) = true := by simpa using c20))
                clear c20
                by_cases c22 : ((t237 == 0) != (a0 == a1)) = true
                · rw [if_pos c22] at H
                  have c22b0 : ((t237 == 0) != (a0 == a1)) = true := c22
                  (try (have c22b1 : decide ((t237 == 0) = (a0 == a1)) = false := by simpa using c22))
                  (try (have c22b2 : ((t237 == 0) == (a0 == a1)) = false := by simpa using c22))
                  (try (have c22b3 : ¬ ((t237 == 0) = (a0 == a1)) := by simpa using c22))
                  clear c22
                  have H' := Aside0.mk H
                  clear H
                  go_wp2_with (first | ((with_reducible refine gate_callee (f := 11) rfl ?_); refine goesL_ (some 36) rfl rfl Try.func11 (by kernel_rfl) rfl #[.string t233] rfl (by (try simp only [List.map_toArray, List.map_cons, List.map_nil]); first | done | rfl | (simp only [List.length_drop, List.length_take]; rfl)) ?_; (with_reducible refine (number_May.calls t233 true _ A14.out).mono ?_); rintro e w23 ⟨rfl, hb⟩; refine ⟨_, rfl, ?_⟩; have n0_ := Aside0.mk (below_step (by repeat (first | (with_reducible first | exact HB.out | apply below_alloc | apply pw_below_drewN | apply below_drew1) | exact HB.out)) hb); clear HB; have HB := n0_; clear n0_; (try clear hb); (try clear hb2); (try clear hk); (try clear hi)))
                  go_meet
                  case rel => exact ⟨_, (true), (by first | rfl | (simp; done) | (simp [*]; done) | (simp [bne]; done)), H', ⟨by first | omega | exact Nat.le_refl _⟩, ⟨by repeat (first | (with_reducible first | exact HB.out | apply below_alloc | apply pw_below_drewN | apply below_drew1) | exact HB.out)⟩⟩
                · rw [if_neg c22] at H
                  have c22b0 : ((t237 == 0) != (a0 == a1)) = false := by simpa using c22
                  (try (have c22b1 : decide ((t237 == 0) = (a0 == a1)) = true := by simpa using c22))
                  (try (have c22b2 : ((t237 == 0) == (a0 == a1)) = true := by simpa using c22))
                  clear c22
                  have H' := Aside0.mk H
                  clear H
                  go_wp2_with (first | ((with_reducible refine gate_callee (f := 11) rfl ?_); refine goesL_ (some 36) rfl rfl Try.func11 (by kernel_rfl) rfl #[.string t233] rfl (by (try simp only [List.map_toArray, List.map_cons, List.map_nil]); first | done | rfl | (simp only [List.length_drop, List.length_take]; rfl)) ?_; (with_reducible refine (number_May.calls t233 true _ A14.out).mono ?_); rintro e w24 ⟨rfl, hb⟩; refine ⟨_, rfl, ?_⟩; have n0_ := Aside0.mk (below_step (by repeat (first | (with_reducible first | exact HB.out | apply below_alloc | apply pw_below_drewN | apply below_drew1) | exact HB.out)) hb); clear HB; have HB := n0_; clear n0_; (try clear hb); (try clear hb2); (try clear hk); (try clear hi)))
                  go_meet
                  case rel => exact ⟨_, (((t237 == 0) != (t233.toList == t234.toList))), (by first | rfl | (simp; done) | (simp [*]; done) | (simp [bne]; done)), H', ⟨by first | omega | exact Nat.le_refl _⟩, ⟨by repeat (first | (with_reducible first | exact HB.out | apply below_alloc | apply pw_below_drewN | apply below_drew1) | exact HB.out)⟩⟩
            · rw [if_neg c19] at H
              have c19b0 : (t240 == 0) = false := beq_eq_false_iff_ne.mpr c19
              have c19b1 : (t240 != 0) = true := bne_iff_ne.mpr c19
              have H' := Aside0.mk H
              clear H
              go_wp2_with (first | ((with_reducible refine gate_callee (f := 11) rfl ?_); refine goesL_ (some 36) rfl rfl Try.func11 (by kernel_rfl) rfl #[.string t233] rfl (by (try simp only [List.map_toArray, List.map_cons, List.map_nil]); first | done | rfl | (simp only [List.length_drop, List.length_take]; rfl)) ?_; (with_reducible refine (number_May.calls t233 true _ A14.out).mono ?_); rintro e w25 ⟨rfl, hb⟩; refine ⟨_, rfl, ?_⟩; have n0_ := Aside0.mk (below_step (by repeat (first | (with_reducible first | exact HB.out | apply below_alloc | apply pw_below_drewN | apply below_drew1) | exact HB.out)) hb); clear HB; have HB := n0_; clear n0_; (try clear hb); (try clear hb2); (try clear hk); (try clear hi)))
              go_meet
              case rel => exact ⟨_, (true), (by first | rfl | (simp; done) | (simp [*]; done) | (simp [bne]; done)), H', ⟨by first | omega | exact Nat.le_refl _⟩, ⟨by repeat (first | (with_reducible first | exact HB.out | apply below_alloc | apply pw_below_drewN | apply below_drew1) | exact HB.out)⟩⟩
          · rw [if_neg c18] at H
            have c18b0 : (t238 == 0) = false := beq_eq_false_iff_ne.mpr c18
            have c18b1 : (t238 != 0) = true := bne_iff_ne.mpr c18
            have H' := Aside0.mk H
            clear H
            go_wp2_with (first | ((with_reducible refine gate_callee (f := 11) rfl ?_); refine goesL_ (some 36) rfl rfl Try.func11 (by kernel_rfl) rfl #[.string t233] rfl (by (try simp only [List.map_toArray, List.map_cons, List.map_nil]); first | done | rfl | (simp only [List.length_drop, List.length_take]; rfl)) ?_; (with_reducible refine (number_May.calls t233 true _ A14.out).mono ?_); rintro e w26 ⟨rfl, hb⟩; refine ⟨_, rfl, ?_⟩; have n0_ := Aside0.mk (below_step (by repeat (first | (with_reducible first | exact HB.out | apply below_alloc | apply pw_below_drewN | apply below_drew1) | exact HB.out)) hb); clear HB; have HB := n0_; clear n0_; (try clear hb); (try clear hb2); (try clear hk); (try clear hi)))
            go_meet
            case rel => exact ⟨_, (true), (by first | rfl | (simp; done) | (simp [*]; done) | (simp [bne]; done)), H', ⟨by first | omega | exact Nat.le_refl _⟩, ⟨by repeat (first | (with_reducible first | exact HB.out | apply below_alloc | apply pw_below_drewN | apply below_drew1) | exact HB.out)⟩⟩
        · rw [if_neg c17] at H
          have c17b0 : (t236 == 0) = false := beq_eq_false_iff_ne.mpr c17
          have c17b1 : (t236 != 0) = true := bne_iff_ne.mpr c17
          have H' := Aside0.mk H
          clear H
          go_wp2_with (first | ((with_reducible refine gate_callee (f := 11) rfl ?_); refine goesL_ (some 36) rfl rfl Try.func11 (by kernel_rfl) rfl #[.string t233] rfl (by (try simp only [List.map_toArray, List.map_cons, List.map_nil]); first | done | rfl | (simp only [List.length_drop, List.length_take]; rfl)) ?_; (with_reducible refine (number_May.calls t233 true _ A14.out).mono ?_); rintro e w27 ⟨rfl, hb⟩; refine ⟨_, rfl, ?_⟩; have n0_ := Aside0.mk (below_step (by repeat (first | (with_reducible first | exact HB.out | apply below_alloc | apply pw_below_drewN | apply below_drew1) | exact HB.out)) hb); clear HB; have HB := n0_; clear n0_; (try clear hb); (try clear hb2); (try clear hk); (try clear hi)))
          go_meet
          case rel => exact ⟨_, (true), (by first | rfl | (simp; done) | (simp [*]; done) | (simp [bne]; done)), H', ⟨by first | omega | exact Nat.le_refl _⟩, ⟨by repeat (first | (with_reducible first | exact HB.out | apply below_alloc | apply pw_below_drewN | apply below_drew1) | exact HB.out)⟩⟩
      · rw [if_neg c16] at H
        have c16b0 : (t235 == a0) = false := beq_eq_false_iff_ne.mpr c16
        have c16b1 : (t235 != a0) = true := bne_iff_ne.mpr c16
        (first | rw [c16b0] | (simp only [i64_w, i32_w]; rw [c16b0]) | skip)
        have H' := Aside0.mk H
        clear H
        go_wp2_with (first | ((with_reducible refine gate_callee (f := 11) rfl ?_); refine goesL_ (some 36) rfl rfl Try.func11 (by kernel_rfl) rfl #[.string t233] rfl (by (try simp only [List.map_toArray, List.map_cons, List.map_nil]); first | done | rfl | (simp only [List.length_drop, List.length_take]; rfl)) ?_; (with_reducible refine (number_May.calls t233 true _ A14.out).mono ?_); rintro e w28 ⟨rfl, hb⟩; refine ⟨_, rfl, ?_⟩; have n0_ := Aside0.mk (below_step (by repeat (first | (with_reducible first | exact HB.out | apply below_alloc | apply pw_below_drewN | apply below_drew1) | exact HB.out)) hb); clear HB; have HB := n0_; clear n0_; (try clear hb); (try clear hb2); (try clear hk); (try clear hi)))
        go_meet
        case rel => exact ⟨_, (true), (by first | rfl | (simp; done) | (simp [*]; done) | (simp [bne]; done)), H', ⟨by first | omega | exact Nat.le_refl _⟩, ⟨by repeat (first | (with_reducible first | exact HB.out | apply below_alloc | apply pw_below_drewN | apply below_drew1) | exact HB.out)⟩⟩
    · replace c15 := Bool.eq_false_iff.mpr c15
      subst c15
      have H1 : (graftwoodlaw02_NumberBack.j0 k a0 t239 true) = some r := by rw [if_neg (show ¬ (false = true) by decide)] at H; exact H
      clear H
      have H := H1
      clear H1
      have H' := Aside0.mk H
      clear H
      go_wp2_with (first | ((with_reducible refine gate_callee (f := 11) rfl ?_); refine goesL_ (some 36) rfl rfl Try.func11 (by kernel_rfl) rfl #[.string t233] rfl (by (try simp only [List.map_toArray, List.map_cons, List.map_nil]); first | done | rfl | (simp only [List.length_drop, List.length_take]; rfl)) ?_; (with_reducible refine (number_May.calls t233 false _ A14.out).mono ?_); rintro e w29 ⟨rfl, hb⟩; refine ⟨_, rfl, ?_⟩; have n0_ := Aside0.mk (below_step (by repeat (first | (with_reducible first | exact HB.out | apply below_alloc | apply pw_below_drewN | apply below_drew1) | exact HB.out)) hb); clear HB; have HB := n0_; clear n0_; (try clear hb); (try clear hb2); (try clear hk); (try clear hi)))
      go_meet
      case rel => exact ⟨_, (true), (by first | rfl | (simp; done) | (simp [*]; done) | (simp [bne]; done)), H', ⟨by first | omega | exact Nat.le_refl _⟩, ⟨by repeat (first | (with_reducible first | exact HB.out | apply below_alloc | apply pw_below_drewN | apply below_drew1) | exact HB.out)⟩⟩
  case rest =>
    clear HC8
    try clear c1
    try clear c2
    try clear p2
    try clear c8
    try clear c10
    try clear c11
    try clear c13
    try clear c14
    try clear c15
    try clear c16
    try clear c16b0
    try clear c16b1
    try clear c17
    try clear c17b0
    try clear c17b1
    try clear c18
    try clear c18b0
    try clear c18b1
    try clear c19
    try clear c19b0
    try clear c19b1
    try clear c20
    try clear c20b0
    try clear c20b1
    try clear c20b2
    try clear c22
    try clear c22b0
    try clear c22b1
    try clear c22b2
    obtain ⟨kq, x78_7, rfl, HA, HJ7, HB⟩ := hcut
    cases kq with
    | zero => exact absurd HA.out (by simp [graftwoodlaw02_NumberBack.j0])
    | succ kj7 =>
      have H := HA.out
      clear HA
      simp only [graftwoodlaw02_NumberBack.j0] at H
      by_cases c30 : x78_7 = true
      · subst c30
        have H1 : (some false) = some r := by rw [if_pos rfl] at H; exact H
        clear H
        have H := H1
        clear H1
        obtain rfl := Option.some.inj H
        go_wp2
        go_ret
        exact ⟨by first | rfl | (simp [errW_none, errW_some] <;> rfl) | (simp [*, errW_none, errW_some] <;> rfl), by repeat (first | (with_reducible first | exact HB.out | apply below_alloc | apply pw_below_drewN | apply below_drew1) | exact HB.out)⟩
      · replace c30 := Bool.eq_false_iff.mpr c30
        subst c30
        have H1 : (if a0 = 18446744073709551615 then ((number_Value.f t239).bind fun bt242 => (if t239.toList = ([49, 56, 52, 52, 54, 55, 52, 52, 48, 55, 51, 55, 48, 57, 53, 53, 49, 54, 49, 54] : List UInt8) then (if bt242.2 = 4 then ((graftwoodlaw02_awake.f kj7).bind fun t244 => (some t244)) else (some false)) else (some false))) else ((number_Of.f kj7 (IntKind.u64.wrap (a0 + 1))).bind fun t245 => (if t239.toList = t245.toList then ((graftwoodlaw02_awake.f kj7).bind fun t246 => (some t246)) else (some false)))) = some r := by rw [if_neg (show ¬ (false = true) by decide)] at H; exact H
        clear H
        have H := H1
        clear H1
        by_cases c31 : a0 = 18446744073709551615
        · rw [if_pos c31] at H
          have c31b0 : (a0 == 18446744073709551615) = true := beq_iff_eq.mpr c31
          have c31b1 : (a0 != 18446744073709551615) = false := bne_eq_false_iff_eq.mpr c31
          clear c31
          replace H := Option.bind_eq_some_iff.mp H
          obtain ⟨⟨t242, t243⟩, A320, H⟩ := H
          replace H : (if t239.toList = ([49, 56, 52, 52, 54, 55, 52, 52, 48, 55, 51, 55, 48, 57, 53, 53, 49, 54, 49, 54] : List UInt8) then (if t243 = 4 then ((graftwoodlaw02_awake.f kj7).bind fun t244 => (some t244)) else (some false)) else (some false)) = some r := H
          have A32 := Aside0.mk A320
          clear A320
          by_cases c33 : t239.toList = ([49, 56, 52, 52, 54, 55, 52, 52, 48, 55, 51, 55, 48, 57, 53, 53, 49, 54, 49, 54] : List UInt8)
          · rw [if_pos c33] at H
            have c33b0 : (t239.toList == ([49, 56, 52, 52, 54, 55, 52, 52, 48, 55, 51, 55, 48, 57, 53, 53, 49, 54, 49, 54] : List UInt8)) = true := beq_iff_eq.mpr c33
            have c33b1 : (t239.toList != ([49, 56, 52, 52, 54, 55, 52, 52, 48, 55, 51, 55, 48, 57, 53, 53, 49, 54, 49, 54] : List UInt8)) = false := bne_eq_false_iff_eq.mpr c33
            clear c33
            by_cases c34 : t243 = 4
            · rw [if_pos c34] at H
              have c34b0 : (t243 == 4) = true := beq_iff_eq.mpr c34
              have c34b1 : (t243 != 4) = false := bne_eq_false_iff_eq.mpr c34
              clear c34
              replace H := Option.bind_eq_some_iff.mp H
              obtain ⟨t244, A350, H⟩ := H
              replace H : (some t244) = some r := H
              have A35 := Aside0.mk A350
              clear A350
              obtain rfl := Option.some.inj H
              go_wp2_with (first | ((with_reducible refine gate_callee (f := 15) rfl ?_); refine goesL_ (some 83) rfl rfl Try.func15 (by kernel_rfl) rfl #[.string t239] rfl (by (try simp only [List.map_toArray, List.map_cons, List.map_nil]); first | done | rfl | (simp only [List.length_drop, List.length_take]; rfl)) ?_; (with_reducible refine (number_Value.calls t239 t242 t243 _ A32.out).mono ?_); rintro e w36 ⟨rfl, hb⟩; refine ⟨_, rfl, ?_⟩; have n0_ := Aside0.mk (below_step (by repeat (first | (with_reducible first | exact HB.out | apply below_alloc | apply pw_below_drewN | apply below_drew1) | exact HB.out)) hb); clear HB; have HB := n0_; clear n0_; (try clear hb); (try clear hb2); (try clear hk); (try clear hi)) | (go_at_call 12; (with_reducible refine (graftwoodlaw02_awake.calls kj7  t244 _ A35.out).mono ?_); rintro e w37 ⟨rfl, hb⟩; have n0_ := Aside0.mk (below_step (by repeat (first | (with_reducible first | exact HB.out | apply below_alloc | apply pw_below_drewN | apply below_drew1) | exact HB.out)) hb); clear HB; have HB := n0_; clear n0_; (try clear hb); (try clear hb2); (try clear hk); (try clear hi)))
              go_ret
              exact ⟨by first | rfl | (simp [errW_none, errW_some] <;> rfl) | (simp [*, errW_none, errW_some] <;> rfl), by repeat (first | (with_reducible first | exact HB.out | apply below_alloc | apply pw_below_drewN | apply below_drew1) | exact HB.out)⟩
            · rw [if_neg c34] at H
              have c34b0 : (t243 == 4) = false := beq_eq_false_iff_ne.mpr c34
              have c34b1 : (t243 != 4) = true := bne_iff_ne.mpr c34
              obtain rfl := Option.some.inj H
              go_wp2_with (first | ((with_reducible refine gate_callee (f := 15) rfl ?_); refine goesL_ (some 83) rfl rfl Try.func15 (by kernel_rfl) rfl #[.string t239] rfl (by (try simp only [List.map_toArray, List.map_cons, List.map_nil]); first | done | rfl | (simp only [List.length_drop, List.length_take]; rfl)) ?_; (with_reducible refine (number_Value.calls t239 t242 t243 _ A32.out).mono ?_); rintro e w38 ⟨rfl, hb⟩; refine ⟨_, rfl, ?_⟩; have n0_ := Aside0.mk (below_step (by repeat (first | (with_reducible first | exact HB.out | apply below_alloc | apply pw_below_drewN | apply below_drew1) | exact HB.out)) hb); clear HB; have HB := n0_; clear n0_; (try clear hb); (try clear hb2); (try clear hk); (try clear hi)))
              go_ret
              exact ⟨by first | rfl | (simp [errW_none, errW_some] <;> rfl) | (simp [*, errW_none, errW_some] <;> rfl), by repeat (first | (with_reducible first | exact HB.out | apply below_alloc | apply pw_below_drewN | apply below_drew1) | exact HB.out)⟩
          · rw [if_neg c33] at H
            have c33b0 : (t239.toList == ([49, 56, 52, 52, 54, 55, 52, 52, 48, 55, 51, 55, 48, 57, 53, 53, 49, 54, 49, 54] : List UInt8)) = false := beq_eq_false_iff_ne.mpr c33
            have c33b1 : (t239.toList != ([49, 56, 52, 52, 54, 55, 52, 52, 48, 55, 51, 55, 48, 57, 53, 53, 49, 54, 49, 54] : List UInt8)) = true := bne_iff_ne.mpr c33
            obtain rfl := Option.some.inj H
            go_wp2_with (first | ((with_reducible refine gate_callee (f := 15) rfl ?_); refine goesL_ (some 83) rfl rfl Try.func15 (by kernel_rfl) rfl #[.string t239] rfl (by (try simp only [List.map_toArray, List.map_cons, List.map_nil]); first | done | rfl | (simp only [List.length_drop, List.length_take]; rfl)) ?_; (with_reducible refine (number_Value.calls t239 t242 t243 _ A32.out).mono ?_); rintro e w39 ⟨rfl, hb⟩; refine ⟨_, rfl, ?_⟩; have n0_ := Aside0.mk (below_step (by repeat (first | (with_reducible first | exact HB.out | apply below_alloc | apply pw_below_drewN | apply below_drew1) | exact HB.out)) hb); clear HB; have HB := n0_; clear n0_; (try clear hb); (try clear hb2); (try clear hk); (try clear hi)))
            go_ret
            exact ⟨by first | rfl | (simp [errW_none, errW_some] <;> rfl) | (simp [*, errW_none, errW_some] <;> rfl), by repeat (first | (with_reducible first | exact HB.out | apply below_alloc | apply pw_below_drewN | apply below_drew1) | exact HB.out)⟩
        · rw [if_neg c31] at H
          have c31b0 : (a0 == 18446744073709551615) = false := beq_eq_false_iff_ne.mpr c31
          have c31b1 : (a0 != 18446744073709551615) = true := bne_iff_ne.mpr c31
          replace H := Option.bind_eq_some_iff.mp H
          obtain ⟨t245, A400, H⟩ := H
          replace H : (if t239.toList = t245.toList then ((graftwoodlaw02_awake.f kj7).bind fun t246 => (some t246)) else (some false)) = some r := H
          have A40 := Aside0.mk A400
          clear A400
          by_cases c41 : t239.toList = t245.toList
          · rw [if_pos c41] at H
            have c41b0 : (t239.toList == t245.toList) = true := beq_iff_eq.mpr c41
            have c41b1 : (t239.toList != t245.toList) = false := bne_eq_false_iff_eq.mpr c41
            clear c41
            replace H := Option.bind_eq_some_iff.mp H
            obtain ⟨t246, A420, H⟩ := H
            replace H : (some t246) = some r := H
            have A42 := Aside0.mk A420
            clear A420
            obtain rfl := Option.some.inj H
            go_wp2_with (first | ((with_reducible refine gate_callee (f := 14) rfl ?_); refine goesL_ (some 98) rfl rfl Try.func14 (by kernel_rfl) rfl #[.int .u64 (IntKind.u64.wrap (a0 + 1))] rfl (by (try simp only [List.map_toArray, List.map_cons, List.map_nil]); first | done | rfl | (simp only [List.length_drop, List.length_take]; rfl)) ?_; (with_reducible refine (number_Of.calls kj7 (IntKind.u64.wrap (a0 + 1)) t245 _ A40.out).mono ?_); rintro e w43 ⟨rfl, hb⟩; refine ⟨_, rfl, ?_⟩; have n0_ := Aside0.mk (below_step (by repeat (first | (with_reducible first | exact HB.out | apply below_alloc | apply pw_below_drewN | apply below_drew1) | exact HB.out)) hb); clear HB; have HB := n0_; clear n0_; (try clear hb); (try clear hb2); (try clear hk); (try clear hi)) | (go_at_call 12; (with_reducible refine (graftwoodlaw02_awake.calls kj7  t246 _ A42.out).mono ?_); rintro e w44 ⟨rfl, hb⟩; have n0_ := Aside0.mk (below_step (by repeat (first | (with_reducible first | exact HB.out | apply below_alloc | apply pw_below_drewN | apply below_drew1) | exact HB.out)) hb); clear HB; have HB := n0_; clear n0_; (try clear hb); (try clear hb2); (try clear hk); (try clear hi)))
            go_ret
            exact ⟨by first | rfl | (simp [errW_none, errW_some] <;> rfl) | (simp [*, errW_none, errW_some] <;> rfl), by repeat (first | (with_reducible first | exact HB.out | apply below_alloc | apply pw_below_drewN | apply below_drew1) | exact HB.out)⟩
          · rw [if_neg c41] at H
            have c41b0 : (t239.toList == t245.toList) = false := beq_eq_false_iff_ne.mpr c41
            have c41b1 : (t239.toList != t245.toList) = true := bne_iff_ne.mpr c41
            obtain rfl := Option.some.inj H
            go_wp2_with (first | ((with_reducible refine gate_callee (f := 14) rfl ?_); refine goesL_ (some 98) rfl rfl Try.func14 (by kernel_rfl) rfl #[.int .u64 (IntKind.u64.wrap (a0 + 1))] rfl (by (try simp only [List.map_toArray, List.map_cons, List.map_nil]); first | done | rfl | (simp only [List.length_drop, List.length_take]; rfl)) ?_; (with_reducible refine (number_Of.calls kj7 (IntKind.u64.wrap (a0 + 1)) t245 _ A40.out).mono ?_); rintro e w45 ⟨rfl, hb⟩; refine ⟨_, rfl, ?_⟩; have n0_ := Aside0.mk (below_step (by repeat (first | (with_reducible first | exact HB.out | apply below_alloc | apply pw_below_drewN | apply below_drew1) | exact HB.out)) hb); clear HB; have HB := n0_; clear n0_; (try clear hb); (try clear hb2); (try clear hk); (try clear hi)))
            go_ret
            exact ⟨by first | rfl | (simp [errW_none, errW_some] <;> rfl) | (simp [*, errW_none, errW_some] <;> rfl), by repeat (first | (with_reducible first | exact HB.out | apply below_alloc | apply pw_below_drewN | apply below_drew1) | exact HB.out)⟩

/-- THE ONE PURE STATEMENT of graftwoodlaw02_NumberBack: yours. -/
def graftwoodlaw02_NumberBack.Pure : Prop := ∀ (a0 : Int) (a1 : Int), (Lit.int .u64 a0).wf = true → (Lit.int .u64 a1).wf = true → ∃ k, graftwoodlaw02_NumberBack.f k a0 a1 = some true
theorem graftwoodlaw02_NumberBack.walk (P : graftwoodlaw02_NumberBack.Pure) (a0 : Int) (a1 : Int) (w : World) (w0 : (Lit.int .u64 a0).wf = true) (w1 : (Lit.int .u64 a1).wf = true) :
    Calls Try.prog 8 #[.int .u64 a0, .int .u64 a1] w fun e w' => e = .returned (.bool true) ∧ Below w.heap.size w w' := by
  obtain ⟨k, h⟩ := P a0 a1 w0 w1
  refine (graftwoodlaw02_NumberBack.calls k a0 a1 true w h).mono ?_
  rintro e w' ⟨rfl, hd⟩
  exact ⟨rfl, hd⟩

end Go.Proofs.Ytgldbbgcdpgbcaa.PAll
