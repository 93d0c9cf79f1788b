-- WRITTEN FOR THIS CLAIM by a program of this session (a copy of the print with given functions)
import Derived.Test.YtgldbbgcdpgbcaaPAllx0
import Derived.Test.YtgldbbgcdpgbcaaPAllx1
namespace Go.Proofs.Ytgldbbgcdpgbcaa.PAll
open Go.RowKit Go.Proofs.YtgldbbgcdpgbcaaW.PrintWords Go.Proofs.YtgldbbgcdpgbcaaW.PrintLast Go.Proofs.YtgldbbgcdpgbcaaW.PrintMore
attribute [local go_sem] max2_int min2_int max_two min_two max_three min_three max_four min_four   -- for this text's walks alone
set_option linter.unusedVariables false
set_option linter.unusedSimpArgs false

/-! ### number_Of: function 14 -/
mutual
def number_Of.l0 : Nat → Int → List Int → Option (ByteArray)
  | 0, _, _ => none
  | k + 1, x0, x3 => if x0 > 9 then (if x3.length < 140737488355328 then (number_Of.l0 k (IntKind.u64.wrap (Int.tdiv x0 10)) (x3 ++ [(IntKind.u64.wrap (48 + (Int.tmod x0 10))) % 256])) else (none)) else (if x3.length < 140737488355328 then ((some (x3 ++ [(IntKind.u64.wrap (48 + x0)) % 256] : List Int)).bind fun y177 => (number_Of.l1 k y177 (wrap64 ((y177.length : Int) / 2)) 0)) else (none))
def number_Of.l1 : Nat → List Int → Int → Int → Option (ByteArray)
  | 0, _, _, _ => none
  | k + 1, x3, x25, x26 => if x26 < x25 then (if 0 ≤ (wrap64 ((wrap64 ((x3.length : Int) - 1)) - x26)) then (if (wrap64 ((wrap64 ((x3.length : Int) - 1)) - x26)) < (x3.length : Int) then (if 0 ≤ x26 then (if x26 < (x3.length : Int) then (number_Of.l1 k ((x3.set (x26 : Int).toNat (rd x3 (wrap64 ((wrap64 ((x3.length : Int) - 1)) - x26)))).set ((wrap64 ((wrap64 ((x3.length : Int) - 1)) - x26)) : Int).toNat (rd x3 x26)) x25 (wrap64 (x26 + 1))) else (none)) else (none)) else (none)) else (none)) else (some (strOfNums x3))
end
def number_Of.f (k : Nat) (a0 : Int) : Option (ByteArray) := number_Of.l0 k a0 ([] : List Int)
theorem number_Of.mono_l : ∀ k, (∀ y0 y1, LeO (number_Of.l0 k y0 y1) (number_Of.l0 (k + 1) y0 y1)) ∧ (∀ y0 y1 y2, LeO (number_Of.l1 k y0 y1 y2) (number_Of.l1 (k + 1) y0 y1 y2))
  | 0 => ⟨fun _ _ r h => by simp [number_Of.l0] at h, fun _ _ _ r h => by simp [number_Of.l1] at h⟩
  | k + 1 => by
    obtain ⟨ih0, ih1⟩ := number_Of.mono_l k
    refine ⟨?_, ?_⟩
    · intro y0 y1
      unfold number_Of.l0
      repeat' first
      | (with_reducible exact ih0 _ _)
      | (with_reducible exact ih1 _ _ _)
      | (with_reducible exact LeO.refl _)
      | (with_reducible exact LeO.none _)
      | (with_reducible refine LeO.ite ?_ ?_)
      | (with_reducible refine LeO.bind ?_ (fun _ => ?_))
      | exact ih0 _ _
      | exact ih1 _ _ _
      | exact LeO.none _
      | refine LeO.ite ?_ ?_
      | refine LeO.bind ?_ (fun _ => ?_)
    · intro y0 y1 y2
      unfold number_Of.l1
      repeat' first
      | (with_reducible exact ih0 _ _)
      | (with_reducible exact ih1 _ _ _)
      | (with_reducible exact LeO.refl _)
      | (with_reducible exact LeO.none _)
      | (with_reducible refine LeO.ite ?_ ?_)
      | (with_reducible refine LeO.bind ?_ (fun _ => ?_))
      | exact ih0 _ _
      | exact ih1 _ _ _
      | exact LeO.none _
      | refine LeO.ite ?_ ?_
      | refine LeO.bind ?_ (fun _ => ?_)
theorem number_Of.mono : ∀ a0 k, LeO (number_Of.f k a0) (number_Of.f (k + 1) a0) := by
  intro a0 k
  obtain ⟨ih0, ih1⟩ := number_Of.mono_l k
  unfold number_Of.f
  repeat' first
      | (with_reducible exact ih0 _ _)
      | (with_reducible exact ih1 _ _ _)
      | (with_reducible exact LeO.refl _)
      | (with_reducible exact LeO.none _)
      | (with_reducible refine LeO.ite ?_ ?_)
      | (with_reducible refine LeO.bind ?_ (fun _ => ?_))
      | exact ih0 _ _
      | exact ih1 _ _ _
      | exact LeO.none _
      | refine LeO.ite ?_ ?_
      | refine LeO.bind ?_ (fun _ => ?_)
def number_Of.T10 : Bool × List (List Nat × List Nat) := (true, [([], []), ([], []), ([], []), ([], []), ([], []), ([], []), ([4, 5], [4, 5]), ([6], [6]), ([], []), ([], []), ([8, 9], [8, 9]), ([10], [10]), ([0, 1, 0, 1, 4, 5, 6, 7, 11], [0, 1]), ([12, 7, 0, 1, 4, 5, 6, 7, 11], [7, 12]), ([2, 3, 0, 1, 2, 3, 4, 5, 6, 7, 8, 9, 10, 11, 12, 13], [2, 3]), ([14, 11, 13, 0, 1, 2, 3, 4, 5, 6, 7, 8, 9, 10, 11, 12, 13], [11, 14])])
def number_Of.B10 : List Nat := [0, 0, 0, 0, 0, 0, 48, 112, 0, 0, 768, 1792, 4083, 8179, 16383, 32767]
theorem number_Of.tab10 : rtab .any (opsOf Try.f14 10) = number_Of.T10 := by kernel_rfl
theorem number_Of.bits10 : waitsOk number_Of.T10.2 number_Of.B10 = true := by kernel_rfl
set_option maxHeartbeats 8000000 in
set_option maxRecDepth 100000 in
theorem number_Of.calls (k : Nat) (a0 : Int) (r : ByteArray) (w : World) (h : number_Of.f k a0 = some r) :
    Calls Try.prog 14 #[.int .u64 a0] w fun e w' => e = .returned (.string r) ∧ Below w.heap.size w w' := by
  have HB := Aside0.mk (Below.refl w.heap.size w)
  have H : (number_Of.l0 k a0 ([] : List Int)) = some r := h
  clear h
  have H' := Aside0.mk H
  clear H
  go_enter Try.func14, Try.ntmps14
  go_wp2
  go_loopg [0, 3] k (fun kq v0 v3 w' => ∃ (x0_1 : Int) (x3_1 : List Int), v0 = .int .u64 x0_1 ∧ Aside0 (number_Of.l0 kq x0_1 x3_1 = some r) ∧ Aside0 (kq ≤ k) ∧ Aside0 (Kd.R (Kd.int .u8) 5 w' w.heap.size (fun _ => True) v3 x3_1) ∧ Aside0 (Below w.heap.size w w'))
  case atStart => exact ⟨(a0), (([] : List Int)), (by first | rfl | (simp; done) | (simp [*]; done) | (simp [bne]; done)), H', ⟨Nat.le_refl _⟩, ⟨by first | exact Kd.R_nil _ _ _ _ _ | exact Kd.N_nil _ _ _ _ _ | exact Kd.V_nil _ _ _ _ _ | exact Kd.Q_nil _ _ _ _ _ | exact Kd.S_nil _ _ _ _ _⟩, ⟨by repeat (first | (with_reducible first | exact HB.out | apply below_alloc | apply pw_below_drewN | apply below_drew1) | exact HB.out)⟩⟩
  case round =>
    clear H'
    try clear c1
    obtain ⟨x0_1, x3_1, rfl, HA, HK1, HO_3, HB⟩ := hrel
    cases gk with
    | zero => exact absurd HA.out (by simp [number_Of.l0])
    | succ k1 =>
      have H := HA.out
      clear HA
      simp only [number_Of.l0] at H
      by_cases c2 : x0_1 > 9
      · rw [if_pos c2] at H
        have c2b0 : decide (9 < x0_1) = true := decide_eq_true c2
        clear c2
        by_cases c3 : x3_1.length < 140737488355328
        · rw [if_pos c3] at H
          have LMc3 := Aside0.mk c3
          clear c3
          obtain ⟨y174, hy174⟩ : ∃ y_ : List Int, y_ = (x3_1 ++ [(IntKind.u64.wrap (48 + (Int.tmod x0_1 10))) % 256]) := ⟨_, rfl⟩
          replace H : (number_Of.l0 k1 (IntKind.u64.wrap (Int.tdiv x0_1 10)) y174) = some r := by first | (rw [hy174]; with_reducible exact H) | (have H2_ := (Option.bind_some _ _).symm.trans H; rw [hy174]; with_reducible exact H2_) | (have H2_ := (Option.bind_some _ _).symm.trans H; with_reducible exact H2_) | with_reducible exact H | (rw [hy174]; exact H) | exact H
          have Ny174 := Aside0.mk hy174
          clear hy174
          have H' := Aside0.mk H
          clear H
          go_wp2_with (first | ((with_reducible refine gate_builtin (b := .append) (xs := #[.tmp 8, .tmp 13]) rfl ?_); at_builtin; refine Kd.R_append (Kd.int .u8) (w0 := w) w.heap.size rfl (.tmp 8) (.tmp 13) 31 5 (.int .u8 0) 1 rfl Try.underlying31 info5 rfl (by decide) (by omega) u3 x3_1 ((IntKind.u64.wrap (48 + (Int.tmod x0_1 10))) % 256) [.int .u8 ((IntKind.u64.wrap (48 + (Int.tmod x0_1 10))) % 256)] (fun _ => True) (fun _ => False) rfl rfl ?aP (fun _ hk => hk.elim) ?aF ?aO ?aB ?aS ?aL ?_; (case aP => exact rfl); (case aB => exact (by repeat (first | (with_reducible first | exact HB.out | apply below_alloc | apply pw_below_drewN | apply below_drew1) | exact HB.out))); (case aF => exact (fun _ _ => trivial)); (case aO => exact (by (with_reducible repeat (first | apply Kd.R_alloc | apply Kd.R_drewN | apply Kd.R_drew)); exact HO_3.out)); (case aS => exact (below_size (by repeat (first | (with_reducible first | exact HB.out | apply below_alloc | apply pw_below_drewN | apply below_drew1) | exact HB.out)))); (case aL => have := LMc3.out; omega); intro v175 w4 ho hb hg hat; rw [← Ny174.out] at ho; have n0_ := Aside0.mk (hb); have n1_ := Aside0.mk (ho); clear HB; clear HO_3; have HB := n0_; have HO176 := n1_; clear n0_ n1_; clear ho hb hg hat))
          go_roundg k1
          case measure => have := HK1.out; omega
          case rel => exact ⟨(IntKind.u64.wrap (Int.tdiv x0_1 10)), (y174), (by first | rfl | (simp; done) | (simp [*]; done) | (simp [bne]; done)), H', ⟨by have := HK1.out; omega⟩, ⟨by (with_reducible repeat (first | apply Kd.R_alloc | apply Kd.R_drewN | apply Kd.R_drew)); exact HO176.out⟩, ⟨by repeat (first | (with_reducible first | exact HB.out | apply below_alloc | apply pw_below_drewN | apply below_drew1) | exact HB.out)⟩⟩
        · rw [if_neg c3] at H
          exact absurd H (by simp)
      · rw [if_neg c2] at H
        have c2b0 : decide (9 < x0_1) = false := decide_eq_false c2
        clear c2
        by_cases c5 : x3_1.length < 140737488355328
        · rw [if_pos c5] at H
          have LMc5 := Aside0.mk c5
          clear c5
          obtain ⟨y177, hy177⟩ : ∃ y_ : List Int, y_ = (x3_1 ++ [(IntKind.u64.wrap (48 + x0_1)) % 256]) := ⟨_, rfl⟩
          replace H : (number_Of.l1 k1 y177 (wrap64 ((y177.length : Int) / 2)) 0) = some r := by first | (rw [hy177]; with_reducible exact H) | (have H2_ := (Option.bind_some _ _).symm.trans H; rw [hy177]; with_reducible exact H2_) | (have H2_ := (Option.bind_some _ _).symm.trans H; with_reducible exact H2_) | with_reducible exact H | (rw [hy177]; exact H) | exact H
          have Ny177 := Aside0.mk hy177
          clear hy177
          have H' := Aside0.mk H
          clear H
          go_wp2_with (first | ((with_reducible refine gate_builtin (b := .append) (xs := #[.tmp 17, .tmp 21]) rfl ?_); at_builtin; refine Kd.R_append (Kd.int .u8) (w0 := w) w.heap.size rfl (.tmp 17) (.tmp 21) 31 5 (.int .u8 0) 1 rfl Try.underlying31 info5 rfl (by decide) (by omega) u3 x3_1 ((IntKind.u64.wrap (48 + x0_1)) % 256) [.int .u8 ((IntKind.u64.wrap (48 + x0_1)) % 256)] (fun _ => True) (fun _ => False) rfl rfl ?aP (fun _ hk => hk.elim) ?aF ?aO ?aB ?aS ?aL ?_; (case aP => exact rfl); (case aB => exact (by repeat (first | (with_reducible first | exact HB.out | apply below_alloc | apply pw_below_drewN | apply below_drew1) | exact HB.out))); (case aF => exact (fun _ _ => trivial)); (case aO => exact (by (with_reducible repeat (first | apply Kd.R_alloc | apply Kd.R_drewN | apply Kd.R_drew)); exact HO_3.out)); (case aS => exact (below_size (by repeat (first | (with_reducible first | exact HB.out | apply below_alloc | apply pw_below_drewN | apply below_drew1) | exact HB.out)))); (case aL => have := LMc5.out; omega); intro v178 w6 ho hb hg hat; rw [← Ny177.out] at ho; have n0_ := Aside0.mk (hb); have n1_ := Aside0.mk (ho); clear HB; clear HO_3; have HB := n0_; have HO179 := n1_; clear n0_ n1_; clear ho hb hg hat; obtain ⟨Ao7, co7, eo7⟩ := Kd.R_slice HO179.out; subst eo7))
          go_loopg [26] k1 (fun kq v26 w' => ∃ (x3_2 : List Int) (x26_2 : Int), v26 = .int .i64 x26_2 ∧ Aside0 (number_Of.l1 kq x3_2 (wrap64 ((y177.length : Int) / 2)) x26_2 = some r) ∧ Aside0 (kq ≤ k1) ∧ Aside0 (Kd.R (Kd.int .u8) 5 w' w.heap.size (fun _ => True) (.slice Ao7 y177.length co7) x3_2) ∧ Aside0 (Below w.heap.size w w'))
          case atStart => exact ⟨(y177), (0), (by first | rfl | (simp; done) | (simp [*]; done) | (simp [bne]; done)), H', ⟨Nat.le_refl _⟩, ⟨by (with_reducible repeat (first | apply Kd.R_alloc | apply Kd.R_drewN | apply Kd.R_drew)); exact HO179.out⟩, ⟨by repeat (first | (with_reducible first | exact HB.out | apply below_alloc | apply pw_below_drewN | apply below_drew1) | exact HB.out)⟩⟩
          case round =>
            clear H'
            try clear c1
            try clear c2
            try clear c2b0
            try clear p2
            try clear c3
            try clear c5
            try clear p6
            obtain ⟨x3_2, x26_2, rfl, HA, HK2, HO_3, HB⟩ := hrel
            have hl3_2 := (Kd.R_reads' HO_3.out).1
            rw [hl3_2] at HO_3
            (try simp only [hl3_2])
            cases gk with
            | zero => exact absurd HA.out (by simp [number_Of.l1])
            | succ k2 =>
              have H := HA.out
              clear HA
              simp only [number_Of.l1] at H
              by_cases c8 : x26_2 < (wrap64 ((y177.length : Int) / 2))
              · rw [if_pos c8] at H
                have c8b0 : decide (x26_2 < (wrap64 ((y177.length : Int) / 2))) = true := decide_eq_true c8
                (try (have c8n0 := c8b0; simp only [hl3_2, Int.ofNat_lt, Int.ofNat_le] at c8n0))
                clear c8
                obtain ⟨ji9, hji9⟩ : ∃ j_ : Int, (wrap64 ((wrap64 ((x3_2.length : Int) - 1)) - x26_2)) = j_ := ⟨_, rfl⟩
                replace H : (if 0 ≤ (ji9) then (if (ji9) < (x3_2.length : Int) then (if 0 ≤ x26_2 then (if x26_2 < (x3_2.length : Int) then (number_Of.l1 k2 ((x3_2.set (x26_2 : Int).toNat (rd x3_2 (ji9))).set ((ji9) : Int).toNat (rd x3_2 x26_2)) (wrap64 ((y177.length : Int) / 2)) (wrap64 (x26_2 + 1))) else (none)) else (none)) else (none)) else (none)) = some r := by first | (rw [hji9] at H; exact H) | (simp only [hji9] at H ⊢; exact H)
                have hji9w : (IntKind.i64.wrap ((wrap64 ((x3_2.length : Int) - 1)) - x26_2)) = ji9 := (i64_w _).trans hji9
                by_cases c10 : 0 ≤ (ji9)
                · rw [if_pos c10] at H
                  have c10b0 : decide (0 ≤ (ji9)) = true := decide_eq_true c10
                  clear c10
                  by_cases c11 : (ji9) < (x3_2.length : Int)
                  · rw [if_pos c11] at H
                    have c11b0 : decide ((ji9) < (x3_2.length : Int)) = true := decide_eq_true c11
                    (try (have c11n0 := c11b0; simp only [hl3_2, Int.ofNat_lt, Int.ofNat_le] at c11n0))
                    clear c11
                    by_cases c12 : 0 ≤ x26_2
                    · rw [if_pos c12] at H
                      have c12b0 : decide (0 ≤ x26_2) = true := decide_eq_true c12
                      clear c12
                      by_cases c13 : x26_2 < (x3_2.length : Int)
                      · rw [if_pos c13] at H
                        have c13b0 : decide (x26_2 < (x3_2.length : Int)) = true := decide_eq_true c13
                        (try (have c13n0 := c13b0; simp only [hl3_2, Int.ofNat_lt, Int.ofNat_le] at c13n0))
                        clear c13
                        obtain ⟨y182, hy182⟩ : ∃ y_ : List Int, y_ = (x3_2.set (x26_2 : Int).toNat (rd x3_2 (ji9))) := ⟨_, rfl⟩
                        replace H : (number_Of.l1 k2 (y182.set ((ji9) : Int).toNat (rd x3_2 x26_2)) (wrap64 ((y177.length : Int) / 2)) (wrap64 (x26_2 + 1))) = some r := by first | (rw [hy182]; with_reducible exact H) | (have H2_ := (Option.bind_some _ _).symm.trans H; rw [hy182]; with_reducible exact H2_) | (have H2_ := (Option.bind_some _ _).symm.trans H; with_reducible exact H2_) | with_reducible exact H | (rw [hy182]; exact H) | exact H
                        have Ny182 := Aside0.mk hy182
                        clear hy182
                        obtain ⟨y183, hy183⟩ : ∃ y_ : List Int, y_ = (y182.set ((ji9) : Int).toNat (rd x3_2 x26_2)) := ⟨_, rfl⟩
                        replace H : (number_Of.l1 k2 y183 (wrap64 ((y177.length : Int) / 2)) (wrap64 (x26_2 + 1))) = some r := by first | (rw [hy183]; with_reducible exact H) | (have H2_ := (Option.bind_some _ _).symm.trans H; rw [hy183]; with_reducible exact H2_) | (have H2_ := (Option.bind_some _ _).symm.trans H; with_reducible exact H2_) | with_reducible exact H | (rw [hy183]; exact H) | exact H
                        have Ny183 := Aside0.mk hy183
                        clear hy183
                        have H' := Aside0.mk H
                        clear H
                        try go_wp2
                        have n0_ := Aside0.mk (Kd.R_drew HO_3.out)
                        have n1_ := Aside0.mk (below_drew1 HB.out)
                        clear HO_3
                        clear HB
                        have HO_3 := n0_
                        have HB := n1_
                        clear n0_ n1_
                        have p180 : 0 ≤ ((ji9) : Int) := of_decide_eq_true (by first | (with_reducible assumption) | assumption)
                        have q180 : (ji9) < (x3_2.length : Int) := of_decide_eq_true (by first | (with_reducible assumption) | assumption)
                        obtain ⟨ad180, e180, hx180_0⟩ := Kd.at_int (Kd.R_reads' HO_3.out).2.2 (ji9) p180 q180
                        cases e180
                        replace p180 := eq_true p180
                        replace q180 := eq_true q180
                        have p181 : 0 ≤ (x26_2 : Int) := of_decide_eq_true (by first | (with_reducible assumption) | assumption)
                        have q181 : x26_2 < (x3_2.length : Int) := of_decide_eq_true (by first | (with_reducible assumption) | assumption)
                        obtain ⟨ad181, e181, hx181_0⟩ := Kd.at_int (Kd.R_reads' HO_3.out).2.2 x26_2 p181 q181
                        obtain rfl : ad180 = ad181 := (by injection e181)
                        replace p181 := eq_true p181
                        replace q181 := eq_true q181
                        have p14 : 0 ≤ (x26_2 : Int) := of_decide_eq_true (by first | (with_reducible assumption) | assumption)
                        have q14 : (x26_2 : Int) < ((x3_2.length : Int) : Int) := of_decide_eq_true (by first | (with_reducible assumption) | assumption)
                        obtain ⟨go14, co14, eo14, gb14, gl14, cl14, HG14⟩ := Kd.R_form HO_3.out (by omega)
                        (first | cases eo14 | (injection eo14 with ea_ en_ ec_; (first | subst ea_ | (injection ea_ with ea_; subst ea_)); subst ec_; clear en_))
                        have GB14 := Aside0.mk gb14
                        have GG14 := Aside0.mk HG14
                        clear gb14 gl14 HG14
                        (first | simp only [add_plain] at hx180_0 | skip)
                        (first | simp only [add_plain] at hx181_0 | skip)
                        obtain ⟨hx14_0, hf14_0⟩ := Kd.R_celln 0 HO_3.out (x26_2 : Int) p14 q14
                        replace p14 := eq_true p14
                        replace q14 := eq_true q14
                        have HP17 := Kd.R_putn HO_3.out (x26_2 : Int) (rd x3_2 (ji9))
                        rw [← Ny182.out] at HP17
                        have HQ17 := Aside0.mk HP17
                        clear HP17
                        have p15 : 0 ≤ ((ji9) : Int) := of_decide_eq_true (by first | (with_reducible assumption) | assumption)
                        have q15 : ((ji9) : Int) < ((x3_2.length : Int) : Int) := of_decide_eq_true (by first | (with_reducible assumption) | assumption)
                        obtain ⟨hx15_0, hf15_0⟩ := Kd.R_celln 0 HQ17.out ((ji9) : Int) p15 q15
                        replace p15 := eq_true p15
                        replace q15 := eq_true q15
                        have HP18 := Kd.R_putn HQ17.out ((ji9) : Int) (rd x3_2 x26_2)
                        rw [← Ny183.out] at HP18
                        have HQ18 := Aside0.mk HP18
                        clear HP18
                        refine start_ (n := 16) (S := fun w' => w'.cell? ⟨go14, ((ji9)).toNat, none⟩ = some (.int .u8 (rd x3_2 (ji9))) ∧ w'.cell? ⟨go14, (x26_2).toNat, none⟩ = some (.int .u8 (rd x3_2 x26_2))) (ds := [13, 15]) #[false, false, false, false, false, false, false, false, false, false, false, false, false, false, false, false] (by kernel_rfl) rfl rfl ⟨hx180_0, hx181_0⟩ (fun hHeld => ?_); refine with_tabW number_Of.tab10 number_Of.bits10 (fun HT_ HW_ => ?_)
                        generalize wr.drew = w16 at HO_3 HB GG14 HQ17 HQ18 hf14_0 hf15_0 hx14_0 hx15_0 hx180_0 hx181_0 hHeld ⊢
                        refine pure_ (i := 0) (N := some 34) (v := ?_) (a' := ?_) #[true, false, false, false, false, false, false, false, false, false, false, false, false, false, false, false] rfl rfl (any_of HT_.out (by kernel_rfl)) (fun _ _ _ h => h) (Or.inl ⟨by rfl, ?_⟩) ?_ ?_
                        rotate_left
                        · intro w'
                          go_simp
                          with_reducible rfl
                        rotate_left
                        · simp only [Act.put, List.setIfInBounds_toArray, List.set_cons_zero, List.set_cons_succ, i64_w, i32_w]
                          rfl
                        refine pure_ (i := 1) (N := some 35) (v := ?_) (a' := ?_) #[true, true, false, false, false, false, false, false, false, false, false, false, false, false, false, false] rfl rfl (any_of HT_.out (by kernel_rfl)) (fun _ _ _ h => h) (Or.inl ⟨by rfl, ?_⟩) ?_ ?_
                        rotate_left
                        · intro w'
                          go_simp
                          with_reducible rfl
                        rotate_left
                        · simp only [Act.put, List.setIfInBounds_toArray, List.set_cons_zero, List.set_cons_succ, i64_w, i32_w]
                          rfl
                        refine pure_ (i := 2) (N := some 36) (v := ?_) (a' := ?_) #[true, true, true, false, false, false, false, false, false, false, false, false, false, false, false, false] rfl rfl (any_of HT_.out (by kernel_rfl)) (fun _ _ _ h => h) (Or.inl ⟨by rfl, ?_⟩) ?_ ?_
                        rotate_left
                        · intro w'
                          go_simp
                          with_reducible rfl
                        rotate_left
                        · simp only [Act.put, List.setIfInBounds_toArray, List.set_cons_zero, List.set_cons_succ, i64_w, i32_w]
                          rfl
                        refine pure_ (i := 3) (N := some 37) (v := ?_) (a' := ?_) #[true, true, true, true, false, false, false, false, false, false, false, false, false, false, false, false] rfl rfl (any_of HT_.out (by kernel_rfl)) (fun _ _ _ h => h) (Or.inl ⟨by rfl, ?_⟩) ?_ ?_
                        rotate_left
                        · intro w'
                          go_simp
                          with_reducible rfl
                        rotate_left
                        · simp only [Act.put, List.setIfInBounds_toArray, List.set_cons_zero, List.set_cons_succ, i64_w, i32_w]
                          rfl
                        refine pure_ (i := 4) (N := some 38) (v := ?_) (a' := ?_) #[true, true, true, true, true, false, false, false, false, false, false, false, false, false, false, false] rfl rfl (any_of HT_.out (by kernel_rfl)) (fun _ _ _ h => h) (Or.inl ⟨by rfl, ?_⟩) ?_ ?_
                        rotate_left
                        · intro w'
                          go_simp
                          with_reducible rfl
                        rotate_left
                        · simp only [Act.put, List.setIfInBounds_toArray, List.set_cons_zero, List.set_cons_succ, i64_w, i32_w]
                          rfl
                        refine pure_ (i := 5) (N := some 39) (v := ?_) (a' := ?_) #[true, true, true, true, true, true, false, false, false, false, false, false, false, false, false, false] rfl rfl (any_of HT_.out (by kernel_rfl)) (fun _ _ _ h => h) (Or.inl ⟨by rfl, ?_⟩) ?_ ?_
                        rotate_left
                        · intro w'
                          go_simp
                          with_reducible rfl
                        rotate_left
                        · simp only [Act.put, List.setIfInBounds_toArray, List.set_cons_zero, List.set_cons_succ, i64_w, i32_w]
                          rfl
                        refine pure_ (i := 6) (N := some 40) (v := ?_) (a' := ?_) #[true, true, true, true, true, true, true, false, false, false, false, false, false, false, false, false] rfl rfl (any_of HT_.out (by kernel_rfl)) (fun _ _ _ h => h) (Or.inl ⟨by rfl, ?_⟩) ?_ ?_
                        rotate_left
                        · intro w'
                          go_simp
                          with_reducible rfl
                        rotate_left
                        · simp only [Act.put, List.setIfInBounds_toArray, List.set_cons_zero, List.set_cons_succ, i64_w, i32_w]
                          rfl
                        refine pure_ (i := 8) (N := some 42) (v := ?_) (a' := ?_) #[true, true, true, true, true, true, true, false, true, false, false, false, false, false, false, false] rfl rfl (any_of HT_.out (by kernel_rfl)) (fun _ _ _ h => h) (Or.inl ⟨by rfl, ?_⟩) ?_ ?_
                        rotate_left
                        · intro w'
                          go_simp
                          with_reducible rfl
                        rotate_left
                        · simp only [Act.put, List.setIfInBounds_toArray, List.set_cons_zero, List.set_cons_succ, i64_w, i32_w]
                          rfl
                        refine pure_ (i := 9) (N := some 43) (v := ?_) (a' := ?_) #[true, true, true, true, true, true, true, false, true, true, false, false, false, false, false, false] rfl rfl (any_of HT_.out (by kernel_rfl)) (fun _ _ _ h => h) (Or.inl ⟨by rfl, ?_⟩) ?_ ?_
                        rotate_left
                        · intro w'
                          go_simp
                          with_reducible rfl
                        rotate_left
                        · simp only [Act.put, List.setIfInBounds_toArray, List.set_cons_zero, List.set_cons_succ, i64_w, i32_w]
                          rfl
                        refine pure_ (i := 10) (N := some 44) (v := ?_) (a' := ?_) #[true, true, true, true, true, true, true, false, true, true, true, false, false, false, false, false] rfl rfl (any_of HT_.out (by kernel_rfl)) (fun _ _ _ h => h) (Or.inl ⟨by rfl, ?_⟩) ?_ ?_
                        rotate_left
                        · intro w'
                          go_simp
                          with_reducible rfl
                        rotate_left
                        · simp only [Act.put, List.setIfInBounds_toArray, List.set_cons_zero, List.set_cons_succ, i64_w, i32_w]
                          rfl
                        refine take_ (i := 7) (N := some 41) (v := ?_) (a' := ?_) #[true, true, true, true, true, true, true, true, true, true, true, false, false, false, false, false] rfl rfl (take_ofW HT_.out HW_.out (by kernel_rfl)) (fun _ _ _ h => h) (Or.inl ⟨by rfl, ?_⟩) hHeld ?_ ?_
                        rotate_left
                        · rintro w' ⟨s0, s1⟩
                          go_simp
                          with_reducible rfl
                        rotate_left
                        · simp only [Act.put, List.setIfInBounds_toArray, List.set_cons_zero, List.set_cons_succ, i64_w, i32_w]
                          rfl
                        refine take_ (i := 11) (N := some 45) (v := ?_) (a' := ?_) #[true, true, true, true, true, true, true, true, true, true, true, true, false, false, false, false] rfl rfl (take_ofW HT_.out HW_.out (by kernel_rfl)) (fun _ _ _ h => h) (Or.inl ⟨by rfl, ?_⟩) hHeld ?_ ?_
                        rotate_left
                        · rintro w' ⟨s0, s1⟩
                          go_simp
                          with_reducible rfl
                        rotate_left
                        · simp only [Act.put, List.setIfInBounds_toArray, List.set_cons_zero, List.set_cons_succ, i64_w, i32_w]
                          rfl
                        refine pure_ (i := 12) (N := some 46) (v := ?_) (a' := ?_) #[true, true, true, true, true, true, true, true, true, true, true, true, true, false, false, false] rfl rfl (any_of HT_.out (by kernel_rfl)) (fun _ _ _ h => h) (Or.inl ⟨by rfl, ?_⟩) ?_ ?_
                        rotate_left
                        · intro w'
                          go_simp
                          with_reducible rfl
                        rotate_left
                        · simp only [Act.put, List.setIfInBounds_toArray, List.set_cons_zero, List.set_cons_succ, i64_w, i32_w]
                          rfl
                        refine last_ (i := 13) (N := none) #[true, true, true, true, true, true, true, true, true, true, true, true, true, true, false, false] rfl rfl (one_of HT_.out (by kernel_rfl)) (by decide) (fun K hK => ?_)
                        refine skip_ (w1 := ?_) (by rfl) rfl ?_ ?_
                        rotate_left
                        · go_simp
                          rfl
                        refine hK.out _ _ ?_
                        clear hK K
                        refine pure_ (i := 14) (N := some 47) (v := ?_) (a' := ?_) #[true, true, true, true, true, true, true, true, true, true, true, true, true, true, true, false] rfl rfl (any_of HT_.out (by kernel_rfl)) (fun _ _ _ h => h) (Or.inl ⟨by rfl, ?_⟩) ?_ ?_
                        rotate_left
                        · intro w'
                          go_simp
                          with_reducible rfl
                        rotate_left
                        · simp only [Act.put, List.setIfInBounds_toArray, List.set_cons_zero, List.set_cons_succ, i64_w, i32_w]
                          rfl
                        refine last_ (i := 15) (N := none) #[true, true, true, true, true, true, true, true, true, true, true, true, true, true, true, true] rfl rfl (one_of HT_.out (by kernel_rfl)) (by decide) (fun K hK => ?_)
                        refine skip_ (w1 := ?_) (by rfl) rfl ?_ ?_
                        rotate_left
                        · go_simp
                          rfl
                        refine hK.out _ _ ?_
                        clear hK K
                        refine done_ (done_of HT_.out (by kernel_rfl)) ?_
                        try go_wp2
                        (try simp only [← hl3_2])
                        go_roundg k2
                        case measure => have := HK1.out; have := HK2.out; omega
                        case rel => exact ⟨(y183), (wrap64 (x26_2 + 1)), (by first | rfl | (simp; done) | (simp [*]; done) | (simp [bne]; done)), H', ⟨by have := HK1.out; have := HK2.out; omega⟩, ⟨by (try simp only [hl3_2]); (with_reducible repeat (first | apply Kd.R_alloc | apply Kd.R_drewN | apply Kd.R_drew)); exact HQ18.out⟩, ⟨by repeat (first | (with_reducible first | exact HB.out | apply below_alloc | apply pw_below_drewN | apply below_drew1 | refine below_set ?_ GB14.out | refine below_set ?_ GB14.out) | exact HB.out)⟩⟩
                      · rw [if_neg c13] at H
                        exact absurd H (by simp)
                    · rw [if_neg c12] at H
                      exact absurd H (by simp)
                  · rw [if_neg c11] at H
                    exact absurd H (by simp)
                · rw [if_neg c10] at H
                  exact absurd H (by simp)
              · rw [if_neg c8] at H
                have c8b0 : decide (x26_2 < (wrap64 ((y177.length : Int) / 2))) = false := decide_eq_false c8
                (try (have c8n0 := c8b0; simp only [hl3_2, Int.ofNat_lt, Int.ofNat_le] at c8n0))
                clear c8
                obtain rfl := Option.some.inj H
                have hcv19 := own_string (P := Try.prog) Try.underlying31 Try.underlying5 Try.underlying9 (Kd.own_of_R HO_3.out)
                go_wp2
                go_ret
                exact ⟨by first | rfl | (simp [errW_none, errW_some] <;> rfl) | (simp [*, errW_none, errW_some] <;> rfl), by repeat (first | (with_reducible first | exact HB.out | apply below_alloc | apply pw_below_drewN | apply below_drew1) | exact HB.out)⟩
        · rw [if_neg c5] at H
          exact absurd H (by simp)

/-! ### graftwoodlaw02_NumberSteps: function 6 -/
mutual
def graftwoodlaw02_NumberSteps.j0 : Nat → Int → Int → Option (Bool)
  | 0, _, _ => none
  | k + 1, x0, x1 => (number_Of.f k x0).bind fun t184 => (graftwoodlaw02_NumberSteps.l0 k x0 x1 t184 0)
def graftwoodlaw02_NumberSteps.l0 : Nat → Int → Int → ByteArray → Int → Option (Bool)
  | 0, _, _, _, _ => none
  | k + 1, x0, x1, x5, x6 => if x6 < (wrap64 (Int.tmod x1 40)) then ((number_Next.f x5).bind fun bt187 => ((number_Cmp.f k x5 bt187.1).bind fun bt189 => (if bt187.2 = 0 then (if bt189.2 = 0 then (if bt189.1 = (-1) then (graftwoodlaw02_NumberSteps.l0 k x0 x1 bt187.1 (wrap64 (x6 + 1))) else (some false)) else (some false)) else (some false)))) else ((number_Of.f k (IntKind.u64.wrap (x0 + (IntKind.u64.wrap (Int.tmod x1 40))))).bind fun t185 => (if x5.toList = t185.toList then ((graftwoodlaw02_awake.f k).bind fun t186 => (some t186)) else (some false)))
end
def graftwoodlaw02_NumberSteps.f (k : Nat) (a0 : Int) (a1 : Int) : Option (Bool) := if a0 > 9223372036854775808 then (graftwoodlaw02_NumberSteps.j0 k (IntKind.u64.wrap (a0 - 9223372036854775808)) a1) else (graftwoodlaw02_NumberSteps.j0 k a0 a1)
theorem graftwoodlaw02_NumberSteps.mono_l : ∀ k, (∀ y0 y1, LeO (graftwoodlaw02_NumberSteps.j0 k y0 y1) (graftwoodlaw02_NumberSteps.j0 (k + 1) y0 y1)) ∧ (∀ y0 y1 y2 y3, LeO (graftwoodlaw02_NumberSteps.l0 k y0 y1 y2 y3) (graftwoodlaw02_NumberSteps.l0 (k + 1) y0 y1 y2 y3))
  | 0 => ⟨fun _ _ r h => by simp [graftwoodlaw02_NumberSteps.j0] at h, fun _ _ _ _ r h => by simp [graftwoodlaw02_NumberSteps.l0] at h⟩
  | k + 1 => by
    obtain ⟨ih0, ih1⟩ := graftwoodlaw02_NumberSteps.mono_l k
    refine ⟨?_, ?_⟩
    · intro y0 y1
      unfold graftwoodlaw02_NumberSteps.j0
      repeat' first
      | (with_reducible exact ih0 _ _)
      | (with_reducible exact ih1 _ _ _ _)
      | (with_reducible exact graftwoodlaw02_awake.mono _)
      | (with_reducible exact number_Cmp.mono _ _ _)
      | (with_reducible exact number_Of.mono _ _)
      | (with_reducible exact LeO.refl _)
      | (with_reducible exact LeO.none _)
      | (with_reducible refine LeO.ite ?_ ?_)
      | (with_reducible refine LeO.bind ?_ (fun _ => ?_))
      | exact ih0 _ _
      | exact ih1 _ _ _ _
      | exact graftwoodlaw02_awake.mono _
      | exact number_Cmp.mono _ _ _
      | exact number_Of.mono _ _
      | exact LeO.none _
      | refine LeO.ite ?_ ?_
      | refine LeO.bind ?_ (fun _ => ?_)
    · intro y0 y1 y2 y3
      unfold graftwoodlaw02_NumberSteps.l0
      repeat' first
      | (with_reducible exact ih0 _ _)
      | (with_reducible exact ih1 _ _ _ _)
      | (with_reducible exact graftwoodlaw02_awake.mono _)
      | (with_reducible exact number_Cmp.mono _ _ _)
      | (with_reducible exact number_Of.mono _ _)
      | (with_reducible exact LeO.refl _)
      | (with_reducible exact LeO.none _)
      | (with_reducible refine LeO.ite ?_ ?_)
      | (with_reducible refine LeO.bind ?_ (fun _ => ?_))
      | exact ih0 _ _
      | exact ih1 _ _ _ _
      | exact graftwoodlaw02_awake.mono _
      | exact number_Cmp.mono _ _ _
      | exact number_Of.mono _ _
      | exact LeO.none _
      | refine LeO.ite ?_ ?_
      | refine LeO.bind ?_ (fun _ => ?_)
theorem graftwoodlaw02_NumberSteps.mono : ∀ a0 a1 k, LeO (graftwoodlaw02_NumberSteps.f k a0 a1) (graftwoodlaw02_NumberSteps.f (k + 1) a0 a1) := by
  intro a0 a1 k
  obtain ⟨ih0, ih1⟩ := graftwoodlaw02_NumberSteps.mono_l k
  unfold graftwoodlaw02_NumberSteps.f
  repeat' first
      | (with_reducible exact ih0 _ _)
      | (with_reducible exact ih1 _ _ _ _)
      | (with_reducible exact graftwoodlaw02_awake.mono _)
      | (with_reducible exact number_Cmp.mono _ _ _)
      | (with_reducible exact number_Of.mono _ _)
      | (with_reducible exact LeO.refl _)
      | (with_reducible exact LeO.none _)
      | (with_reducible refine LeO.ite ?_ ?_)
      | (with_reducible refine LeO.bind ?_ (fun _ => ?_))
      | exact ih0 _ _
      | exact ih1 _ _ _ _
      | exact graftwoodlaw02_awake.mono _
      | exact number_Cmp.mono _ _ _
      | exact number_Of.mono _ _
      | exact LeO.none _
      | refine LeO.ite ?_ ?_
      | refine LeO.bind ?_ (fun _ => ?_)
set_option maxHeartbeats 8000000 in
set_option maxRecDepth 100000 in
theorem graftwoodlaw02_NumberSteps.calls (k : Nat) (a0 : Int) (a1 : Int) (r : Bool) (w : World) (h : graftwoodlaw02_NumberSteps.f k a0 a1 = some r) :
    Calls Try.prog 6 #[.int .u64 a0, .int .u8 a1] w fun e w' => e = .returned (.bool r) ∧ Below w.heap.size w w' := by
  have HB := Aside0.mk (Below.refl w.heap.size w)
  have H : (if a0 > 9223372036854775808 then (graftwoodlaw02_NumberSteps.j0 k (IntKind.u64.wrap (a0 - 9223372036854775808)) a1) else (graftwoodlaw02_NumberSteps.j0 k a0 a1)) = some r := h
  clear h
  have HC3 := Aside0.mk H
  clear H
  go_enter Try.func6, Try.ntmps6
  go_upto_if 12 with (fail)
  go_cut [0] (fun v0 wc => ∃ (kq : Nat) (x0_2 : Int), v0 = .int .u64 x0_2 ∧ Aside0 (graftwoodlaw02_NumberSteps.j0 kq x0_2 a1 = some r) ∧ Aside0 (kq ≤ k) ∧ Aside0 (Below w.heap.size w wc))
  case first =>
    have H := HC3.out
    clear HC3
    by_cases c4 : a0 > 9223372036854775808
    · rw [if_pos c4] at H
      have c4b0 : decide (9223372036854775808 < a0) = true := decide_eq_true c4
      clear c4
      (first | rw [c4b0] | (simp only [i64_w, i32_w]; rw [c4b0]) | skip)
      have H' := Aside0.mk H
      clear H
      go_wp2
      go_meet
      case rel => exact ⟨_, (IntKind.u64.wrap (a0 - 9223372036854775808)), (by first | rfl | (simp; done) | (simp [*]; done) | (simp [bne]; done)), H', ⟨by first | omega | exact Nat.le_refl _⟩, ⟨by repeat (first | (with_reducible first | exact HB.out | apply below_alloc | apply pw_below_drewN | apply below_drew1) | exact HB.out)⟩⟩
    · rw [if_neg c4] at H
      have c4b0 : decide (9223372036854775808 < a0) = false := decide_eq_false c4
      clear c4
      (first | rw [c4b0] | (simp only [i64_w, i32_w]; rw [c4b0]) | skip)
      have H' := Aside0.mk H
      clear H
      go_wp2
      go_meet
      case rel => exact ⟨_, (a0), (by first | rfl | (simp; done) | (simp [*]; done) | (simp [bne]; done)), H', ⟨by first | omega | exact Nat.le_refl _⟩, ⟨by repeat (first | (with_reducible first | exact HB.out | apply below_alloc | apply pw_below_drewN | apply below_drew1) | exact HB.out)⟩⟩
  case rest =>
    clear HC3
    try clear p2
    try clear c4
    try clear c4b0
    obtain ⟨kq, x0_2, rfl, HA, HJ2, HB⟩ := hcut
    cases kq with
    | zero => exact absurd HA.out (by simp [graftwoodlaw02_NumberSteps.j0])
    | succ kj2 =>
      have H := HA.out
      clear HA
      simp only [graftwoodlaw02_NumberSteps.j0] at H
      replace H := Option.bind_eq_some_iff.mp H
      obtain ⟨t184, A50, H⟩ := H
      replace H : (graftwoodlaw02_NumberSteps.l0 kj2 x0_2 a1 t184 0) = some r := H
      have A5 := Aside0.mk A50
      clear A50
      have H' := Aside0.mk H
      clear H
      go_wp2_with (first | ((with_reducible refine gate_callee (f := 14) rfl ?_); refine goesL_ (some 16) rfl rfl Try.func14 (by kernel_rfl) rfl #[.int .u64 x0_2] rfl (by (try simp only [List.map_toArray, List.map_cons, List.map_nil]); first | done | rfl | (simp only [List.length_drop, List.length_take]; rfl)) ?_; (with_reducible refine (number_Of.calls kj2 x0_2 t184 _ A5.out).mono ?_); rintro e w6 ⟨rfl, hb⟩; refine ⟨_, rfl, ?_⟩; have n0_ := Aside0.mk (below_step (by repeat (first | (with_reducible first | exact HB.out | apply below_alloc | apply pw_below_drewN | apply below_drew1) | exact HB.out)) hb); clear HB; have HB := n0_; clear n0_; (try clear hb); (try clear hb2); (try clear hk); (try clear hi)))
      go_loopg [5, 6] kj2 (fun kq v5 v6 w' => ∃ (x5_2 : ByteArray) (x6_2 : Int), v5 = .string x5_2 ∧ v6 = .int .i64 x6_2 ∧ Aside0 (graftwoodlaw02_NumberSteps.l0 kq x0_2 a1 x5_2 x6_2 = some r) ∧ Aside0 (kq ≤ kj2) ∧ Aside0 (Below w.heap.size w w'))
      case atStart => exact ⟨(t184), (0), (by first | rfl | (simp; done) | (simp [*]; done) | (simp [bne]; done)), (by first | rfl | (simp; done) | (simp [*]; done) | (simp [bne]; done)), H', ⟨Nat.le_refl _⟩, ⟨by repeat (first | (with_reducible first | exact HB.out | apply below_alloc | apply pw_below_drewN | apply below_drew1) | exact HB.out)⟩⟩
      case round =>
        clear H'
        try clear c1
        try clear p2
        try clear c4
        try clear c4b0
        try clear c6
        try clear p2
        obtain ⟨x5_2, x6_2, rfl, rfl, HA, HK2, HB⟩ := hrel
        cases gk with
        | zero => exact absurd HA.out (by simp [graftwoodlaw02_NumberSteps.l0])
        | succ k2 =>
          have H := HA.out
          clear HA
          simp only [graftwoodlaw02_NumberSteps.l0] at H
          by_cases c7 : x6_2 < (wrap64 (Int.tmod a1 40))
          · rw [if_pos c7] at H
            have c7b0 : decide (x6_2 < (wrap64 (Int.tmod a1 40))) = true := decide_eq_true c7
            clear c7
            replace H := Option.bind_eq_some_iff.mp H
            obtain ⟨⟨t187, t188⟩, A80, H⟩ := H
            replace H : ((number_Cmp.f k2 x5_2 t187).bind fun bt189 => (if t188 = 0 then (if bt189.2 = 0 then (if bt189.1 = (-1) then (graftwoodlaw02_NumberSteps.l0 k2 x0_2 a1 t187 (wrap64 (x6_2 + 1))) else (some false)) else (some false)) else (some false))) = some r := H
            have A8 := Aside0.mk A80
            clear A80
            replace H := Option.bind_eq_some_iff.mp H
            obtain ⟨⟨t189, t190⟩, A90, H⟩ := H
            replace H : (if t188 = 0 then (if t190 = 0 then (if t189 = (-1) then (graftwoodlaw02_NumberSteps.l0 k2 x0_2 a1 t187 (wrap64 (x6_2 + 1))) else (some false)) else (some false)) else (some false)) = some r := H
            have A9 := Aside0.mk A90
            clear A90
            by_cases c10 : t188 = 0
            · rw [if_pos c10] at H
              have c10b0 : (t188 == 0) = true := beq_iff_eq.mpr c10
              have c10b1 : (t188 != 0) = false := bne_eq_false_iff_eq.mpr c10
              clear c10
              by_cases c11 : t190 = 0
              · rw [if_pos c11] at H
                have c11b0 : (t190 == 0) = true := beq_iff_eq.mpr c11
                have c11b1 : (t190 != 0) = false := bne_eq_false_iff_eq.mpr c11
                clear c11
                by_cases c12 : t189 = (-1)
                · rw [if_pos c12] at H
                  have c12b0 : (t189 == (-1)) = true := beq_iff_eq.mpr c12
                  have c12b1 : (t189 != (-1)) = false := bne_eq_false_iff_eq.mpr c12
                  clear c12
                  have H' := Aside0.mk H
                  clear H
                  go_wp2_with (first | ((with_reducible refine gate_callee (f := 13) rfl ?_); refine goesL_ (some 26) rfl rfl Try.func13 (by kernel_rfl) rfl #[.string x5_2] rfl (by (try simp only [List.map_toArray, List.map_cons, List.map_nil]); first | done | rfl | (simp only [List.length_drop, List.length_take]; rfl)) ?_; (with_reducible refine (number_Next.calls x5_2 t187 t188 _ A8.out).mono ?_); rintro e w13 ⟨rfl, hb⟩; refine ⟨_, rfl, ?_⟩; have n0_ := Aside0.mk (below_step (by repeat (first | (with_reducible first | exact HB.out | apply below_alloc | apply pw_below_drewN | apply below_drew1) | exact HB.out)) hb); clear HB; have HB := n0_; clear n0_; (try clear hb); (try clear hb2); (try clear hk); (try clear hi)) | ((with_reducible refine gate_callee (f := 10) rfl ?_); refine goesL_ (some 32) rfl rfl Try.func10 (by kernel_rfl) rfl #[.string x5_2, .string t187] rfl (by (try simp only [List.map_toArray, List.map_cons, List.map_nil]); first | done | rfl | (simp only [List.length_drop, List.length_take]; rfl)) ?_; (with_reducible refine (number_Cmp.calls k2 x5_2 t187 t189 t190 _ A9.out).mono ?_); rintro e w14 ⟨rfl, hb⟩; refine ⟨_, rfl, ?_⟩; have n0_ := Aside0.mk (below_step (by repeat (first | (with_reducible first | exact HB.out | apply below_alloc | apply pw_below_drewN | apply below_drew1) | exact HB.out)) hb); clear HB; have HB := n0_; clear n0_; (try clear hb); (try clear hb2); (try clear hk); (try clear hi)))
                  go_roundg k2
                  case measure => have := HJ2.out; have := HK2.out; omega
                  case rel => exact ⟨(t187), (wrap64 (x6_2 + 1)), (by first | rfl | (simp; done) | (simp [*]; done) | (simp [bne]; done)), (by first | rfl | (simp; done) | (simp [*]; done) | (simp [bne]; done)), H', ⟨by have := HJ2.out; have := HK2.out; omega⟩, ⟨by repeat (first | (with_reducible first | exact HB.out | apply below_alloc | apply pw_below_drewN | apply below_drew1) | exact HB.out)⟩⟩
                · rw [if_neg c12] at H
                  have c12b0 : (t189 == (-1)) = false := beq_eq_false_iff_ne.mpr c12
                  have c12b1 : (t189 != (-1)) = true := bne_iff_ne.mpr c12
                  obtain rfl := Option.some.inj H
                  go_wp2_with (first | ((with_reducible refine gate_callee (f := 13) rfl ?_); refine goesL_ (some 26) rfl rfl Try.func13 (by kernel_rfl) rfl #[.string x5_2] rfl (by (try simp only [List.map_toArray, List.map_cons, List.map_nil]); first | done | rfl | (simp only [List.length_drop, List.length_take]; rfl)) ?_; (with_reducible refine (number_Next.calls x5_2 t187 t188 _ A8.out).mono ?_); rintro e w15 ⟨rfl, hb⟩; refine ⟨_, rfl, ?_⟩; have n0_ := Aside0.mk (below_step (by repeat (first | (with_reducible first | exact HB.out | apply below_alloc | apply pw_below_drewN | apply below_drew1) | exact HB.out)) hb); clear HB; have HB := n0_; clear n0_; (try clear hb); (try clear hb2); (try clear hk); (try clear hi)) | ((with_reducible refine gate_callee (f := 10) rfl ?_); refine goesL_ (some 32) rfl rfl Try.func10 (by kernel_rfl) rfl #[.string x5_2, .string t187] rfl (by (try simp only [List.map_toArray, List.map_cons, List.map_nil]); first | done | rfl | (simp only [List.length_drop, List.length_take]; rfl)) ?_; (with_reducible refine (number_Cmp.calls k2 x5_2 t187 t189 t190 _ A9.out).mono ?_); rintro e w16 ⟨rfl, hb⟩; refine ⟨_, rfl, ?_⟩; have n0_ := Aside0.mk (below_step (by repeat (first | (with_reducible first | exact HB.out | apply below_alloc | apply pw_below_drewN | apply below_drew1) | exact HB.out)) hb); clear HB; have HB := n0_; clear n0_; (try clear hb); (try clear hb2); (try clear hk); (try clear hi)))
                  go_ret
                  exact ⟨by first | rfl | (simp [errW_none, errW_some] <;> rfl) | (simp [*, errW_none, errW_some] <;> rfl), by repeat (first | (with_reducible first | exact HB.out | apply below_alloc | apply pw_below_drewN | apply below_drew1) | exact HB.out)⟩
              · rw [if_neg c11] at H
                have c11b0 : (t190 == 0) = false := beq_eq_false_iff_ne.mpr c11
                have c11b1 : (t190 != 0) = true := bne_iff_ne.mpr c11
                obtain rfl := Option.some.inj H
                go_wp2_with (first | ((with_reducible refine gate_callee (f := 13) rfl ?_); refine goesL_ (some 26) rfl rfl Try.func13 (by kernel_rfl) rfl #[.string x5_2] rfl (by (try simp only [List.map_toArray, List.map_cons, List.map_nil]); first | done | rfl | (simp only [List.length_drop, List.length_take]; rfl)) ?_; (with_reducible refine (number_Next.calls x5_2 t187 t188 _ A8.out).mono ?_); rintro e w17 ⟨rfl, hb⟩; refine ⟨_, rfl, ?_⟩; have n0_ := Aside0.mk (below_step (by repeat (first | (with_reducible first | exact HB.out | apply below_alloc | apply pw_below_drewN | apply below_drew1) | exact HB.out)) hb); clear HB; have HB := n0_; clear n0_; (try clear hb); (try clear hb2); (try clear hk); (try clear hi)) | ((with_reducible refine gate_callee (f := 10) rfl ?_); refine goesL_ (some 32) rfl rfl Try.func10 (by kernel_rfl) rfl #[.string x5_2, .string t187] rfl (by (try simp only [List.map_toArray, List.map_cons, List.map_nil]); first | done | rfl | (simp only [List.length_drop, List.length_take]; rfl)) ?_; (with_reducible refine (number_Cmp.calls k2 x5_2 t187 t189 t190 _ A9.out).mono ?_); rintro e w18 ⟨rfl, hb⟩; refine ⟨_, rfl, ?_⟩; have n0_ := Aside0.mk (below_step (by repeat (first | (with_reducible first | exact HB.out | apply below_alloc | apply pw_below_drewN | apply below_drew1) | exact HB.out)) hb); clear HB; have HB := n0_; clear n0_; (try clear hb); (try clear hb2); (try clear hk); (try clear hi)))
                go_ret
                exact ⟨by first | rfl | (simp [errW_none, errW_some] <;> rfl) | (simp [*, errW_none, errW_some] <;> rfl), by repeat (first | (with_reducible first | exact HB.out | apply below_alloc | apply pw_below_drewN | apply below_drew1) | exact HB.out)⟩
            · rw [if_neg c10] at H
              have c10b0 : (t188 == 0) = false := beq_eq_false_iff_ne.mpr c10
              have c10b1 : (t188 != 0) = true := bne_iff_ne.mpr c10
              obtain rfl := Option.some.inj H
              go_wp2_with (first | ((with_reducible refine gate_callee (f := 13) rfl ?_); refine goesL_ (some 26) rfl rfl Try.func13 (by kernel_rfl) rfl #[.string x5_2] rfl (by (try simp only [List.map_toArray, List.map_cons, List.map_nil]); first | done | rfl | (simp only [List.length_drop, List.length_take]; rfl)) ?_; (with_reducible refine (number_Next.calls x5_2 t187 t188 _ A8.out).mono ?_); rintro e w19 ⟨rfl, hb⟩; refine ⟨_, rfl, ?_⟩; have n0_ := Aside0.mk (below_step (by repeat (first | (with_reducible first | exact HB.out | apply below_alloc | apply pw_below_drewN | apply below_drew1) | exact HB.out)) hb); clear HB; have HB := n0_; clear n0_; (try clear hb); (try clear hb2); (try clear hk); (try clear hi)) | ((with_reducible refine gate_callee (f := 10) rfl ?_); refine goesL_ (some 32) rfl rfl Try.func10 (by kernel_rfl) rfl #[.string x5_2, .string t187] rfl (by (try simp only [List.map_toArray, List.map_cons, List.map_nil]); first | done | rfl | (simp only [List.length_drop, List.length_take]; rfl)) ?_; (with_reducible refine (number_Cmp.calls k2 x5_2 t187 t189 t190 _ A9.out).mono ?_); rintro e w20 ⟨rfl, hb⟩; refine ⟨_, rfl, ?_⟩; have n0_ := Aside0.mk (below_step (by repeat (first | (with_reducible first | exact HB.out | apply below_alloc | apply pw_below_drewN | apply below_drew1) | exact HB.out)) hb); clear HB; have HB := n0_; clear n0_; (try clear hb); (try clear hb2); (try clear hk); (try clear hi)))
              go_ret
              exact ⟨by first | rfl | (simp [errW_none, errW_some] <;> rfl) | (simp [*, errW_none, errW_some] <;> rfl), by repeat (first | (with_reducible first | exact HB.out | apply below_alloc | apply pw_below_drewN | apply below_drew1) | exact HB.out)⟩
          · rw [if_neg c7] at H
            have c7b0 : decide (x6_2 < (wrap64 (Int.tmod a1 40))) = false := decide_eq_false c7
            clear c7
            replace H := Option.bind_eq_some_iff.mp H
            obtain ⟨t185, A210, H⟩ := H
            replace H : (if x5_2.toList = t185.toList then ((graftwoodlaw02_awake.f k2).bind fun t186 => (some t186)) else (some false)) = some r := H
            have A21 := Aside0.mk A210
            clear A210
            by_cases c22 : x5_2.toList = t185.toList
            · rw [if_pos c22] at H
              have c22b0 : (x5_2.toList == t185.toList) = true := beq_iff_eq.mpr c22
              have c22b1 : (x5_2.toList != t185.toList) = false := bne_eq_false_iff_eq.mpr c22
              clear c22
              replace H := Option.bind_eq_some_iff.mp H
              obtain ⟨t186, A230, H⟩ := H
              replace H : (some t186) = some r := H
              have A23 := Aside0.mk A230
              clear A230
              obtain rfl := Option.some.inj H
              go_wp2_with (first | ((with_reducible refine gate_callee (f := 14) rfl ?_); refine goesL_ (some 52) rfl rfl Try.func14 (by kernel_rfl) rfl #[.int .u64 (IntKind.u64.wrap (x0_2 + (IntKind.u64.wrap (Int.tmod a1 40))))] rfl (by (try simp only [List.map_toArray, List.map_cons, List.map_nil]); first | done | rfl | (simp only [List.length_drop, List.length_take]; rfl)) ?_; (with_reducible refine (number_Of.calls k2 (IntKind.u64.wrap (x0_2 + (IntKind.u64.wrap (Int.tmod a1 40)))) t185 _ A21.out).mono ?_); rintro e w24 ⟨rfl, hb⟩; refine ⟨_, rfl, ?_⟩; have n0_ := Aside0.mk (below_step (by repeat (first | (with_reducible first | exact HB.out | apply below_alloc | apply pw_below_drewN | apply below_drew1) | exact HB.out)) hb); clear HB; have HB := n0_; clear n0_; (try clear hb); (try clear hb2); (try clear hk); (try clear hi)) | (go_at_call 12; (with_reducible refine (graftwoodlaw02_awake.calls k2  t186 _ A23.out).mono ?_); rintro e w25 ⟨rfl, hb⟩; have n0_ := Aside0.mk (below_step (by repeat (first | (with_reducible first | exact HB.out | apply below_alloc | apply pw_below_drewN | apply below_drew1) | exact HB.out)) hb); clear HB; have HB := n0_; clear n0_; (try clear hb); (try clear hb2); (try clear hk); (try clear hi)))
              go_ret
              exact ⟨by first | rfl | (simp [errW_none, errW_some] <;> rfl) | (simp [*, errW_none, errW_some] <;> rfl), by repeat (first | (with_reducible first | exact HB.out | apply below_alloc | apply pw_below_drewN | apply below_drew1) | exact HB.out)⟩
            · rw [if_neg c22] at H
              have c22b0 : (x5_2.toList == t185.toList) = false := beq_eq_false_iff_ne.mpr c22
              have c22b1 : (x5_2.toList != t185.toList) = true := bne_iff_ne.mpr c22
              obtain rfl := Option.some.inj H
              go_wp2_with (first | ((with_reducible refine gate_callee (f := 14) rfl ?_); refine goesL_ (some 52) rfl rfl Try.func14 (by kernel_rfl) rfl #[.int .u64 (IntKind.u64.wrap (x0_2 + (IntKind.u64.wrap (Int.tmod a1 40))))] rfl (by (try simp only [List.map_toArray, List.map_cons, List.map_nil]); first | done | rfl | (simp only [List.length_drop, List.length_take]; rfl)) ?_; (with_reducible refine (number_Of.calls k2 (IntKind.u64.wrap (x0_2 + (IntKind.u64.wrap (Int.tmod a1 40)))) t185 _ A21.out).mono ?_); rintro e w26 ⟨rfl, hb⟩; refine ⟨_, rfl, ?_⟩; have n0_ := Aside0.mk (below_step (by repeat (first | (with_reducible first | exact HB.out | apply below_alloc | apply pw_below_drewN | apply below_drew1) | exact HB.out)) hb); clear HB; have HB := n0_; clear n0_; (try clear hb); (try clear hb2); (try clear hk); (try clear hi)))
              go_ret
              exact ⟨by first | rfl | (simp [errW_none, errW_some] <;> rfl) | (simp [*, errW_none, errW_some] <;> rfl), by repeat (first | (with_reducible first | exact HB.out | apply below_alloc | apply pw_below_drewN | apply below_drew1) | exact HB.out)⟩

/-- THE ONE PURE STATEMENT of graftwoodlaw02_NumberSteps: yours. -/
def graftwoodlaw02_NumberSteps.Pure : Prop := ∀ (a0 : Int) (a1 : Int), (Lit.int .u64 a0).wf = true → (Lit.int .u8 a1).wf = true → ∃ k, graftwoodlaw02_NumberSteps.f k a0 a1 = some true
theorem graftwoodlaw02_NumberSteps.walk (P : graftwoodlaw02_NumberSteps.Pure) (a0 : Int) (a1 : Int) (w : World) (w0 : (Lit.int .u64 a0).wf = true) (w1 : (Lit.int .u8 a1).wf = true) :
    Calls Try.prog 6 #[.int .u64 a0, .int .u8 a1] w fun e w' => e = .returned (.bool true) ∧ Below w.heap.size w w' := by
  obtain ⟨k, h⟩ := P a0 a1 w0 w1
  refine (graftwoodlaw02_NumberSteps.calls k a0 a1 true w h).mono ?_
  rintro e w' ⟨rfl, hd⟩
  exact ⟨rfl, hd⟩

/-! ### bits_Mul64: function 25 -/
def bits_Mul64.f (a0 : Int) (a1 : Int) : Option (Int × Int) := some (IntKind.u64.wrap ((IntKind.u64.wrap ((IntKind.u64.wrap ((a0 / 4294967296) * (a1 / 4294967296))) + ((IntKind.u64.wrap ((IntKind.u64.wrap ((a0 / 4294967296) * (Go.bits .and .u64 a1 4294967295))) + ((IntKind.u64.wrap ((Go.bits .and .u64 a0 4294967295) * (Go.bits .and .u64 a1 4294967295))) / 4294967296))) / 4294967296))) + ((IntKind.u64.wrap ((Go.bits .and .u64 (IntKind.u64.wrap ((IntKind.u64.wrap ((a0 / 4294967296) * (Go.bits .and .u64 a1 4294967295))) + ((IntKind.u64.wrap ((Go.bits .and .u64 a0 4294967295) * (Go.bits .and .u64 a1 4294967295))) / 4294967296))) 4294967295) + (IntKind.u64.wrap ((Go.bits .and .u64 a0 4294967295) * (a1 / 4294967296))))) / 4294967296)), IntKind.u64.wrap (a0 * a1))
set_option maxHeartbeats 8000000 in
set_option maxRecDepth 100000 in
theorem bits_Mul64.calls (a0 : Int) (a1 : Int) (r1 : Int) (r2 : Int) (w : World) (h : bits_Mul64.f a0 a1 = some (r1, r2)) :
    Calls Try.prog 25 #[.int .u64 a0, .int .u64 a1] w fun e w' => e = .returned (.tuple #[.int .u64 r1, .int .u64 r2]) ∧ Drawn0 w w' := by
  have H : (some (IntKind.u64.wrap ((IntKind.u64.wrap ((IntKind.u64.wrap ((a0 / 4294967296) * (a1 / 4294967296))) + ((IntKind.u64.wrap ((IntKind.u64.wrap ((a0 / 4294967296) * (Go.bits .and .u64 a1 4294967295))) + ((IntKind.u64.wrap ((Go.bits .and .u64 a0 4294967295) * (Go.bits .and .u64 a1 4294967295))) / 4294967296))) / 4294967296))) + ((IntKind.u64.wrap ((Go.bits .and .u64 (IntKind.u64.wrap ((IntKind.u64.wrap ((a0 / 4294967296) * (Go.bits .and .u64 a1 4294967295))) + ((IntKind.u64.wrap ((Go.bits .and .u64 a0 4294967295) * (Go.bits .and .u64 a1 4294967295))) / 4294967296))) 4294967295) + (IntKind.u64.wrap ((Go.bits .and .u64 a0 4294967295) * (a1 / 4294967296))))) / 4294967296)), IntKind.u64.wrap (a0 * a1))) = some (r1, r2) := h
  clear h
  simp only [Option.some.injEq, Prod.mk.injEq] at H
  obtain ⟨rfl, rfl⟩ := H
  go_enter Try.func25, Try.ntmps25
  go_wp2
  go_ret2
  exact ⟨by first | rfl | (simp; done) | (simp [*]; done) | (simp [bne]; done), by repeat (first | exact Drawn0.refl _ | apply Drawn0.step)⟩

/-! ### number_Value: function 15 -/
def number_Value.f (a0 : ByteArray) : Option (Int × Int) := if a0.size ≤ 140737488351232 then ((number_May.f a0).bind fun t0 => (some (Oct.valV t0 a0.data.toList, Oct.valE t0 a0.data.toList))) else (none)
theorem number_Value.mul10 (n : Int) (h0 : 0 ≤ n) (h1 : n < Oct.two64) : bits_Mul64.f n 10 = some (n * 10 / Oct.two64, n * 10 % Oct.two64) := by
  unfold bits_Mul64.f
  rw [Oct.mask32 n h0 h1, show Go.bits .and .u64 10 4294967295 = 10 by decide, show (10 : Int) / 4294967296 = 0 by decide]
  exact congrArg some (Prod.ext (Oct.mul10_hi n h0 h1) (by simp only [Oct.wrap_u64]; rfl))
theorem number_Value.digits {a0 : ByteArray} (h : number_May.f a0 = some true) : ∀ c ∈ a0.data.toList, 48 ≤ c.toNat ∧ c.toNat ≤ 57 := by
  unfold number_May.f at h
  split at h
  · exact absurd h (by simp)
  · obtain ⟨b, hb, h⟩ := Option.bind_eq_some_iff.mp h
    cases b with
    | false => exact absurd h (by simp)
    | true =>
      unfold octet_All.f at hb
      split at hb
      · exact Oct.okAll_digits (Option.some.inj hb)
      · exact absurd hb (by simp)
theorem number_Value.calls (a0 : ByteArray) (r1 : Int) (r2 : Int) (w : World) (h : number_Value.f a0 = some (r1, r2)) :
    Calls Try.prog 15 #[.string a0] w fun e w' => e = .returned (.tuple #[.int .u64 r1, .int .i64 r2]) ∧ Below w.heap.size w w' := by
  unfold number_Value.f at h
  by_cases hs : a0.size ≤ 140737488351232
  · rw [if_pos hs] at h
    obtain ⟨b, hb, h⟩ := Option.bind_eq_some_iff.mp h
    obtain ⟨rfl, rfl⟩ := Prod.mk.inj (Option.some.inj h)
    exact Oct.value_any a0 b w hs (fun w => number_May.calls a0 b w hb) (fun e => number_Value.digits (e ▸ hb)) (fun n w h0 h1 => bits_Mul64.calls n 10 _ _ w (number_Value.mul10 n h0 h1))
  · rw [if_neg hs] at h
    exact absurd h (by simp)

/-! ### graftwoodref02_digit: function 27 -/
def graftwoodref02_digit.f (a0 : Int) : Option (Int) := if a0 < 48 then (some (-1)) else (if a0 > 57 then (some (-1)) else (some (wrap64 ((wrap64 (a0)) - 48))))
set_option maxHeartbeats 8000000 in
set_option maxRecDepth 100000 in
theorem graftwoodref02_digit.calls (a0 : Int) (r : Int) (w : World) (h : graftwoodref02_digit.f a0 = some r) :
    Calls Try.prog 27 #[.int .u8 a0] w fun e w' => e = .returned (.int .i64 r) ∧ Drawn0 w w' := by
  have H : (if a0 < 48 then (some (-1)) else (if a0 > 57 then (some (-1)) else (some (wrap64 ((wrap64 (a0)) - 48))))) = some r := h
  clear h
  by_cases c2 : a0 < 48
  · rw [if_pos c2] at H
    have c2b0 : decide (a0 < 48) = true := decide_eq_true c2
    clear c2
    obtain rfl := Option.some.inj H
    go_enter Try.func27, Try.ntmps27
    go_wp2
    go_ret
    exact ⟨by first | rfl | (simp; done) | (simp [*]; done) | (simp [bne]; done), by repeat (first | exact Drawn0.refl _ | apply Drawn0.step)⟩
  · rw [if_neg c2] at H
    have c2b0 : decide (a0 < 48) = false := decide_eq_false c2
    clear c2
    by_cases c3 : a0 > 57
    · rw [if_pos c3] at H
      have c3b0 : decide (57 < a0) = true := decide_eq_true c3
      clear c3
      obtain rfl := Option.some.inj H
      go_enter Try.func27, Try.ntmps27
      go_wp2
      go_ret
      exact ⟨by first | rfl | (simp; done) | (simp [*]; done) | (simp [bne]; done), by repeat (first | exact Drawn0.refl _ | apply Drawn0.step)⟩
    · rw [if_neg c3] at H
      have c3b0 : decide (57 < a0) = false := decide_eq_false c3
      clear c3
      obtain rfl := Option.some.inj H
      go_enter Try.func27, Try.ntmps27
      go_wp2
      go_ret
      exact ⟨by first | rfl | (simp; done) | (simp [*]; done) | (simp [bne]; done), by repeat (first | exact Drawn0.refl _ | apply Drawn0.step)⟩

/-! ### graftwoodref02_May: function 17 -/
def graftwoodref02_May.l0 : Nat → ByteArray → Int → Option (Bool)
  | 0, _, _ => none
  | k + 1, x0, x3 => if x3 < (x0.size : Int) then (if 0 ≤ x3 then ((graftwoodref02_digit.f (bt x0 x3)).bind fun t191 => (if t191 < 0 then (some false) else (graftwoodref02_May.l0 k x0 (wrap64 (x3 + 1))))) else (none)) else (if (x0.size : Int) = 1 then (some true) else (if (x0.size : Int) > 1 then (if 0 < (x0.size : Int) then (some ((bt x0 0) != 48)) else (none)) else (some false)))
def graftwoodref02_May.f (k : Nat) (a0 : ByteArray) : Option (Bool) := graftwoodref02_May.l0 k a0 0
theorem graftwoodref02_May.mono_l : ∀ k, (∀ y0 y1, LeO (graftwoodref02_May.l0 k y0 y1) (graftwoodref02_May.l0 (k + 1) y0 y1))
  | 0 => fun _ _ r h => by simp [graftwoodref02_May.l0] at h
  | k + 1 => by
    have ih0 := graftwoodref02_May.mono_l k
    · intro y0 y1
      unfold graftwoodref02_May.l0
      repeat' first
      | (with_reducible exact ih0 _ _)
      | (with_reducible exact LeO.refl _)
      | (with_reducible exact LeO.none _)
      | (with_reducible refine LeO.ite ?_ ?_)
      | (with_reducible refine LeO.bind ?_ (fun _ => ?_))
      | exact ih0 _ _
      | exact LeO.none _
      | refine LeO.ite ?_ ?_
      | refine LeO.bind ?_ (fun _ => ?_)
theorem graftwoodref02_May.mono : ∀ a0 k, LeO (graftwoodref02_May.f k a0) (graftwoodref02_May.f (k + 1) a0) := by
  intro a0 k
  have ih0 := graftwoodref02_May.mono_l k
  unfold graftwoodref02_May.f
  repeat' first
      | (with_reducible exact ih0 _ _)
      | (with_reducible exact LeO.refl _)
      | (with_reducible exact LeO.none _)
      | (with_reducible refine LeO.ite ?_ ?_)
      | (with_reducible refine LeO.bind ?_ (fun _ => ?_))
      | exact ih0 _ _
      | exact LeO.none _
      | refine LeO.ite ?_ ?_
      | refine LeO.bind ?_ (fun _ => ?_)
set_option maxHeartbeats 8000000 in
set_option maxRecDepth 100000 in
theorem graftwoodref02_May.calls (k : Nat) (a0 : ByteArray) (r : Bool) (w : World) (h : graftwoodref02_May.f k a0 = some r) :
    Calls Try.prog 17 #[.string a0] w fun e w' => e = .returned (.bool r) ∧ Drawn0 w w' := by
  have H : (graftwoodref02_May.l0 k a0 0) = some r := h
  clear h
  have H' := Aside0.mk H
  clear H
  go_enter Try.func17, Try.ntmps17
  go_wp2
  go_loopg [3] k (fun kq v3 w' => ∃ (x3_1 : Int), v3 = .int .i64 x3_1 ∧ Aside0 (graftwoodref02_May.l0 kq a0 x3_1 = some r) ∧ Aside0 (kq ≤ k) ∧ Drawn0 w w')
  case atStart => exact ⟨(0), (by first | rfl | (simp; done) | (simp [*]; done) | (simp [bne]; done)), H', ⟨Nat.le_refl _⟩, by repeat (first | exact Drawn0.refl _ | apply Drawn0.step)⟩
  case round =>
    clear H'
    try clear c1
    obtain ⟨x3_1, rfl, HA, HK1, ⟨m1, rfl⟩⟩ := hrel
    cases gk with
    | zero => exact absurd HA.out (by simp [graftwoodref02_May.l0])
    | succ k1 =>
      have H := HA.out
      clear HA
      simp only [graftwoodref02_May.l0] at H
      by_cases c2 : x3_1 < (a0.size : Int)
      · rw [if_pos c2] at H
        have c2b0 : decide (x3_1 < (a0.size : Int)) = true := decide_eq_true c2
        (try (have c2n0 := c2b0; simp only [Int.ofNat_lt, Int.ofNat_le] at c2n0))
        clear c2
        by_cases c3 : 0 ≤ x3_1
        · rw [if_pos c3] at H
          have c3b0 : decide (0 ≤ x3_1) = true := decide_eq_true c3
          clear c3
          replace H := Option.bind_eq_some_iff.mp H
          obtain ⟨t191, A50, H⟩ := H
          replace H : (if t191 < 0 then (some false) else (graftwoodref02_May.l0 k1 a0 (wrap64 (x3_1 + 1)))) = some r := H
          have A5 := Aside0.mk A50
          clear A50
          by_cases c6 : t191 < 0
          · rw [if_pos c6] at H
            have c6b0 : decide (t191 < 0) = true := decide_eq_true c6
            clear c6
            obtain rfl := Option.some.inj H
            have p4 : 0 ≤ (x3_1 : Int) := of_decide_eq_true (by first | (with_reducible assumption) | assumption)
            have q4 : x3_1 < (a0.size : Int) := of_decide_eq_true (by first | (with_reducible assumption) | assumption)
            have hx4 := bt_at a0 x3_1
            replace p4 := eq_true p4
            replace q4 := eq_true q4
            go_wp2_with (first | ((with_reducible refine gate_callee (f := 27) rfl ?_); refine goesL_ (some 13) rfl rfl Try.func27 (by kernel_rfl) rfl #[.int .u8 (bt a0 x3_1)] rfl (by (try simp only [List.map_toArray, List.map_cons, List.map_nil]); first | done | rfl | (simp only [List.length_drop, List.length_take]; rfl)) ?_; (with_reducible refine (graftwoodref02_digit.calls (bt a0 x3_1) t191 _ A5.out).mono ?_); rintro e w' ⟨rfl, ⟨nd, rfl⟩⟩; refine ⟨_, rfl, ?_⟩))
            go_ret
            exact ⟨by first | rfl | (simp; done) | (simp [*]; done) | (simp [bne]; done), by repeat (first | exact Drawn0.refl _ | apply Drawn0.step)⟩
          · rw [if_neg c6] at H
            have c6b0 : decide (t191 < 0) = false := decide_eq_false c6
            clear c6
            have H' := Aside0.mk H
            clear H
            have p4 : 0 ≤ (x3_1 : Int) := of_decide_eq_true (by first | (with_reducible assumption) | assumption)
            have q4 : x3_1 < (a0.size : Int) := of_decide_eq_true (by first | (with_reducible assumption) | assumption)
            have hx4 := bt_at a0 x3_1
            replace p4 := eq_true p4
            replace q4 := eq_true q4
            go_wp2_with (first | ((with_reducible refine gate_callee (f := 27) rfl ?_); refine goesL_ (some 13) rfl rfl Try.func27 (by kernel_rfl) rfl #[.int .u8 (bt a0 x3_1)] rfl (by (try simp only [List.map_toArray, List.map_cons, List.map_nil]); first | done | rfl | (simp only [List.length_drop, List.length_take]; rfl)) ?_; (with_reducible refine (graftwoodref02_digit.calls (bt a0 x3_1) t191 _ A5.out).mono ?_); rintro e w' ⟨rfl, ⟨nd, rfl⟩⟩; refine ⟨_, rfl, ?_⟩))
            go_roundg k1
            case measure => have := HK1.out; omega
            case rel => exact ⟨(wrap64 (x3_1 + 1)), (by first | rfl | (simp; done) | (simp [*]; done) | (simp [bne]; done)), H', ⟨by have := HK1.out; omega⟩, by repeat (first | exact Drawn0.refl _ | apply Drawn0.step)⟩
        · rw [if_neg c3] at H
          exact absurd H (by simp)
      · rw [if_neg c2] at H
        have c2b0 : decide (x3_1 < (a0.size : Int)) = false := decide_eq_false c2
        (try (have c2n0 := c2b0; simp only [Int.ofNat_lt, Int.ofNat_le] at c2n0))
        clear c2
        by_cases c7 : (a0.size : Int) = 1
        · rw [if_pos c7] at H
          have c7b0 : ((a0.size : Int) == 1) = true := beq_iff_eq.mpr c7
          have c7b1 : ((a0.size : Int) != 1) = false := bne_eq_false_iff_eq.mpr c7
          (try (have c7n0 := c7b0; simp only [Int.ofNat_lt, Int.ofNat_le] at c7n0))
          (try (have c7n1 := c7b1; simp only [Int.ofNat_lt, Int.ofNat_le] at c7n1))
          clear c7
          obtain rfl := Option.some.inj H
          go_wp2
          go_ret
          exact ⟨by first | rfl | (simp; done) | (simp [*]; done) | (simp [bne]; done), by repeat (first | exact Drawn0.refl _ | apply Drawn0.step)⟩
        · rw [if_neg c7] at H
          have c7b0 : ((a0.size : Int) == 1) = false := beq_eq_false_iff_ne.mpr c7
          have c7b1 : ((a0.size : Int) != 1) = true := bne_iff_ne.mpr c7
          (try (have c7n0 := c7b0; simp only [Int.ofNat_lt, Int.ofNat_le] at c7n0))
          (try (have c7n1 := c7b1; simp only [Int.ofNat_lt, Int.ofNat_le] at c7n1))
          by_cases c8 : (a0.size : Int) > 1
          · rw [if_pos c8] at H
            have c8b0 : decide (1 < (a0.size : Int)) = true := decide_eq_true c8
            have c8b1 : decide (1 < a0.size) = true := decide_eq_true (by omega)
            (try (have c8n0 := c8b0; simp only [Int.ofNat_lt, Int.ofNat_le] at c8n0))
            (try (have c8n1 := c8b1; simp only [Int.ofNat_lt, Int.ofNat_le] at c8n1))
            clear c8
            by_cases c9 : 0 < (a0.size : Int)
            · rw [if_pos c9] at H
              have c9b0 : decide (0 < (a0.size : Int)) = true := decide_eq_true c9
              have c9b1 : decide (0 < a0.size) = true := decide_eq_true (by omega)
              (try (have c9n0 := c9b0; simp only [Int.ofNat_lt, Int.ofNat_le] at c9n0))
              (try (have c9n1 := c9b1; simp only [Int.ofNat_lt, Int.ofNat_le] at c9n1))
              clear c9
              obtain rfl := Option.some.inj H
              have p10 : 0 ≤ (0 : Int) := (by omega)
              have q10 : 0 < a0.size := (by have : (0 : Int) < (a0.size : Int) := of_decide_eq_true (by first | (with_reducible assumption) | assumption); omega)
              have hx10 : ∀ h : 0 < a0.size, ((a0[0]'h).toNat : Int) = bt a0 0 := bt_at a0 0
              clear p10
              have qi10 : (0 < (a0.size : Int)) = True := eq_true (of_decide_eq_true (by first | (with_reducible assumption) | assumption))
              replace q10 := eq_true q10
              go_wp2
              go_ret
              exact ⟨by first | rfl | (simp; done) | (simp [*]; done) | (simp [bne]; done), by repeat (first | exact Drawn0.refl _ | apply Drawn0.step)⟩
            · rw [if_neg c9] at H
              exact absurd H (by simp)
          · rw [if_neg c8] at H
            have c8b0 : decide (1 < (a0.size : Int)) = false := decide_eq_false c8
            have c8b1 : decide (1 < a0.size) = false := decide_eq_false (by omega)
            (try (have c8n0 := c8b0; simp only [Int.ofNat_lt, Int.ofNat_le] at c8n0))
            (try (have c8n1 := c8b1; simp only [Int.ofNat_lt, Int.ofNat_le] at c8n1))
            clear c8
            obtain rfl := Option.some.inj H
            go_wp2
            go_ret
            exact ⟨by first | rfl | (simp; done) | (simp [*]; done) | (simp [bne]; done), by repeat (first | exact Drawn0.refl _ | apply Drawn0.step)⟩

end Go.Proofs.Ytgldbbgcdpgbcaa.PAll
