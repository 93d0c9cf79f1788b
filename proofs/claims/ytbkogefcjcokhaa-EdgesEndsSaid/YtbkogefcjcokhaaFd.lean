/- The contracts of slices.BinarySearchFunc, slices.Clone and edges.find, walked by hand. -/
import Derived.Test.YtbkogefcjcokhaaEc
import Derived.Outline
import Derived.Lib.Hide
import Derived.StillTailTactics
import Derived.Deep.RegionHeld3
import Derived.Deep.QuietTactic
import Derived.BigQuiet
set_option linter.unusedVariables false
set_option linter.unusedSimpArgs false
namespace Go.Proofs.Ytbkogefcjcokhaa.Ed
open Go.RowKit Go.Proofs.Ytbkogefcjcokhaa.PAll Go.Proofs.Ytbkogefcjcokhaa.Nm Go.Proofs.YtbkogefcjcokhaaW.PrintWords

set_option maxHeartbeats 2000000 in
set_option maxRecDepth 100000 in
theorem bsf_any (A : Option Addr) (c : Nat) (l : List S33) (f t : Int) (w : World) (hl : l.length ≤ 1000) (hr : Kd.C k33 w A l.length l) (hc : l.length ≤ c) (hs : l.Pairwise klt) :
    Calls Try.prog 35 #[.slice A l.length c, .agg #[.int .i64 f, .int .i64 t, .int .i64 0], .func (.func 31) #[] #[]] w fun e w' => e = .returned (.tuple #[.int .i64 (idx l f t), .bool (there l f t)]) ∧ Below w.heap.size w w' := by
  have HR := Aside0.mk hr
  have HS := Lib.hid hs
  clear hr hs
  have hu33 := Try.underlying33
  go_enter Try.func35, Try.ntmps35
  go_wp2
  go_outline
  go_loopw [9, 10] (fun vi vj wr => ∃ i j : Nat, vi = .int .i64 i ∧ vj = .int .i64 j ∧ Hid (i ≤ idx l f t ∧ idx l f t ≤ j) ∧ j ≤ l.length ∧ Hid (wr.heap[w.heap.size]? = some (.cells #[.int .i64 f, .int .i64 t, .int .i64 0] 33 (0, 0))) ∧ Hid (Below w.heap.size w wr)) (fun vi vj _ => (intOf vj - intOf vi).toNat)
  case atStart => exact ⟨0, l.length, rfl, rfl, ⟨by omega, idx_le l f t⟩, by omega, heap_alloc_new w _, (Below.refl _ _).alloc (Nat.le_refl _) _⟩
  case round =>
    obtain ⟨i, j, rfl, rfl, hij, hjn, hbx, hbl⟩ := hrel
    by_cases hlt : i < j
    · obtain ⟨h, hh⟩ : ∃ h : Nat, h = (i + j) / 2 := ⟨_, rfl⟩
      have hh1 : i ≤ h := by omega
      have hh2 : h < j := by omega
      have HH := Lib.hid hh
      clear hh
      go_upto_region 5 with (fail)
      rw [show ((i : Int) + (j : Int)) / 2 = (h : Int) by have := HH.out; omega]
      obtain ⟨ad, rfl, h0, h1, h2⟩ := at_T33 (Kd.C_below HR.out hbl.out) (h : Int) (by omega) (by omega)
      rw [Int.toNat_natCast] at h0 h1 h2
      rw [rd_nat l h (by omega)] at h0 h1 h2
      have b0 := (cell_of_row wr _ 0 _ 33 (0, 0) hbx.out).trans rfl
      have b1 := (cell_of_row wr _ 1 _ 33 (0, 0) hbx.out).trans rfl
      have b2 := (cell_of_row wr _ 2 _ 33 (0, 0) hbx.out).trans rfl
      have HO : Aside0 (∀ w : World, Calls Try.prog 31 #[.agg #[.int .i64 l[h].f0, .int .i64 l[h].f1, .int .i64 l[h].f2], .agg #[.int .i64 f, .int .i64 t, .int .i64 0]] w fun e w' => e = .returned (.int .i64 (ord l[h] (pr f t))) ∧ Below w.heap.size w w') := ⟨fun w => order_any l[h] (pr f t) w⟩
      have hcase : Hid ((ord l[h] (pr f t) < 0 ∧ h + 1 ≤ idx l f t) ∨ (0 ≤ ord l[h] (pr f t) ∧ idx l f t ≤ h)) := by
        by_cases hk : klt l[h] (pr f t)
        · refine .inl ⟨ord_neg.2 hk, ?_⟩
          rcases Nat.lt_or_ge h (idx l f t) with q | q
          · exact q
          · exact absurd hk (idx_ge HS.out f t q (by omega))
        · refine .inr ⟨ord_ge.2 hk, ?_⟩
          rcases Nat.lt_or_ge h (idx l f t) with q | q
          · exact absurd (idx_lt f t q (by omega)) hk
          · exact q
      have hbd : h < l.length := by omega
      obtain ⟨W, hW⟩ : ∃ W : World, W = { heap := wr.heap, tape := wr.tape, drawn := wr.drawn + 1, os := wr.os, output := wr.output } := ⟨_, rfl⟩
      have hcW : ∀ a, W.cell? a = wr.cell? a := fun a => by rw [hW]; rfl
      have hbW := Lib.hid (show Below w.heap.size w W by rw [hW]; exact ⟨hbl.out.os, hbl.out.tape, hbl.out.output, hbl.out.size, hbl.out.block⟩)
      have hxW := Lib.hid (show W.heap[w.heap.size]? = some (.cells #[.int .i64 f, .int .i64 t, .int .i64 0] 33 (0, 0)) by rw [hW]; exact hbx.out)
      rw [← hcW] at h0 h1 h2 b0 b1 b2
      have HW := Lib.hid hW
      clear hW hcW
      refine wp_region_still_tail 6 (by kernel_rfl) (by kernel_rfl) ?_
      simp only [List.take_succ_cons, List.take_zero, List.drop_succ_cons, List.drop_zero]
      rw [← HW.out]
      repeat still_step
      refine wpStill_nil ?_
      go_wp2_with fail
      refine (HO.out W).mono ?_
      rintro e w2 ⟨rfl, hb2⟩
      have HBX := Lib.hid ((hb2.block w.heap.size (blk_lt hxW.out)).trans hxW.out)
      have HBL := Lib.hid (below_then hbW.out hbW.out.size hb2)
      clear hb2 HO hxW hbW HW h0 h1 h2 b0 b1 b2
      generalize ord l[h] (pr f t) = o at *
      rcases hcase.out with ⟨ho, hi⟩ | ⟨ho, hi⟩
      · have HI := Lib.hid hi
        clear hi hcase
        go_wp2
        go_roundw
        case rel => exact ⟨h + 1, j, by go_num, rfl, ⟨HI.out, hij.out.2⟩, hjn, HBX, HBL⟩
        case measure => simp [intOf]; omega
      · have HI := Lib.hid hi
        clear hi hcase
        go_wp2
        go_roundw
        case rel => exact ⟨i, h, rfl, rfl, ⟨hij.out.1, HI.out⟩, by omega, HBX, HBL⟩
        case measure => simp [intOf]; omega
    · have hji : i = j := by have := hij.out; omega
      have hix : i = idx l f t := by have := hij.out; omega
      clear hlt hij
      subst hji
      by_cases hn : i < l.length
      · obtain ⟨ad, rfl, h0, h1, h2⟩ := at_T33 (Kd.C_below HR.out hbl.out) (i : Int) (by omega) (by omega)
        rw [Int.toNat_natCast] at h0 h1 h2
        rw [rd_nat l i hn] at h0 h1 h2
        have b0 := (cell_of_row wr _ 0 _ 33 (0, 0) hbx.out).trans rfl
        have b1 := (cell_of_row wr _ 1 _ 33 (0, 0) hbx.out).trans rfl
        have b2 := (cell_of_row wr _ 2 _ 33 (0, 0) hbx.out).trans rfl
        have HO : Aside0 (∀ w : World, Calls Try.prog 31 #[.agg #[.int .i64 l[i].f0, .int .i64 l[i].f1, .int .i64 l[i].f2], .agg #[.int .i64 f, .int .i64 t, .int .i64 0]] w fun e w' => e = .returned (.int .i64 (ord l[i] (pr f t))) ∧ Below w.heap.size w w') := ⟨fun w => order_any l[i] (pr f t) w⟩
        have hth : Hid (there l f t = (ord l[i] (pr f t) == 0)) := by
          unfold Hid there
          rw [← hix, List.getElem?_eq_getElem hn, Bool.eq_iff_iff, decide_eq_true_eq, beq_iff_eq, ord_zero]
          exact ⟨fun ⟨e, he, hp⟩ => by obtain rfl := Option.some.inj he; exact hp, fun hp => ⟨_, rfl, hp⟩⟩
        have HIX := Lib.hid hix
        clear hix hbx
        go_upto_region 8 with (fail)
        go_region_held3 (fun w' => w'.cell? (ad.add (i * 3)) = some (.int .i64 l[i].f0) ∧ w'.cell? ⟨(ad.add (i * 3)).block, (ad.add (i * 3)).off + 1, none⟩ = some (.int .i64 l[i].f1) ∧ w'.cell? ⟨(ad.add (i * 3)).block, (ad.add (i * 3)).off + 2, none⟩ = some (.int .i64 l[i].f2) ∧ w'.cell? ⟨w.heap.size, 0, none⟩ = some (.int .i64 f) ∧ w'.cell? ⟨w.heap.size, 1, none⟩ = some (.int .i64 t) ∧ w'.cell? ⟨w.heap.size, 2, none⟩ = some (.int .i64 0)) (first | exact ⟨h0, h1, h2, b0, b1, b2⟩ | exact ⟨pw_cell_below hb2 h0, pw_cell_below hb2 h1, pw_cell_below hb2 h2, pw_cell_below hb2 b0, pw_cell_below hb2 b1, pw_cell_below hb2 b2⟩)
          (first | (go_at_call 31; refine (HO.out _).mono ?_; rintro e w2 ⟨rfl, hb2⟩))
        have HBL := Lib.hid (below_then hbl.out hbl.out.size (show Below wr.heap.size wr w2 from ⟨hb2.os, hb2.tape, hb2.output, hb2.size, hb2.block⟩))
        clear hb2 HO h0 h1 h2 b0 b1 b2
        go_wp2
        go_ret2
        exact ⟨by rw [hth.out, ← HIX.out]; rfl, HBL.out⟩
      · have hth : Hid (there l f t = false) := by
          unfold Hid there
          rw [← hix, List.getElem?_eq_none (by omega)]
          simp
        have HIX := Lib.hid hix
        have hn' : decide ((i : Int) < (l.length : Int)) = false := by simp; omega
        have hn2 : decide (i < l.length) = false := by simp; omega
        have hil : i = l.length := by omega
        clear hix hbx
        go_upto_region 8 with (fail)
        subst hil
        go_quiet (fail)
        go_wp2
        go_ret2
        exact ⟨by rw [hth.out, ← HIX.out]; rfl, pw_below_drewN hbl.out _⟩
end Go.Proofs.Ytbkogefcjcokhaa.Ed
