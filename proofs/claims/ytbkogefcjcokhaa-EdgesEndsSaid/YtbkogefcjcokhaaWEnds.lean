/- EdgesEnds, walked by hand. -/
import Derived.Test.YtbkogefcjcokhaaEo
import Derived.Test.YtbkogefcjcokhaaEp
import Derived.Deep.RegionHeld3
set_option linter.unusedVariables false
set_option linter.unusedSimpArgs false
namespace Go.Proofs.Ytbkogefcjcokhaa.Ed
open Go.RowKit Go.Proofs.Ytbkogefcjcokhaa.PAll Go.Proofs.Ytbkogefcjcokhaa.Nm Go.Proofs.YtbkogefcjcokhaaW.PrintWords

theorem Rg.take {l : List S33} (h : Rg l) (i : Nat) : Rg (l.take i) := fun e he => h e (List.mem_of_mem_take he)
theorem addL_one (l : List S33) (f t : Int) : (addL l f t).length ≤ l.length + 1 := by
  induction l with
  | nil => simp [addL]
  | cons e l ih => rw [addL]; split; · simp
                   · split <;> simp <;> omega
theorem isNum_rg {l : List S33} (h : Rg l) {x : Int} (hx : isNum l x) : -9223372036854775808 ≤ x ∧ x ≤ 9223372036854775807 := by
  obtain ⟨e, he, hx⟩ := hx
  have := h e he
  rcases hx with rfl | rfl
  · exact this.1
  · exact this.2
theorem Rg.addL {l : List S33} (h : Rg l) {f t : Int} (hf : -9223372036854775808 ≤ f ∧ f ≤ 9223372036854775807) (ht : -9223372036854775808 ≤ t ∧ t ≤ 9223372036854775807) : Rg (addL l f t) := by
  intro e he
  rcases mem_addL he with he | he
  · exact h e he
  · unfold isP at he
    rw [he.1, he.2]
    exact ⟨hf, ht⟩
/-- One more pair, of numbers that are there: as many ends, or the pair is there too often. -/
theorem add_ends {k : List S33} (h : Ok k) (hrg : Rg k) {f t : Int} (hf : f = -1 ∨ isNum k f) (hf0 : -1 ≤ f) (ht : isNum k t) (ht0 : 0 ≤ t) :
    (addO k f t).length ≤ k.length + 1 ∧ Rg (addO k f t) ∧ endsE (addO k f t) = 0 ∧ ((addE k f t = 0 ∧ endsO (addO k f t) = endsN k) ∨ addE k f t = 4) := by
  by_cases hm : many k f t = most
  · have he := addE_large ⟨h, hf0, ht0⟩ hm
    rw [addO_bad (by rw [he]; decide)]
    refine ⟨by simp, fun e he => by simp at he, ?_, .inr he⟩
    unfold endsE
    rw [if_pos Ok.nil]
  · have he := addE_ok ⟨h, hf0, ht0⟩ hm
    have hok := addL_ok k h f t hf0 ht0 (by have := many_range h f t; omega)
    rw [addO_ok he]
    have htr := isNum_rg hrg ht
    have hfr : -9223372036854775808 ≤ f ∧ f ≤ 9223372036854775807 := by
      rcases hf with rfl | hf
      · omega
      · exact isNum_rg hrg hf
    refine ⟨addL_one k f t, hrg.addL hfr htr, ?_, .inl ⟨he, ?_⟩⟩
    · unfold endsE
      rw [if_pos hok]
    · unfold endsO
      rw [if_pos hok, ends_addL h hok hf (.inr ht)]

set_option maxHeartbeats 4000000 in
set_option maxRecDepth 100000 in
theorem ends_law_any (v : Value) (l : List S33) (a : Int) (w : World) (hr : Rd w v l) (hrg : Rg l) (ha : 0 ≤ a ∧ a ≤ 255) :
    Calls Try.prog 6 #[v, .int .u8 a] w fun e w' => e = .returned (.bool true) ∧ Below w.heap.size w w' := by
  have HR := Lib.hid hr
  obtain ⟨k, hk⟩ : ∃ k, k = l.take 40 := ⟨_, rfl⟩
  have hkl : k.length ≤ 40 := by rw [hk, List.length_take]; omega
  have HRG := Lib.hid (show Rg k by rw [hk]; exact hrg.take 40)
  have HK := Lib.hid hk
  clear hr hk hrg
  go_enter Try.func6, Try.ntmps6
  go_wp2_with fail
  refine (few_rd HR.out).mono ?_
  rintro e w1 ⟨v1, rfl, hr1, hb1⟩
  rw [← HK.out] at hr1
  have HR1 := Lib.hid hr1
  have HB1 := Lib.hid hb1
  clear hr1 hb1 HR
  go_wp2_with fail
  refine (ends_rd HR1.out (by omega) HRG.out).mono ?_
  rintro e w2 ⟨rfl, hb1⟩
  have HB2 := Lib.hid (below_step HB1.out hb1)
  have HR2 := Lib.hid (HR1.out.below hb1)
  clear hb1 HR1
  unfold endsO endsE
  by_cases hok : Ok k
  · rw [if_pos hok, if_pos hok]
    have hle := endsN_le hok
    have hze := endsN_zero hok
    have HOK := Lib.hid hok
    obtain ⟨n, hn⟩ : ∃ n, n = endsN k := ⟨_, rfl⟩
    rw [← hn] at hle hze ⊢
    have HN := Lib.hid hn
    have hw2 : IntKind.i64.wrap (2 * (k.length : Int)) = 2 * (k.length : Int) := by rw [IntKind.wrap_i64]; omega
    clear hok hn
    obtain ⟨A, c, rfl, hc, hA, hrr⟩ := HR2.out
    by_cases hk0 : k.length = 0
    · have hn0 : n = 0 := hze.2 hk0
      have hkn : k = [] := List.eq_nil_of_length_eq_zero hk0
      subst hn0
      clear hrr hze hle
      go_wp2_with fail
      refine (awake_any _).mono ?_
      rintro e w9 ⟨rfl, hb1⟩
      have HB9 := Lib.hid (below_step HB2.out hb1)
      clear hb1
      go_wp2_with fail
      go_ret
      exact ⟨rfl, HB9.out⟩
    · have hn0 : ¬ n = 0 := fun q => hk0 (hze.1 q)
      have e1 : ((n : Int) == 0) = false := by rw [beq_eq_false_iff_ne]; omega
      have e2 : ((k.length : Int) == 0) = false := by rw [beq_eq_false_iff_ne]; omega
      obtain ⟨i, hi⟩ : ∃ i : Nat, i = a.toNat % k.length := ⟨_, rfl⟩
      obtain ⟨j, hj⟩ : ∃ j : Nat, j = (a.toNat / 2) % k.length := ⟨_, rfl⟩
      have hik : i < k.length := by rw [hi]; exact Nat.mod_lt _ (by omega)
      have hjk : j < k.length := by rw [hj]; exact Nat.mod_lt _ (by omega)
      have hx1 : (IntKind.i64.wrap a).tmod (k.length : Int) = (i : Int) := by
        have : IntKind.i64.wrap a = a := by rw [IntKind.wrap_i64]; omega
        rw [this, Int.tmod_eq_emod_of_nonneg ha.1, hi, Int.natCast_emod, Int.toNat_of_nonneg ha.1]
      have hx1b : a % (k.length : Int) = (i : Int) := by rw [hi, Int.natCast_emod, Int.toNat_of_nonneg ha.1]
      have hx2 : a / 2 % (k.length : Int) = (j : Int) := by rw [hj, Int.natCast_emod, Int.natCast_ediv, Int.toNat_of_nonneg ha.1]; rfl
      have hq0 : a.tdiv 2 = a / 2 := Int.tdiv_eq_ediv_of_nonneg ha.1
      have hq1 : IntKind.u8.wrap (a / 2) = a / 2 := by rw [IntKind.wrap_u8]; omega
      have hq2 : IntKind.i64.wrap (a / 2) = a / 2 := by rw [IntKind.wrap_i64]; omega
      have hq3 : (a / 2).tmod (k.length : Int) = (j : Int) := by rw [Int.tmod_eq_emod_of_nonneg (by omega), hx2]
      have hi0 : (0 : Int) ≤ (i : Int) := by omega
      have hi1 : (i : Int) < (k.length : Int) := by omega
      have hj0 : (0 : Int) ≤ (j : Int) := by omega
      have hj1 : (j : Int) < (k.length : Int) := by omega
      obtain ⟨ad, rfl, c0, c1, c2⟩ := at_T33 hrr (i : Int) (by omega) (by omega)
      obtain ⟨ad', he, d0, d1, d2⟩ := at_T33 hrr (j : Int) (by omega) (by omega)
      obtain rfl := Option.some.inj he
      rw [Int.toNat_natCast, rd_nat k i hik] at c0 c1 c2
      rw [Int.toNat_natCast, rd_nat k j hjk] at d0 d1 d2
      obtain ⟨x, hx⟩ : ∃ x, x = k[i] := ⟨_, rfl⟩
      obtain ⟨y, hy⟩ : ∃ y, y = k[j] := ⟨_, rfl⟩
      rw [← hx] at c0 c1 c2
      rw [← hy] at d0 d1 d2
      have HX := Lib.hid (show x ∈ k by rw [hx]; exact List.getElem_mem hik)
      have HY := Lib.hid (show y ∈ k by rw [hy]; exact List.getElem_mem hjk)
      have hadl : ad.block < w2.heap.size := by have := cell_lt c0; unfold Addr.add at this; split at this <;> simpa using this
      have HXN := Lib.hid (show isNum k x.f1 from ⟨x, HX.out, .inr rfl⟩)
      have HYN := Lib.hid (show isNum k y.f1 from ⟨y, HY.out, .inr rfl⟩)
      have HX0 := Lib.hid (show 0 ≤ x.f1 by have := HOK.out.1 x HX.out; unfold okE at this; omega)
      have HY0 := Lib.hid (show 0 ≤ y.f1 by have := HOK.out.1 y HY.out; unfold okE at this; omega)
      have HEA := Lib.hid (add_ends HOK.out HRG.out (.inr HXN.out) (by have := HX0.out; omega) HYN.out HY0.out)
      have HEB := Lib.hid (add_ends HOK.out HRG.out (f := -1) (.inl rfl) (by omega) HXN.out HX0.out)
      have ne0 := World.new_ne w2 _ c0
      have ne1 := World.new_ne w2 _ c1
      have ne2 := World.new_ne w2 _ c2
      have nf0 := World.new_ne w2 _ d0
      have nf1 := World.new_ne w2 _ d1
      have nf2 := World.new_ne w2 _ d2
      clear hi hj hx hy
      clear hrr hze
      go_wp2_with fail
      go_region_held3 (fun w' => w'.cell? (ad.add (i * 3)) = some (.int .i64 x.f0) ∧ w'.cell? ⟨(ad.add (i * 3)).block, (ad.add (i * 3)).off + 1, none⟩ = some (.int .i64 x.f1) ∧ w'.cell? ⟨(ad.add (i * 3)).block, (ad.add (i * 3)).off + 2, none⟩ = some (.int .i64 x.f2) ∧ w'.cell? (ad.add (j * 3)) = some (.int .i64 y.f0) ∧ w'.cell? ⟨(ad.add (j * 3)).block, (ad.add (j * 3)).off + 1, none⟩ = some (.int .i64 y.f1) ∧ w'.cell? ⟨(ad.add (j * 3)).block, (ad.add (j * 3)).off + 2, none⟩ = some (.int .i64 y.f2)) (go_keep) (first | fail)
      · obtain ⟨W, hW⟩ : ∃ W, W = ((w2.alloc (.cells #[.int .i64 x.f0, .int .i64 x.f1, .int .i64 x.f2] 33)).alloc (.cells #[.int .i64 y.f0, .int .i64 y.f1, .int .i64 y.f2] 33)).drew := ⟨_, rfl⟩
        have hs1 : (w2.alloc (.cells #[.int .i64 x.f0, .int .i64 x.f1, .int .i64 x.f2] 33)).heap.size = w2.heap.size + 1 := Array.size_push _
        have cp : W.cell? ⟨w2.heap.size, 1, none⟩ = some (.int .i64 x.f1) := by
          rw [hW]
          show ((w2.alloc (.cells #[.int .i64 x.f0, .int .i64 x.f1, .int .i64 x.f2] 33)).alloc (.cells #[.int .i64 y.f0, .int .i64 y.f1, .int .i64 y.f2] 33)).cell? ⟨w2.heap.size, 1, none⟩ = some (.int .i64 x.f1)
          exact pw_cell_below ((Below.refl _ (w2.alloc (.cells #[.int .i64 x.f0, .int .i64 x.f1, .int .i64 x.f2] 33))).alloc (Nat.le_refl _) _) ((cell_of_row (w2.alloc (.cells #[.int .i64 x.f0, .int .i64 x.f1, .int .i64 x.f2] 33)) _ 1 _ 33 (0, 0) (heap_alloc_new w2 _)).trans rfl)
        have cq : W.cell? ⟨w2.heap.size + 1, 1, none⟩ = some (.int .i64 y.f1) := by
          rw [hW, ← hs1]
          exact (cell_of_row ((w2.alloc (.cells #[.int .i64 x.f0, .int .i64 x.f1, .int .i64 x.f2] 33)).alloc (.cells #[.int .i64 y.f0, .int .i64 y.f1, .int .i64 y.f2] 33)) _ 1 _ 33 (0, 0) (heap_alloc_new (w2.alloc (.cells #[.int .i64 x.f0, .int .i64 x.f1, .int .i64 x.f2] 33)) _)).trans rfl
        have hbW : Below w2.heap.size w2 W := by rw [hW]; exact (((Below.refl _ w2).alloc (Nat.le_refl _) _).alloc (by rw [hs1]; omega) _).drew
        rw [← hW]
        have HR3 := Lib.hid (HR2.out.below hbW)
        have HB3 := Lib.hid (below_step HB2.out hbW)
        have CP := Lib.hid cp
        have CQ := Lib.hid cq
        clear hW hs1 hbW c0 c1 c2 d0 d1 d2 ne0 ne1 ne2 nf0 nf1 nf2 HX HY hadl
        go_wp2_with fail
        refine (add_rd HR3.out (by omega) x.f1 y.f1).mono ?_
        rintro e w4 ⟨va, rfl, ho, hb⟩
        have HB4 := Lib.hid (below_step HB3.out hb)
        have HR4 := Lib.hid (HR3.out.below hb)
        have CP4 := Lib.hid (pw_cell_below hb cp)
        have CQ4 := Lib.hid (pw_cell_below hb cq)
        have HA4 := Lib.hid ho.rd
        clear hb ho HR3 cp cq CP CQ
        obtain ⟨A, hA1⟩ : ∃ A, A = addO k x.f1 y.f1 := ⟨_, rfl⟩
        obtain ⟨EA, hEA1⟩ : ∃ E, E = addE k x.f1 y.f1 := ⟨_, rfl⟩
        obtain ⟨qa1, qa2, qa3, qa4⟩ := HEA.out
        have HA4 := HA4.out
        rw [← hA1] at HA4 qa1 qa2 qa3 qa4
        rw [← hEA1] at qa4 ⊢
        have HA4 := Lib.hid HA4
        have QA2 := Lib.hid qa2
        have QA4 := Lib.hid qa4
        obtain ⟨MA, hMA⟩ : ∃ M, M = endsO A := ⟨_, rfl⟩
        have HMA := Lib.hid hMA
        have HQA3 := Lib.hid qa3
        clear hA1 hEA1 qa2 qa3 qa4 hMA
        go_wp2_with fail
        refine (ends_rd HA4.out (by omega) QA2.out).mono ?_
        rintro e w5 ⟨rfl, hb⟩
        rw [← HMA.out, HQA3.out]
        have HB5 := Lib.hid (below_step HB4.out hb)
        have HR5 := Lib.hid (HR4.out.below hb)
        have cx5 := pw_cell_below hb CP4.out
        clear hb HR4 HA4 CP4 CQ4
        go_wp2_with fail
        refine (add_rd HR5.out (by omega) (-1) x.f1).mono ?_
        rintro e w6 ⟨vb, rfl, ho, hb⟩
        have HB6 := Lib.hid (below_step HB5.out hb)
        have HA6 := Lib.hid ho.rd
        clear hb ho HR5 cx5
        obtain ⟨B, hB1⟩ : ∃ A, A = addO k (-1) x.f1 := ⟨_, rfl⟩
        obtain ⟨EB, hEB1⟩ : ∃ E, E = addE k (-1) x.f1 := ⟨_, rfl⟩
        obtain ⟨qb1, qb2, qb3, qb4⟩ := HEB.out
        have HA6 := HA6.out
        rw [← hB1] at HA6 qb1 qb2 qb3 qb4
        rw [← hEB1] at qb4 ⊢
        have HA6 := Lib.hid HA6
        have QB2 := Lib.hid qb2
        have QB4 := Lib.hid qb4
        obtain ⟨MB, hMB⟩ : ∃ M, M = endsO B := ⟨_, rfl⟩
        have HMB := Lib.hid hMB
        have HQB3 := Lib.hid qb3
        clear hB1 hEB1 qb2 qb3 qb4 hMB
        go_wp2_with fail
        refine (ends_rd HA6.out (by omega) QB2.out).mono ?_
        rintro e w7 ⟨rfl, hb⟩
        rw [← HMB.out, HQB3.out]
        have HB7 := Lib.hid (below_step HB6.out hb)
        clear hb HA6
        rcases QA4.out with ⟨ha, hma⟩ | ha
        · rcases QB4.out with ⟨hb, hmb⟩ | hb
          · have hma' : MA = (n : Int) := by rw [HMA.out, hma, HN.out]
            have hmb' : MB = (n : Int) := by rw [HMB.out, hmb, HN.out]
            clear HMA HMB QA4 QB4 hma hmb
            subst ha hb hma' hmb'
            go_wp2_with fail
            refine (awake_any _).mono ?_
            rintro e w9 ⟨rfl, hb1⟩
            have HB9 := Lib.hid (below_step HB7.out hb1)
            clear hb1
            go_wp2_with fail
            go_ret
            exact ⟨rfl, HB9.out⟩
          · clear HMA HMB QA4 QB4 hma
            subst ha hb
            go_wp2_with fail
            refine (awake_any _).mono ?_
            rintro e w9 ⟨rfl, hb1⟩
            have HB9 := Lib.hid (below_step HB7.out hb1)
            clear hb1
            go_wp2_with fail
            go_ret
            exact ⟨rfl, HB9.out⟩
        · clear HMA HMB QA4 QB4
          subst ha
          go_wp2_with fail
          refine (awake_any _).mono ?_
          rintro e w9 ⟨rfl, hb1⟩
          have HB9 := Lib.hid (below_step HB7.out hb1)
          clear hb1
          go_wp2_with fail
          go_ret
          exact ⟨rfl, HB9.out⟩
      · obtain ⟨W, hW⟩ : ∃ W, W = ((w2.alloc (.cells #[.int .i64 y.f0, .int .i64 y.f1, .int .i64 y.f2] 33)).alloc (.cells #[.int .i64 x.f0, .int .i64 x.f1, .int .i64 x.f2] 33)).drew := ⟨_, rfl⟩
        have hs1 : (w2.alloc (.cells #[.int .i64 y.f0, .int .i64 y.f1, .int .i64 y.f2] 33)).heap.size = w2.heap.size + 1 := Array.size_push _
        have cp : W.cell? ⟨w2.heap.size, 1, none⟩ = some (.int .i64 y.f1) := by
          rw [hW]
          show ((w2.alloc (.cells #[.int .i64 y.f0, .int .i64 y.f1, .int .i64 y.f2] 33)).alloc (.cells #[.int .i64 x.f0, .int .i64 x.f1, .int .i64 x.f2] 33)).cell? ⟨w2.heap.size, 1, none⟩ = some (.int .i64 y.f1)
          exact pw_cell_below ((Below.refl _ (w2.alloc (.cells #[.int .i64 y.f0, .int .i64 y.f1, .int .i64 y.f2] 33))).alloc (Nat.le_refl _) _) ((cell_of_row (w2.alloc (.cells #[.int .i64 y.f0, .int .i64 y.f1, .int .i64 y.f2] 33)) _ 1 _ 33 (0, 0) (heap_alloc_new w2 _)).trans rfl)
        have cq : W.cell? ⟨w2.heap.size + 1, 1, none⟩ = some (.int .i64 x.f1) := by
          rw [hW, ← hs1]
          exact (cell_of_row ((w2.alloc (.cells #[.int .i64 y.f0, .int .i64 y.f1, .int .i64 y.f2] 33)).alloc (.cells #[.int .i64 x.f0, .int .i64 x.f1, .int .i64 x.f2] 33)) _ 1 _ 33 (0, 0) (heap_alloc_new (w2.alloc (.cells #[.int .i64 y.f0, .int .i64 y.f1, .int .i64 y.f2] 33)) _)).trans rfl
        have hbW : Below w2.heap.size w2 W := by rw [hW]; exact (((Below.refl _ w2).alloc (Nat.le_refl _) _).alloc (by rw [hs1]; omega) _).drew
        rw [← hW]
        have HR3 := Lib.hid (HR2.out.below hbW)
        have HB3 := Lib.hid (below_step HB2.out hbW)
        have CP := Lib.hid cp
        have CQ := Lib.hid cq
        clear hW hs1 hbW c0 c1 c2 d0 d1 d2 ne0 ne1 ne2 nf0 nf1 nf2 HX HY hadl
        go_wp2_with fail
        refine (add_rd HR3.out (by omega) x.f1 y.f1).mono ?_
        rintro e w4 ⟨va, rfl, ho, hb⟩
        have HB4 := Lib.hid (below_step HB3.out hb)
        have HR4 := Lib.hid (HR3.out.below hb)
        have CP4 := Lib.hid (pw_cell_below hb cp)
        have CQ4 := Lib.hid (pw_cell_below hb cq)
        have HA4 := Lib.hid ho.rd
        clear hb ho HR3 cp cq CP CQ
        obtain ⟨A, hA1⟩ : ∃ A, A = addO k x.f1 y.f1 := ⟨_, rfl⟩
        obtain ⟨EA, hEA1⟩ : ∃ E, E = addE k x.f1 y.f1 := ⟨_, rfl⟩
        obtain ⟨qa1, qa2, qa3, qa4⟩ := HEA.out
        have HA4 := HA4.out
        rw [← hA1] at HA4 qa1 qa2 qa3 qa4
        rw [← hEA1] at qa4 ⊢
        have HA4 := Lib.hid HA4
        have QA2 := Lib.hid qa2
        have QA4 := Lib.hid qa4
        obtain ⟨MA, hMA⟩ : ∃ M, M = endsO A := ⟨_, rfl⟩
        have HMA := Lib.hid hMA
        have HQA3 := Lib.hid qa3
        clear hA1 hEA1 qa2 qa3 qa4 hMA
        go_wp2_with fail
        refine (ends_rd HA4.out (by omega) QA2.out).mono ?_
        rintro e w5 ⟨rfl, hb⟩
        rw [← HMA.out, HQA3.out]
        have HB5 := Lib.hid (below_step HB4.out hb)
        have HR5 := Lib.hid (HR4.out.below hb)
        have cx5 := pw_cell_below hb CQ4.out
        clear hb HR4 HA4 CP4 CQ4
        go_wp2_with fail
        refine (add_rd HR5.out (by omega) (-1) x.f1).mono ?_
        rintro e w6 ⟨vb, rfl, ho, hb⟩
        have HB6 := Lib.hid (below_step HB5.out hb)
        have HA6 := Lib.hid ho.rd
        clear hb ho HR5 cx5
        obtain ⟨B, hB1⟩ : ∃ A, A = addO k (-1) x.f1 := ⟨_, rfl⟩
        obtain ⟨EB, hEB1⟩ : ∃ E, E = addE k (-1) x.f1 := ⟨_, rfl⟩
        obtain ⟨qb1, qb2, qb3, qb4⟩ := HEB.out
        have HA6 := HA6.out
        rw [← hB1] at HA6 qb1 qb2 qb3 qb4
        rw [← hEB1] at qb4 ⊢
        have HA6 := Lib.hid HA6
        have QB2 := Lib.hid qb2
        have QB4 := Lib.hid qb4
        obtain ⟨MB, hMB⟩ : ∃ M, M = endsO B := ⟨_, rfl⟩
        have HMB := Lib.hid hMB
        have HQB3 := Lib.hid qb3
        clear hB1 hEB1 qb2 qb3 qb4 hMB
        go_wp2_with fail
        refine (ends_rd HA6.out (by omega) QB2.out).mono ?_
        rintro e w7 ⟨rfl, hb⟩
        rw [← HMB.out, HQB3.out]
        have HB7 := Lib.hid (below_step HB6.out hb)
        clear hb HA6
        rcases QA4.out with ⟨ha, hma⟩ | ha
        · rcases QB4.out with ⟨hb, hmb⟩ | hb
          · have hma' : MA = (n : Int) := by rw [HMA.out, hma, HN.out]
            have hmb' : MB = (n : Int) := by rw [HMB.out, hmb, HN.out]
            clear HMA HMB QA4 QB4 hma hmb
            subst ha hb hma' hmb'
            go_wp2_with fail
            refine (awake_any _).mono ?_
            rintro e w9 ⟨rfl, hb1⟩
            have HB9 := Lib.hid (below_step HB7.out hb1)
            clear hb1
            go_wp2_with fail
            go_ret
            exact ⟨rfl, HB9.out⟩
          · clear HMA HMB QA4 QB4 hma
            subst ha hb
            go_wp2_with fail
            refine (awake_any _).mono ?_
            rintro e w9 ⟨rfl, hb1⟩
            have HB9 := Lib.hid (below_step HB7.out hb1)
            clear hb1
            go_wp2_with fail
            go_ret
            exact ⟨rfl, HB9.out⟩
        · clear HMA HMB QA4 QB4
          subst ha
          go_wp2_with fail
          refine (awake_any _).mono ?_
          rintro e w9 ⟨rfl, hb1⟩
          have HB9 := Lib.hid (below_step HB7.out hb1)
          clear hb1
          go_wp2_with fail
          go_ret
          exact ⟨rfl, HB9.out⟩
  · rw [if_neg hok, if_neg hok]
    go_wp2_with fail
    refine (awake_any _).mono ?_
    rintro e w9 ⟨rfl, hb1⟩
    have HB9 := Lib.hid (below_step HB2.out hb1)
    clear hb1
    go_wp2_with fail
    go_ret
    exact ⟨rfl, HB9.out⟩
end Go.Proofs.Ytbkogefcjcokhaa.Ed
