/- EdgesTells, walked by hand; ref.Next, ref.Back, ref.Ints and ref.Ends in plain words (rn.body.lean). PRINTED by gen_wtells.py of this work. -/
import Derived.Test.YtbkogefcjcokhaaMa
import Derived.Test.YtbkogefcjcokhaaRf
import Derived.Test.YtbkogefcjcokhaaRi
import Derived.Test.YtbkogefcjcokhaaEn
import Derived.Test.YtbkogefcjcokhaaPAllx7
import Derived.Test.YtbkogefcjcokhaaEo
set_option linter.unusedVariables false
set_option linter.unusedSimpArgs false
namespace Go.Proofs.Ytbkogefcjcokhaa.Ed
open Go.RowKit Go.Proofs.Ytbkogefcjcokhaa.PAll Go.Proofs.Ytbkogefcjcokhaa.Nm Go.Proofs.YtbkogefcjcokhaaW.PrintWords

theorem Rg.take {l : List S33} (h : Rg l) (i : Nat) : Rg (l.take i) := fun e he => h e (List.mem_of_mem_take he)
theorem RdI.empty {w : World} {v : Value} (h : RdI w v []) : ∃ A c, v = .slice A 0 c := by
  obtain ⟨A, c, e, _⟩ := h
  exact ⟨A, c, e⟩
theorem many_ok {l : List S33} {f t : Int} (h : Ok l ∧ -1 ≤ f ∧ 0 ≤ t) : manyE l f t = 0 ∧ manyO l f t = many l f t := by
  unfold manyE manyO
  rw [if_pos h, if_pos h]
  exact ⟨rfl, rfl⟩
theorem many_bad {l : List S33} {f t : Int} (h : ¬ (Ok l ∧ -1 ≤ f ∧ 0 ≤ t)) : manyE l f t = 1 ∧ manyO l f t = 0 := by
  unfold manyE manyO
  rw [if_neg h, if_neg h]
  exact ⟨rfl, rfl⟩


theorem R_rdI {w : World} {B : Nat} {v : Value} {xs : List Int} (h : Kd.R (Kd.int .i64) 3 w B (fun _ => True) v xs) : RdI w v xs := by
  obtain ⟨A, c, e, hc, hC⟩ := Kd.R_reads h
  exact ⟨A, c, e, hc, hC⟩

/-! ref.Next and ref.Back -/
theorem cons33 (f : Int) (e : S33) (r : List S33) : someL (sel33 f) (e :: r) = if e.f0 = f then e.f1 :: someL (sel33 f) r else someL (sel33 f) r := by
  unfold someL sel33
  by_cases h : e.f0 = f
  · simp [List.filter_cons, h]
  · simp [List.filter_cons, h]
theorem cons34 (f : Int) (e : S33) (r : List S33) : someL (sel34 f) (e :: r) = if e.f1 = f then e.f0 :: someL (sel34 f) r else someL (sel34 f) r := by
  unfold someL sel34
  by_cases h : e.f1 = f
  · simp [List.filter_cons, h]
  · simp [List.filter_cons, h]
theorem rnext_l0 (l : List S33) (f : Int) (hl : l.length ≤ 1000) (d : Nat) : ∀ (k i : Nat) (acc : List Int), i + d = l.length → d + 1 ≤ k → acc.length ≤ i →
    graftwoodref11_Next.l0 k l f acc (i : Int) = some (acc ++ someL (sel33 f) (l.drop i)) := by
  induction d with
  | zero =>
    intro k i acc hi hk ha
    obtain ⟨k, rfl⟩ : ∃ m, k = m + 1 := ⟨k - 1, by omega⟩
    simp only [graftwoodref11_Next.l0]
    rw [if_neg (by omega), List.drop_of_length_le (by omega)]
    simp [someL, sel33]
  | succ d ih =>
    intro k i acc hi hk ha
    obtain ⟨k, rfl⟩ : ∃ m, k = m + 1 := ⟨k - 1, by omega⟩
    have hlt : i < l.length := by omega
    have w1 : wrap64 ((i : Int) + 1) = ((i + 1 : Nat) : Int) := by unfold wrap64; omega
    simp only [graftwoodref11_Next.l0]
    rw [if_pos (by omega), if_pos (by omega), rd_nat l i hlt, w1, List.drop_eq_getElem_cons hlt, cons33]
    by_cases h : l[i].f0 = f
    · rw [if_pos h, if_pos h, if_pos (by omega), ih k (i + 1) _ (by omega) (by omega) (by simp; omega)]
      rw [List.append_assoc]; rfl
    · rw [if_neg h, if_neg h, ih k (i + 1) _ (by omega) (by omega) (by omega)]
theorem rback_l0 (l : List S33) (f : Int) (hl : l.length ≤ 1000) (d : Nat) : ∀ (k i : Nat) (acc : List Int), i + d = l.length → d + 1 ≤ k → acc.length ≤ i →
    graftwoodref11_Back.l0 k l f acc (i : Int) = some (acc ++ someL (sel34 f) (l.drop i)) := by
  induction d with
  | zero =>
    intro k i acc hi hk ha
    obtain ⟨k, rfl⟩ : ∃ m, k = m + 1 := ⟨k - 1, by omega⟩
    simp only [graftwoodref11_Back.l0]
    rw [if_neg (by omega), List.drop_of_length_le (by omega)]
    simp [someL, sel34]
  | succ d ih =>
    intro k i acc hi hk ha
    obtain ⟨k, rfl⟩ : ∃ m, k = m + 1 := ⟨k - 1, by omega⟩
    have hlt : i < l.length := by omega
    have w1 : wrap64 ((i : Int) + 1) = ((i + 1 : Nat) : Int) := by unfold wrap64; omega
    simp only [graftwoodref11_Back.l0]
    rw [if_pos (by omega), if_pos (by omega), rd_nat l i hlt, w1, List.drop_eq_getElem_cons hlt, cons34]
    by_cases h : l[i].f1 = f
    · rw [if_pos h, if_pos h, if_pos (by omega), ih k (i + 1) _ (by omega) (by omega) (by simp; omega)]
      rw [List.append_assoc]; rfl
    · rw [if_neg h, if_neg h, ih k (i + 1) _ (by omega) (by omega) (by omega)]
theorem rnext_rd {v : Value} {l : List S33} {w : World} (h : Rd w v l) (hl : l.length ≤ 1000) (f : Int) : Calls Try.prog 24 #[v, .int .i64 f] w fun e w' => ∃ u, e = .returned u ∧ RdI w' u (someL (sel33 f) l) ∧ Below w.heap.size w w' := by
  obtain ⟨A, c, rfl, hc, hA, hr⟩ := h
  have hf : graftwoodref11_Next.f 1003 l f = some (someL (sel33 f) l) := by
    have := rnext_l0 l f hl l.length 1003 0 [] (by omega) (by omega) (by simp)
    rw [List.drop_zero, List.nil_append] at this
    exact this
  refine (graftwoodref11_Next.calls 1003 A c l f _ w hr hc hf).mono ?_
  rintro e w' ⟨u, rfl, hR, hb⟩
  exact ⟨u, rfl, R_rdI hR, hb⟩
theorem rback_rd {v : Value} {l : List S33} {w : World} (h : Rd w v l) (hl : l.length ≤ 1000) (f : Int) : Calls Try.prog 25 #[v, .int .i64 f] w fun e w' => ∃ u, e = .returned u ∧ RdI w' u (someL (sel34 f) l) ∧ Below w.heap.size w w' := by
  obtain ⟨A, c, rfl, hc, hA, hr⟩ := h
  have hf : graftwoodref11_Back.f 1003 l f = some (someL (sel34 f) l) := by
    have := rback_l0 l f hl l.length 1003 0 [] (by omega) (by omega) (by simp)
    rw [List.drop_zero, List.nil_append] at this
    exact this
  refine (graftwoodref11_Back.calls 1003 A c l f _ w hr hc hf).mono ?_
  rintro e w' ⟨u, rfl, hR, hb⟩
  exact ⟨u, rfl, R_rdI hR, hb⟩

/-! ref.Ints of a list with itself -/
theorem rints_l0 (a : List Int) (hl : a.length ≤ 100000) (d : Nat) : ∀ (k i : Nat), i + d = a.length → d + 1 ≤ k → graftwoodref11_Ints.l0 k a a (i : Int) = some true := by
  induction d with
  | zero =>
    intro k i hi hk
    obtain ⟨k, rfl⟩ : ∃ m, k = m + 1 := ⟨k - 1, by omega⟩
    simp only [graftwoodref11_Ints.l0]
    rw [if_neg (by omega)]
  | succ d ih =>
    intro k i hi hk
    obtain ⟨k, rfl⟩ : ∃ m, k = m + 1 := ⟨k - 1, by omega⟩
    have w1 : wrap64 ((i : Int) + 1) = ((i + 1 : Nat) : Int) := by unfold wrap64; omega
    simp only [graftwoodref11_Ints.l0]
    rw [if_pos (by omega), if_pos (by omega), if_pos (by omega), if_pos True.intro, w1, ih k (i + 1) (by omega) (by omega)]
theorem ints_eq {va vb : Value} {a : List Int} {w : World} (ha : RdI w va a) (hb : RdI w vb a) (hl : a.length ≤ 100000) : Calls Try.prog 23 #[va, vb] w fun e w' => e = .returned (.bool true) ∧ Below w.heap.size w w' := by
  obtain ⟨A, c, rfl, hc, hr⟩ := ha
  obtain ⟨B, d, rfl, hd, hs⟩ := hb
  have hf : graftwoodref11_Ints.f 100003 a a = some true := by
    unfold graftwoodref11_Ints.f
    rw [if_pos rfl]
    exact rints_l0 a hl a.length 100003 0 (by omega) (by omega)
  refine (graftwoodref11_Ints.calls 100003 A c a B d a _ w hr hc hs hd hf).mono ?_
  rintro e w' ⟨rfl, hd⟩
  exact ⟨rfl, hd.below⟩

/-! ref.Ends -/
theorem has_f (k : Nat) (xs : List Int) (n : Int) (hl : xs.length ≤ 100000) (hk : xs.length + 1 ≤ k) : graftwoodref11_Has.f k xs n = some (decide (n ∈ xs)) := by
  have := has_l0 xs n hl xs.length k 0 (by omega) (by omega)
  rw [List.drop_zero] at this
  exact this
theorem rends_j1 (l : List S33) (hl : l.length ≤ 1000) (m i : Nat) (met : List Int) (b : Bool) (hi : i < l.length) (hm : 5000 ≤ m) (hmet : met.length ≤ 2 * i) :
    graftwoodref11_Ends.j1 (m + 1) l met (i : Int) b = graftwoodref11_Ends.l0 m l (addS (if b = true then met ++ [l[i].f0] else met) l[i].f1) ((i + 1 : Nat) : Int) := by
  have w1 : wrap64 ((i : Int) + 1) = ((i + 1 : Nat) : Int) := by unfold wrap64; omega
  have e1 : (if false = true then met ++ [l[i].f0] else met) = met := if_neg (by simp)
  cases b with
  | true =>
    simp only [graftwoodref11_Ends.j1]
    rw [if_pos True.intro, if_pos (by omega), if_pos (by omega), if_pos (by omega), Option.bind_some, rd_nat l i hi, has_f _ _ _ (by simp; omega) (by simp; omega), Option.bind_some, w1, if_pos True.intro]
    unfold addS
    by_cases h : l[i].f1 ∈ met ++ [l[i].f0]
    · rw [if_pos (decide_eq_true h), if_pos h]
    · rw [if_neg (by simpa using h), if_neg h, if_pos (by simp; omega)]
  | false =>
    simp only [graftwoodref11_Ends.j1]
    rw [if_neg (by simp), if_pos (by omega), if_pos (by omega), rd_nat l i hi, has_f _ _ _ (by omega) (by omega), Option.bind_some, w1, e1]
    unfold addS
    by_cases h : l[i].f1 ∈ met
    · rw [if_pos (decide_eq_true h), if_pos h]
    · rw [if_neg (by simpa using h), if_neg h, if_pos (by omega)]
theorem rends_l0 (l : List S33) (hl : l.length ≤ 1000) (d : Nat) : ∀ (k i : Nat) (met : List Int), i + d = l.length → 2 * d + 5001 ≤ k → met.length ≤ 2 * i →
    graftwoodref11_Ends.l0 k l met (i : Int) = some ((metR met (l.drop i)).length : Int) := by
  induction d with
  | zero =>
    intro k i met hi hk ha
    obtain ⟨k, rfl⟩ : ∃ m, k = m + 1 := ⟨k - 1, by omega⟩
    simp only [graftwoodref11_Ends.l0]
    rw [if_neg (by omega), List.drop_of_length_le (by omega)]
    rfl
  | succ d ih =>
    intro k i met hi hk ha
    obtain ⟨k, rfl⟩ : ∃ m, k = m + 2 := ⟨k - 2, by omega⟩
    have hlt : i < l.length := by omega
    have hst : graftwoodref11_Ends.l0 (k + 2) l met (i : Int) = graftwoodref11_Ends.l0 k l (addS (if 0 ≤ l[i].f0 then addS met l[i].f0 else met) l[i].f1) ((i + 1 : Nat) : Int) := by
      simp only [graftwoodref11_Ends.l0]
      rw [if_pos (by omega), if_pos (by omega), rd_nat l i hlt, has_f _ _ _ (by omega) (by omega), Option.bind_some, rends_j1 l hl k i met _ hlt (by omega) ha, rends_j1 l hl k i met _ hlt (by omega) ha]
      by_cases h0 : 0 ≤ l[i].f0
      · rw [if_pos h0, if_pos h0]
        congr 2
        by_cases h : l[i].f0 ∈ met
        · simp [addS, h]
        · simp [addS, h]
      · rw [if_neg h0, if_neg h0]
        simp
    rw [hst, ih k (i + 1) _ (by omega) (by omega) ?_, List.drop_eq_getElem_cons hlt]
    · rfl
    · have key : ∀ (S : List Int) (x : Int), (addS S x).length ≤ S.length + 1 := fun S x => by rw [length_addS]; split <;> omega
      have h1 := key (if 0 ≤ l[i].f0 then addS met l[i].f0 else met) l[i].f1
      have h2 : (if 0 ≤ l[i].f0 then addS met l[i].f0 else met).length ≤ met.length + 1 := by
        split
        · exact key _ _
        · omega
      omega
theorem rends_rd {v : Value} {l : List S33} {w : World} (h : Rd w v l) (hl : l.length ≤ 1000) : Calls Try.prog 26 #[v] w fun e w' => e = .returned (.int .i64 (endsN l)) ∧ Below w.heap.size w w' := by
  obtain ⟨A, c, rfl, hc, hA, hr⟩ := h
  have hf : graftwoodref11_Ends.f 8003 l = some (endsN l : Int) := by
    have := rends_l0 l hl l.length 8003 0 [] (by omega) (by omega) (by simp)
    rw [List.drop_zero] at this
    exact this
  exact graftwoodref11_Ends.calls 8003 A c l _ w hr hc hf


set_option maxHeartbeats 8000000 in
set_option maxRecDepth 100000 in
theorem tells_bad (v : Value) (k l : List S33) (f t : Int) (w : World) (hkl : k.length ≤ 40) (hk : k = l.take 40) (hr : Rd w v l) (hrg : Rg k) (hok : ¬ Ok k) :
    Calls Try.prog 8 #[v, .int .i64 f, .int .i64 t] w fun e w' => e = .returned (.bool true) ∧ Below w.heap.size w w' := by
  have HR0 := Lib.hid hr
  have HK := Lib.hid hk
  have HRG := Lib.hid hrg
  have HOK := Lib.hid hok
  have HM := Lib.hid (many_bad (l := k) (f := f) (t := t) fun q => hok q.1)
  have HN := Lib.hid (next_bad (l := k) (f := f) fun q => hok q.1)
  have HBK := Lib.hid (back_bad (l := k) (f := t) fun q => hok q.1)
  have HE := Lib.hid (show endsO k = 0 ∧ endsE k = 1 by unfold endsO endsE; rw [if_neg hok, if_neg hok]; exact ⟨rfl, rfl⟩)
  clear hr hk hrg hok
  go_enter Try.func8, Try.ntmps8
  go_wp2_with fail
  refine (few_rd HR0.out).mono ?_
  rintro e w1 ⟨v1, rfl, hr1, hb⟩
  have HB1 := Lib.hid (hb)
  clear hb 
  rw [← HK.out] at hr1
  have HR1 := Lib.hid hr1
  clear hr1
  go_wp2_with fail
  refine (many_rd HR1.out (by omega) f t).mono ?_
  rintro e w2 ⟨rfl, hb⟩
  have HB2 := Lib.hid (below_step HB1.out hb)
  have HR2 := Lib.hid (HR1.out.below hb)
  clear hb HR1
  rw [HM.out.1, HM.out.2]
  go_wp2_with fail
  refine (next_rd HR2.out (by omega) f).mono ?_
  rintro e w3 ⟨nv, rfl, ho, hb⟩
  have HB3 := Lib.hid (below_step HB2.out hb)
  have HR3 := Lib.hid (HR2.out.below hb)
  clear hb HR2
  rw [HN.out.1]
  rw [HN.out.2] at ho
  have HNV3 := Lib.hid ho.rd
  clear ho
  go_wp2_with fail
  refine (back_rd HR3.out (by omega) t).mono ?_
  rintro e w4 ⟨bv, rfl, ho, hb⟩
  have HB4 := Lib.hid (below_step HB3.out hb)
  have HR4 := Lib.hid (HR3.out.below hb)
  have HNV4 := Lib.hid (HNV3.out.below hb)
  clear hb HR3 HNV3
  rw [HBK.out.1]
  rw [HBK.out.2] at ho
  have HBV4 := Lib.hid ho.rd
  clear ho
  go_wp2_with fail
  refine (ends_rd HR4.out (by omega) HRG.out).mono ?_
  rintro e w5 ⟨rfl, hb⟩
  have HB5 := Lib.hid (below_step HB4.out hb)
  have HR5 := Lib.hid (HR4.out.below hb)
  have HNV5 := Lib.hid (HNV4.out.below hb)
  have HBV5 := Lib.hid (HBV4.out.below hb)
  clear hb HR4 HNV4 HBV4
  rw [HE.out.1, HE.out.2]
  go_wp2_with fail
  refine (check_rd HR5.out (by omega)).mono ?_
  rintro e w6 ⟨rfl, hb⟩
  have HB6 := Lib.hid (below_step HB5.out hb)
  have HR6 := Lib.hid (HR5.out.below hb)
  have HNV6 := Lib.hid (HNV5.out.below hb)
  have HBV6 := Lib.hid (HBV5.out.below hb)
  clear hb HR5 HNV5 HBV5
  rw [if_neg HOK.out]
  go_wp2_with fail
  refine (may_rd HR6.out (by omega)).mono ?_
  rintro e w7 ⟨rfl, hb⟩
  have HB7 := Lib.hid (below_step HB6.out hb)
  have HR7 := Lib.hid (HR6.out.below hb)
  have HNV7 := Lib.hid (HNV6.out.below hb)
  have HBV7 := Lib.hid (HBV6.out.below hb)
  clear hb HR6 HNV6 HBV6
  rw [decide_eq_false HOK.out]
  obtain ⟨NA, nc, rfl⟩ := HNV7.out.empty
  clear HNV7
  obtain ⟨BA, bc, rfl⟩ := HBV7.out.empty
  clear HBV7
  go_wp2_with fail
  refine (may_rd HR7.out (by omega)).mono ?_
  rintro e w8 ⟨rfl, hb⟩
  have HB8 := Lib.hid (below_step HB7.out hb)
  have HR8 := Lib.hid (HR7.out.below hb)
  clear hb HR7
  rw [decide_eq_false HOK.out]
  go_wp2_with fail
  refine (awake_any _).mono ?_
  rintro e w9 ⟨rfl, hb⟩
  have HB9 := Lib.hid (below_step HB8.out hb)
  clear HR8
  clear hb 
  go_wp2_with fail
  go_ret
  exact ⟨rfl, HB9.out⟩

set_option maxHeartbeats 8000000 in
set_option maxRecDepth 100000 in
theorem tells_nn (v : Value) (k l : List S33) (f t : Int) (w : World) (hkl : k.length ≤ 40) (hk : k = l.take 40) (hr : Rd w v l) (hrg : Rg k) (hok : Ok k) (hf : f < -1) (ht : t < 0) :
    Calls Try.prog 8 #[v, .int .i64 f, .int .i64 t] w fun e w' => e = .returned (.bool true) ∧ Below w.heap.size w w' := by
  have HR0 := Lib.hid hr
  have HK := Lib.hid hk
  have HRG := Lib.hid hrg
  have HOK := Lib.hid hok
  have HM := Lib.hid (many_bad (l := k) (f := f) (t := t) fun q => by omega)
  have HN := Lib.hid (next_bad (l := k) (f := f) fun q => by omega)
  have HBK := Lib.hid (back_bad (l := k) (f := t) fun q => by omega)
  have HE := Lib.hid (show endsO k = (endsN k : Int) ∧ endsE k = 0 by unfold endsO endsE; rw [if_pos hok, if_pos hok]; exact ⟨rfl, rfl⟩)
  have hf2 : ¬ f ≥ -1 := by omega
  have ht2 : ¬ t ≥ 0 := by omega
  clear hr hk hrg hok
  go_enter Try.func8, Try.ntmps8
  go_wp2_with fail
  refine (few_rd HR0.out).mono ?_
  rintro e w1 ⟨v1, rfl, hr1, hb⟩
  have HB1 := Lib.hid (hb)
  clear hb 
  rw [← HK.out] at hr1
  have HR1 := Lib.hid hr1
  clear hr1
  go_wp2_with fail
  refine (many_rd HR1.out (by omega) f t).mono ?_
  rintro e w2 ⟨rfl, hb⟩
  have HB2 := Lib.hid (below_step HB1.out hb)
  have HR2 := Lib.hid (HR1.out.below hb)
  clear hb HR1
  rw [HM.out.1, HM.out.2]
  go_wp2_with fail
  refine (next_rd HR2.out (by omega) f).mono ?_
  rintro e w3 ⟨nv, rfl, ho, hb⟩
  have HB3 := Lib.hid (below_step HB2.out hb)
  have HR3 := Lib.hid (HR2.out.below hb)
  clear hb HR2
  rw [HN.out.1]
  rw [HN.out.2] at ho
  have HNV3 := Lib.hid ho.rd
  clear ho
  go_wp2_with fail
  refine (back_rd HR3.out (by omega) t).mono ?_
  rintro e w4 ⟨bv, rfl, ho, hb⟩
  have HB4 := Lib.hid (below_step HB3.out hb)
  have HR4 := Lib.hid (HR3.out.below hb)
  have HNV4 := Lib.hid (HNV3.out.below hb)
  clear hb HR3 HNV3
  rw [HBK.out.1]
  rw [HBK.out.2] at ho
  have HBV4 := Lib.hid ho.rd
  clear ho
  go_wp2_with fail
  refine (ends_rd HR4.out (by omega) HRG.out).mono ?_
  rintro e w5 ⟨rfl, hb⟩
  have HB5 := Lib.hid (below_step HB4.out hb)
  have HR5 := Lib.hid (HR4.out.below hb)
  have HNV5 := Lib.hid (HNV4.out.below hb)
  have HBV5 := Lib.hid (HBV4.out.below hb)
  clear hb HR4 HNV4 HBV4
  rw [HE.out.1, HE.out.2]
  obtain ⟨E, hE⟩ : ∃ E : Int, E = (endsN k : Int) := ⟨_, rfl⟩
  rw [← hE]
  have HEE := Lib.hid hE
  clear hE
  go_wp2_with fail
  refine (check_rd HR5.out (by omega)).mono ?_
  rintro e w6 ⟨rfl, hb⟩
  have HB6 := Lib.hid (below_step HB5.out hb)
  have HR6 := Lib.hid (HR5.out.below hb)
  have HNV6 := Lib.hid (HNV5.out.below hb)
  have HBV6 := Lib.hid (HBV5.out.below hb)
  clear hb HR5 HNV5 HBV5
  rw [if_pos HOK.out]
  go_wp2_with fail
  refine (may_rd HR6.out (by omega)).mono ?_
  rintro e w7 ⟨rfl, hb⟩
  have HB7 := Lib.hid (below_step HB6.out hb)
  have HR7 := Lib.hid (HR6.out.below hb)
  have HNV7 := Lib.hid (HNV6.out.below hb)
  have HBV7 := Lib.hid (HBV6.out.below hb)
  clear hb HR6 HNV6 HBV6
  rw [decide_eq_true HOK.out]
  obtain ⟨NA, nc, rfl⟩ := HNV7.out.empty
  clear HNV7
  obtain ⟨BA, bc, rfl⟩ := HBV7.out.empty
  clear HBV7
  go_wp2_with fail
  refine (may_rd HR7.out (by omega)).mono ?_
  rintro e w8 ⟨rfl, hb⟩
  have HB8 := Lib.hid (below_step HB7.out hb)
  have HR8 := Lib.hid (HR7.out.below hb)
  clear hb HR7
  rw [decide_eq_true HOK.out]
  go_wp2_with fail
  refine (rends_rd HR8.out (by omega)).mono ?_
  rintro e w9 ⟨rfl, hb⟩
  have HB9 := Lib.hid (below_step HB8.out hb)
  have HR9 := Lib.hid (HR8.out.below hb)
  clear hb HR8
  rw [← HEE.out]
  go_wp2_with fail
  refine (awake_any _).mono ?_
  rintro e w10 ⟨rfl, hb⟩
  have HB10 := Lib.hid (below_step HB9.out hb)
  clear HR9
  clear hb 
  go_wp2_with fail
  go_ret
  exact ⟨rfl, HB10.out⟩

set_option maxHeartbeats 8000000 in
set_option maxRecDepth 100000 in
theorem tells_ny (v : Value) (k l : List S33) (f t : Int) (w : World) (hkl : k.length ≤ 40) (hk : k = l.take 40) (hr : Rd w v l) (hrg : Rg k) (hok : Ok k) (hf : f < -1) (ht : 0 ≤ t) :
    Calls Try.prog 8 #[v, .int .i64 f, .int .i64 t] w fun e w' => e = .returned (.bool true) ∧ Below w.heap.size w w' := by
  have HR0 := Lib.hid hr
  have HK := Lib.hid hk
  have HRG := Lib.hid hrg
  have HOK := Lib.hid hok
  have HM := Lib.hid (many_bad (l := k) (f := f) (t := t) fun q => by omega)
  have HN := Lib.hid (next_bad (l := k) (f := f) fun q => by omega)
  have HBK := Lib.hid (back_good (f := t) ⟨hok, ht⟩)
  have HE := Lib.hid (show endsO k = (endsN k : Int) ∧ endsE k = 0 by unfold endsO endsE; rw [if_pos hok, if_pos hok]; exact ⟨rfl, rfl⟩)
  have hf2 : ¬ f ≥ -1 := by omega
  have ht2 : ¬ t < 0 := by omega
  have hbl := someL_length (sel34 t) k
  have ht3 : t ≥ 0 := by omega
  clear hr hk hrg hok
  go_enter Try.func8, Try.ntmps8
  go_wp2_with fail
  refine (few_rd HR0.out).mono ?_
  rintro e w1 ⟨v1, rfl, hr1, hb⟩
  have HB1 := Lib.hid (hb)
  clear hb 
  rw [← HK.out] at hr1
  have HR1 := Lib.hid hr1
  clear hr1
  go_wp2_with fail
  refine (many_rd HR1.out (by omega) f t).mono ?_
  rintro e w2 ⟨rfl, hb⟩
  have HB2 := Lib.hid (below_step HB1.out hb)
  have HR2 := Lib.hid (HR1.out.below hb)
  clear hb HR1
  rw [HM.out.1, HM.out.2]
  go_wp2_with fail
  refine (next_rd HR2.out (by omega) f).mono ?_
  rintro e w3 ⟨nv, rfl, ho, hb⟩
  have HB3 := Lib.hid (below_step HB2.out hb)
  have HR3 := Lib.hid (HR2.out.below hb)
  clear hb HR2
  rw [HN.out.1]
  rw [HN.out.2] at ho
  have HNV3 := Lib.hid ho.rd
  clear ho
  go_wp2_with fail
  refine (back_rd HR3.out (by omega) t).mono ?_
  rintro e w4 ⟨bv, rfl, ho, hb⟩
  have HB4 := Lib.hid (below_step HB3.out hb)
  have HR4 := Lib.hid (HR3.out.below hb)
  have HNV4 := Lib.hid (HNV3.out.below hb)
  clear hb HR3 HNV3
  rw [HBK.out.1]
  rw [HBK.out.2] at ho
  have HBV4 := Lib.hid ho.rd
  clear ho
  go_wp2_with fail
  refine (ends_rd HR4.out (by omega) HRG.out).mono ?_
  rintro e w5 ⟨rfl, hb⟩
  have HB5 := Lib.hid (below_step HB4.out hb)
  have HR5 := Lib.hid (HR4.out.below hb)
  have HNV5 := Lib.hid (HNV4.out.below hb)
  have HBV5 := Lib.hid (HBV4.out.below hb)
  clear hb HR4 HNV4 HBV4
  rw [HE.out.1, HE.out.2]
  obtain ⟨E, hE⟩ : ∃ E : Int, E = (endsN k : Int) := ⟨_, rfl⟩
  rw [← hE]
  have HEE := Lib.hid hE
  clear hE
  go_wp2_with fail
  refine (check_rd HR5.out (by omega)).mono ?_
  rintro e w6 ⟨rfl, hb⟩
  have HB6 := Lib.hid (below_step HB5.out hb)
  have HR6 := Lib.hid (HR5.out.below hb)
  have HNV6 := Lib.hid (HNV5.out.below hb)
  have HBV6 := Lib.hid (HBV5.out.below hb)
  clear hb HR5 HNV5 HBV5
  rw [if_pos HOK.out]
  go_wp2_with fail
  refine (may_rd HR6.out (by omega)).mono ?_
  rintro e w7 ⟨rfl, hb⟩
  have HB7 := Lib.hid (below_step HB6.out hb)
  have HR7 := Lib.hid (HR6.out.below hb)
  have HNV7 := Lib.hid (HNV6.out.below hb)
  have HBV7 := Lib.hid (HBV6.out.below hb)
  clear hb HR6 HNV6 HBV6
  rw [decide_eq_true HOK.out]
  obtain ⟨NA, nc, rfl⟩ := HNV7.out.empty
  clear HNV7
  go_wp2_with fail
  refine (may_rd HR7.out (by omega)).mono ?_
  rintro e w8 ⟨rfl, hb⟩
  have HB8 := Lib.hid (below_step HB7.out hb)
  have HR8 := Lib.hid (HR7.out.below hb)
  have HBV8 := Lib.hid (HBV7.out.below hb)
  clear hb HR7 HBV7
  rw [decide_eq_true HOK.out]
  go_wp2_with fail
  refine (rback_rd HR8.out (by omega) t).mono ?_
  rintro e w9 ⟨bu, rfl, hu, hb⟩
  have HB9 := Lib.hid (below_step HB8.out hb)
  have HR9 := Lib.hid (HR8.out.below hb)
  have HBV9 := Lib.hid (HBV8.out.below hb)
  clear hb HR8 HBV8
  have HBU9 := Lib.hid hu
  clear hu
  go_wp2_with fail
  refine (ints_eq HBV9.out HBU9.out (by omega)).mono ?_
  rintro e w10 ⟨rfl, hb⟩
  have HB10 := Lib.hid (below_step HB9.out hb)
  clear HBV9
  clear HBU9
  have HR10 := Lib.hid (HR9.out.below hb)
  clear hb HR9
  go_wp2_with fail
  refine (rends_rd HR10.out (by omega)).mono ?_
  rintro e w11 ⟨rfl, hb⟩
  have HB11 := Lib.hid (below_step HB10.out hb)
  have HR11 := Lib.hid (HR10.out.below hb)
  clear hb HR10
  rw [← HEE.out]
  go_wp2_with fail
  refine (awake_any _).mono ?_
  rintro e w12 ⟨rfl, hb⟩
  have HB12 := Lib.hid (below_step HB11.out hb)
  clear HR11
  clear hb 
  go_wp2_with fail
  go_ret
  exact ⟨rfl, HB12.out⟩

set_option maxHeartbeats 8000000 in
set_option maxRecDepth 100000 in
theorem tells_yn (v : Value) (k l : List S33) (f t : Int) (w : World) (hkl : k.length ≤ 40) (hk : k = l.take 40) (hr : Rd w v l) (hrg : Rg k) (hok : Ok k) (hf : -1 ≤ f) (ht : t < 0) :
    Calls Try.prog 8 #[v, .int .i64 f, .int .i64 t] w fun e w' => e = .returned (.bool true) ∧ Below w.heap.size w w' := by
  have HR0 := Lib.hid hr
  have HK := Lib.hid hk
  have HRG := Lib.hid hrg
  have HOK := Lib.hid hok
  have HM := Lib.hid (many_bad (l := k) (f := f) (t := t) fun q => by omega)
  have HN := Lib.hid (next_good (f := f) ⟨hok, hf⟩)
  have HBK := Lib.hid (back_bad (l := k) (f := t) fun q => by omega)
  have HE := Lib.hid (show endsO k = (endsN k : Int) ∧ endsE k = 0 by unfold endsO endsE; rw [if_pos hok, if_pos hok]; exact ⟨rfl, rfl⟩)
  have hf2 : ¬ f < -1 := by omega
  have hnl := someL_length (sel33 f) k
  have hf3 : f ≥ -1 := by omega
  have ht2 : ¬ t ≥ 0 := by omega
  clear hr hk hrg hok
  go_enter Try.func8, Try.ntmps8
  go_wp2_with fail
  refine (few_rd HR0.out).mono ?_
  rintro e w1 ⟨v1, rfl, hr1, hb⟩
  have HB1 := Lib.hid (hb)
  clear hb 
  rw [← HK.out] at hr1
  have HR1 := Lib.hid hr1
  clear hr1
  go_wp2_with fail
  refine (many_rd HR1.out (by omega) f t).mono ?_
  rintro e w2 ⟨rfl, hb⟩
  have HB2 := Lib.hid (below_step HB1.out hb)
  have HR2 := Lib.hid (HR1.out.below hb)
  clear hb HR1
  rw [HM.out.1, HM.out.2]
  go_wp2_with fail
  refine (next_rd HR2.out (by omega) f).mono ?_
  rintro e w3 ⟨nv, rfl, ho, hb⟩
  have HB3 := Lib.hid (below_step HB2.out hb)
  have HR3 := Lib.hid (HR2.out.below hb)
  clear hb HR2
  rw [HN.out.1]
  rw [HN.out.2] at ho
  have HNV3 := Lib.hid ho.rd
  clear ho
  go_wp2_with fail
  refine (back_rd HR3.out (by omega) t).mono ?_
  rintro e w4 ⟨bv, rfl, ho, hb⟩
  have HB4 := Lib.hid (below_step HB3.out hb)
  have HR4 := Lib.hid (HR3.out.below hb)
  have HNV4 := Lib.hid (HNV3.out.below hb)
  clear hb HR3 HNV3
  rw [HBK.out.1]
  rw [HBK.out.2] at ho
  have HBV4 := Lib.hid ho.rd
  clear ho
  go_wp2_with fail
  refine (ends_rd HR4.out (by omega) HRG.out).mono ?_
  rintro e w5 ⟨rfl, hb⟩
  have HB5 := Lib.hid (below_step HB4.out hb)
  have HR5 := Lib.hid (HR4.out.below hb)
  have HNV5 := Lib.hid (HNV4.out.below hb)
  have HBV5 := Lib.hid (HBV4.out.below hb)
  clear hb HR4 HNV4 HBV4
  rw [HE.out.1, HE.out.2]
  obtain ⟨E, hE⟩ : ∃ E : Int, E = (endsN k : Int) := ⟨_, rfl⟩
  rw [← hE]
  have HEE := Lib.hid hE
  clear hE
  go_wp2_with fail
  refine (check_rd HR5.out (by omega)).mono ?_
  rintro e w6 ⟨rfl, hb⟩
  have HB6 := Lib.hid (below_step HB5.out hb)
  have HR6 := Lib.hid (HR5.out.below hb)
  have HNV6 := Lib.hid (HNV5.out.below hb)
  have HBV6 := Lib.hid (HBV5.out.below hb)
  clear hb HR5 HNV5 HBV5
  rw [if_pos HOK.out]
  go_wp2_with fail
  refine (may_rd HR6.out (by omega)).mono ?_
  rintro e w7 ⟨rfl, hb⟩
  have HB7 := Lib.hid (below_step HB6.out hb)
  have HR7 := Lib.hid (HR6.out.below hb)
  have HNV7 := Lib.hid (HNV6.out.below hb)
  have HBV7 := Lib.hid (HBV6.out.below hb)
  clear hb HR6 HNV6 HBV6
  rw [decide_eq_true HOK.out]
  obtain ⟨BA, bc, rfl⟩ := HBV7.out.empty
  clear HBV7
  go_wp2_with fail
  refine (may_rd HR7.out (by omega)).mono ?_
  rintro e w8 ⟨rfl, hb⟩
  have HB8 := Lib.hid (below_step HB7.out hb)
  have HR8 := Lib.hid (HR7.out.below hb)
  have HNV8 := Lib.hid (HNV7.out.below hb)
  clear hb HR7 HNV7
  rw [decide_eq_true HOK.out]
  go_wp2_with fail
  refine (rnext_rd HR8.out (by omega) f).mono ?_
  rintro e w9 ⟨nu, rfl, hu, hb⟩
  have HB9 := Lib.hid (below_step HB8.out hb)
  have HR9 := Lib.hid (HR8.out.below hb)
  have HNV9 := Lib.hid (HNV8.out.below hb)
  clear hb HR8 HNV8
  have HNU9 := Lib.hid hu
  clear hu
  go_wp2_with fail
  refine (ints_eq HNV9.out HNU9.out (by omega)).mono ?_
  rintro e w10 ⟨rfl, hb⟩
  have HB10 := Lib.hid (below_step HB9.out hb)
  clear HNV9
  clear HNU9
  have HR10 := Lib.hid (HR9.out.below hb)
  clear hb HR9
  go_wp2_with fail
  refine (rends_rd HR10.out (by omega)).mono ?_
  rintro e w11 ⟨rfl, hb⟩
  have HB11 := Lib.hid (below_step HB10.out hb)
  have HR11 := Lib.hid (HR10.out.below hb)
  clear hb HR10
  rw [← HEE.out]
  go_wp2_with fail
  refine (awake_any _).mono ?_
  rintro e w12 ⟨rfl, hb⟩
  have HB12 := Lib.hid (below_step HB11.out hb)
  clear HR11
  clear hb 
  go_wp2_with fail
  go_ret
  exact ⟨rfl, HB12.out⟩

set_option maxHeartbeats 8000000 in
set_option maxRecDepth 100000 in
theorem tells_yy (v : Value) (k l : List S33) (f t : Int) (w : World) (hkl : k.length ≤ 40) (hk : k = l.take 40) (hr : Rd w v l) (hrg : Rg k) (hok : Ok k) (hf : -1 ≤ f) (ht : 0 ≤ t) :
    Calls Try.prog 8 #[v, .int .i64 f, .int .i64 t] w fun e w' => e = .returned (.bool true) ∧ Below w.heap.size w w' := by
  have HR0 := Lib.hid hr
  have HK := Lib.hid hk
  have HRG := Lib.hid hrg
  have HOK := Lib.hid hok
  have HM := Lib.hid (many_ok (f := f) (t := t) ⟨hok, hf, ht⟩)
  have HN := Lib.hid (next_good (f := f) ⟨hok, hf⟩)
  have HBK := Lib.hid (back_good (f := t) ⟨hok, ht⟩)
  have HE := Lib.hid (show endsO k = (endsN k : Int) ∧ endsE k = 0 by unfold endsO endsE; rw [if_pos hok, if_pos hok]; exact ⟨rfl, rfl⟩)
  have hf2 : ¬ f < -1 := by omega
  have hnl := someL_length (sel33 f) k
  have hf3 : f ≥ -1 := by omega
  have ht2 : ¬ t < 0 := by omega
  have hbl := someL_length (sel34 t) k
  have ht3 : t ≥ 0 := by omega
  clear hr hk hrg hok
  go_enter Try.func8, Try.ntmps8
  go_wp2_with fail
  refine (few_rd HR0.out).mono ?_
  rintro e w1 ⟨v1, rfl, hr1, hb⟩
  have HB1 := Lib.hid (hb)
  clear hb 
  rw [← HK.out] at hr1
  have HR1 := Lib.hid hr1
  clear hr1
  go_wp2_with fail
  refine (many_rd HR1.out (by omega) f t).mono ?_
  rintro e w2 ⟨rfl, hb⟩
  have HB2 := Lib.hid (below_step HB1.out hb)
  have HR2 := Lib.hid (HR1.out.below hb)
  clear hb HR1
  rw [HM.out.1, HM.out.2]
  obtain ⟨M, hM⟩ : ∃ M, M = many k f t := ⟨_, rfl⟩
  rw [← hM]
  have HMM := Lib.hid hM
  clear hM
  go_wp2_with fail
  refine (next_rd HR2.out (by omega) f).mono ?_
  rintro e w3 ⟨nv, rfl, ho, hb⟩
  have HB3 := Lib.hid (below_step HB2.out hb)
  have HR3 := Lib.hid (HR2.out.below hb)
  clear hb HR2
  rw [HN.out.1]
  rw [HN.out.2] at ho
  have HNV3 := Lib.hid ho.rd
  clear ho
  go_wp2_with fail
  refine (back_rd HR3.out (by omega) t).mono ?_
  rintro e w4 ⟨bv, rfl, ho, hb⟩
  have HB4 := Lib.hid (below_step HB3.out hb)
  have HR4 := Lib.hid (HR3.out.below hb)
  have HNV4 := Lib.hid (HNV3.out.below hb)
  clear hb HR3 HNV3
  rw [HBK.out.1]
  rw [HBK.out.2] at ho
  have HBV4 := Lib.hid ho.rd
  clear ho
  go_wp2_with fail
  refine (ends_rd HR4.out (by omega) HRG.out).mono ?_
  rintro e w5 ⟨rfl, hb⟩
  have HB5 := Lib.hid (below_step HB4.out hb)
  have HR5 := Lib.hid (HR4.out.below hb)
  have HNV5 := Lib.hid (HNV4.out.below hb)
  have HBV5 := Lib.hid (HBV4.out.below hb)
  clear hb HR4 HNV4 HBV4
  rw [HE.out.1, HE.out.2]
  obtain ⟨E, hE⟩ : ∃ E : Int, E = (endsN k : Int) := ⟨_, rfl⟩
  rw [← hE]
  have HEE := Lib.hid hE
  clear hE
  go_wp2_with fail
  refine (check_rd HR5.out (by omega)).mono ?_
  rintro e w6 ⟨rfl, hb⟩
  have HB6 := Lib.hid (below_step HB5.out hb)
  have HR6 := Lib.hid (HR5.out.below hb)
  have HNV6 := Lib.hid (HNV5.out.below hb)
  have HBV6 := Lib.hid (HBV5.out.below hb)
  clear hb HR5 HNV5 HBV5
  rw [if_pos HOK.out]
  go_wp2_with fail
  refine (may_rd HR6.out (by omega)).mono ?_
  rintro e w7 ⟨rfl, hb⟩
  have HB7 := Lib.hid (below_step HB6.out hb)
  have HR7 := Lib.hid (HR6.out.below hb)
  have HNV7 := Lib.hid (HNV6.out.below hb)
  have HBV7 := Lib.hid (HBV6.out.below hb)
  clear hb HR6 HNV6 HBV6
  rw [decide_eq_true HOK.out]
  go_wp2_with fail
  refine (may_rd HR7.out (by omega)).mono ?_
  rintro e w8 ⟨rfl, hb⟩
  have HB8 := Lib.hid (below_step HB7.out hb)
  have HR8 := Lib.hid (HR7.out.below hb)
  have HNV8 := Lib.hid (HNV7.out.below hb)
  have HBV8 := Lib.hid (HBV7.out.below hb)
  clear hb HR7 HNV7 HBV7
  rw [decide_eq_true HOK.out]
  go_wp2_with fail
  refine (rnext_rd HR8.out (by omega) f).mono ?_
  rintro e w9 ⟨nu, rfl, hu, hb⟩
  have HB9 := Lib.hid (below_step HB8.out hb)
  have HR9 := Lib.hid (HR8.out.below hb)
  have HNV9 := Lib.hid (HNV8.out.below hb)
  have HBV9 := Lib.hid (HBV8.out.below hb)
  clear hb HR8 HNV8 HBV8
  have HNU9 := Lib.hid hu
  clear hu
  go_wp2_with fail
  refine (ints_eq HNV9.out HNU9.out (by omega)).mono ?_
  rintro e w10 ⟨rfl, hb⟩
  have HB10 := Lib.hid (below_step HB9.out hb)
  clear HNV9
  clear HNU9
  have HR10 := Lib.hid (HR9.out.below hb)
  have HBV10 := Lib.hid (HBV9.out.below hb)
  clear hb HR9 HBV9
  go_wp2_with fail
  refine (rback_rd HR10.out (by omega) t).mono ?_
  rintro e w11 ⟨bu, rfl, hu, hb⟩
  have HB11 := Lib.hid (below_step HB10.out hb)
  have HR11 := Lib.hid (HR10.out.below hb)
  have HBV11 := Lib.hid (HBV10.out.below hb)
  clear hb HR10 HBV10
  have HBU11 := Lib.hid hu
  clear hu
  go_wp2_with fail
  refine (ints_eq HBV11.out HBU11.out (by omega)).mono ?_
  rintro e w12 ⟨rfl, hb⟩
  have HB12 := Lib.hid (below_step HB11.out hb)
  clear HBV11
  clear HBU11
  have HR12 := Lib.hid (HR11.out.below hb)
  clear hb HR11
  go_wp2_with fail
  refine (rmany_rd HR12.out HOK.out (by omega) f t).mono ?_
  rintro e w13 ⟨rfl, hb⟩
  have HB13 := Lib.hid (below_step HB12.out hb)
  have HR13 := Lib.hid (HR12.out.below hb)
  clear hb HR12
  rw [← HMM.out]
  go_wp2_with fail
  refine (rends_rd HR13.out (by omega)).mono ?_
  rintro e w14 ⟨rfl, hb⟩
  have HB14 := Lib.hid (below_step HB13.out hb)
  have HR14 := Lib.hid (HR13.out.below hb)
  clear hb HR13
  rw [← HEE.out]
  go_wp2_with fail
  refine (awake_any _).mono ?_
  rintro e w15 ⟨rfl, hb⟩
  have HB15 := Lib.hid (below_step HB14.out hb)
  clear HR14
  clear hb 
  go_wp2_with fail
  go_ret
  exact ⟨rfl, HB15.out⟩

theorem tells_any (v : Value) (l : List S33) (f t : Int) (w : World) (hr : Rd w v l) (hrg : Rg l) (hf : -9223372036854775808 ≤ f ∧ f ≤ 9223372036854775807) (ht : -9223372036854775808 ≤ t ∧ t ≤ 9223372036854775807) :
    Calls Try.prog 8 #[v, .int .i64 f, .int .i64 t] w fun e w' => e = .returned (.bool true) ∧ Below w.heap.size w w' := by
  have hkl : (l.take 40).length ≤ 40 := by rw [List.length_take]; omega
  by_cases hok : Ok (l.take 40)
  · rcases Int.lt_or_le f (-1) with h1 | h1
    · rcases Int.lt_or_le t 0 with h2 | h2
      · exact tells_nn v _ l f t w hkl rfl hr (hrg.take 40) hok h1 h2
      · exact tells_ny v _ l f t w hkl rfl hr (hrg.take 40) hok h1 h2
    · rcases Int.lt_or_le t 0 with h2 | h2
      · exact tells_yn v _ l f t w hkl rfl hr (hrg.take 40) hok h1 h2
      · exact tells_yy v _ l f t w hkl rfl hr (hrg.take 40) hok h1 h2
  · exact tells_bad v _ l f t w hkl rfl hr (hrg.take 40) hok
end Go.Proofs.Ytbkogefcjcokhaa.Ed
