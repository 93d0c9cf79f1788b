/- EdgesBack, walked by hand. -/
import Derived.Test.YtbkogefcjcokhaaSm
import Derived.Test.YtbkogefcjcokhaaWSums
set_option linter.unusedVariables false
set_option linter.unusedSimpArgs false
namespace Go.Proofs.Ytbkogefcjcokhaa.Ed
open Go.RowKit Go.Proofs.Ytbkogefcjcokhaa.PAll Go.Proofs.Ytbkogefcjcokhaa.Nm Go.Proofs.YtbkogefcjcokhaaW.PrintWords

/-- The pair that a number stands for. -/
def pairOf (x : Int) : Int × Int := (x / 256 % 8 - 1, x % 8)

def RU (w : World) (A : Option Addr) (xs : List Int) : Prop := ∀ (j : Nat) (h : j < xs.length), 0 ≤ xs[j] ∧ xs[j] ≤ 65535 ∧ ∃ ad, A = some ad ∧ w.cell? (ad.add j) = some (.int .u16 xs[j])
theorem RU.below {w w1 : World} {A : Option Addr} {l : List Int} (hr : RU w A l) (hb : Below w.heap.size w w1) : RU w1 A l := by
  intro j hj
  obtain ⟨h1, h2, ad, h3, h4⟩ := hr j hj
  exact ⟨h1, h2, ad, h3, pw_cell_below hb h4⟩
theorem below_drew (w : World) : Below w.heap.size w w.drew := ⟨rfl, rfl, rfl, Nat.le_refl _, fun _ _ => rfl⟩
theorem shr_pair {x : Int} (h0 : 0 ≤ x) (h1 : x ≤ 65535) : IntKind.i64.wrap (IntKind.i64.wrap ((x / 256).tmod 8) - 1) = (pairOf x).1 ∧ IntKind.i64.wrap (x.tmod 8) = (pairOf x).2 := by
  unfold pairOf
  rw [Int.tmod_eq_emod_of_nonneg (by omega), Int.tmod_eq_emod_of_nonneg (by omega)]
  simp only [IntKind.wrap_i64]
  omega
theorem pairOf_range {x : Int} (h0 : 0 ≤ x) : -1 ≤ (pairOf x).1 ∧ 0 ≤ (pairOf x).2 := by
  unfold pairOf
  simp only
  omega
theorem addE_cases {a : List S33} {f t : Int} (h : Ok a) (hf : -1 ≤ f) (ht : 0 ≤ t) : (addE a f t = 0 ∧ many a f t < most) ∨ addE a f t = 4 := by
  by_cases hm : many a f t = most
  · exact .inr (addE_large ⟨h, hf, ht⟩ hm)
  · refine .inl ⟨addE_ok ⟨h, hf, ht⟩ hm, ?_⟩
    have := many_range h f t
    omega
theorem cnt_step {ps : List (Int × Int)} {i : Nat} {p : Int × Int} (h : ps[i]? = some p) (x y : Int) : cnt (ps.take (i + 1)) x y = cnt (ps.take i) x y + (if x = p.1 ∧ y = p.2 then 1 else 0) := by
  obtain ⟨hi, rfl⟩ := List.getElem?_eq_some_iff.1 h
  exact cnt_take ps i hi x y
theorem cnt_less {ps : List (Int × Int)} {i : Nat} {p : Int × Int} (h : ps[i]? = some p) (x y : Int) : cnt (ps.drop i) x y = (if x = p.1 ∧ y = p.2 then 1 else 0) + cnt (ps.drop (i + 1)) x y := by
  obtain ⟨hi, rfl⟩ := List.getElem?_eq_some_iff.1 h
  exact cnt_drop ps i hi x y
theorem rev_at {ps : List (Int × Int)} {n i : Nat} (hl : ps.length = n) (hi : i < n) : ps.reverse[i]? = ps[n - 1 - i]? := by
  rw [List.getElem?_reverse (by omega), hl]

/-- One more pair. -/
theorem add_inv {k a : List S33} {ps : List (Int × Int)} {i : Nat} {p : Int × Int} (h : Ok a) (hl : a.length ≤ 40 + i) (hm : ∀ x y, many a x y = many k x y + cnt (ps.take i) x y) (hp : ps[i]? = some p) (hf : -1 ≤ p.1) (ht : 0 ≤ p.2) (hlt : many a p.1 p.2 < most) :
    Ok (addL a p.1 p.2) ∧ (addL a p.1 p.2).length ≤ 40 + (i + 1) ∧ ∀ x y, many (addL a p.1 p.2) x y = many k x y + cnt (ps.take (i + 1)) x y := by
  refine ⟨addL_ok a h _ _ hf ht hlt, ?_, fun x y => ?_⟩
  · have := addL_length a p.1 p.2
    omega
  · rw [many_addL a h, hm, cnt_step hp]
    omega

theorem below_of_drew {w w' : World} (h : Below w.drew.heap.size w.drew w') : Below w.heap.size w w' := ⟨h.os, h.tape, h.output, h.size, h.block⟩
/-- One pair less. -/
theorem drop_inv {k a : List S33} {ps : List (Int × Int)} {j m : Nat} {p : Int × Int} (hk : Ok k) (h : Ok a) (hl : a.length ≤ m) (hm : ∀ x y, many a x y = many k x y + cnt (ps.drop j) x y) (hp : ps[j]? = some p) (hf : -1 ≤ p.1) (ht : 0 ≤ p.2) :
    dropE a p.1 p.2 = 0 ∧ Ok (dropL a p.1 p.2) ∧ (dropL a p.1 p.2).length ≤ m ∧ ∀ x y, many (dropL a p.1 p.2) x y = many k x y + cnt (ps.drop (j + 1)) x y := by
  have h1 := cnt_less hp p.1 p.2
  rw [if_pos ⟨rfl, rfl⟩] at h1
  have h2 := cnt_nonneg (ps.drop (j + 1)) p.1 p.2
  have h3 := many_range hk p.1 p.2
  have hne : many a p.1 p.2 ≠ 0 := by rw [hm]; omega
  refine ⟨dropE_ok ⟨h, hf, ht⟩ hne, dropL_ok a h _ _, Nat.le_trans (dropL_length a _ _) hl, fun x y => ?_⟩
  rw [many_dropL a h _ _ _ _ hne, hm, cnt_less hp]
  omega

set_option maxHeartbeats 16000000 in
set_option maxRecDepth 100000 in
theorem back_law_any (v : Value) (l : List S33) (vp : Value) (xs : List Int) (w : World) (hr : Rd w v l) (hp : RdU w vp xs) :
    Calls Try.prog 4 #[v, vp] w fun e w' => e = .returned (.bool true) ∧ Below w.heap.size w w' := by
  have HR := Lib.hid hr
  have HP := Lib.hid hp
  obtain ⟨k, hk⟩ : ∃ k, k = l.take 40 := ⟨_, rfl⟩
  have hkl : k.length ≤ 40 := by rw [hk, List.length_take]; omega
  have HK := Lib.hid hk
  clear hr hk hp
  go_enter Try.func4, Try.ntmps4
  go_wp2_with fail
  refine (few_rd HR.out).mono ?_
  rintro e w1 ⟨v1, rfl, hr1, hb1⟩
  rw [← HK.out] at hr1
  have HR1 := Lib.hid hr1
  have HB1 := Lib.hid hb1
  have HP1 := Lib.hid (HP.out.below hb1)
  clear hr1 hb1 HR HP
  go_wp2_with fail
  refine (check_rd HR1.out (by omega)).mono ?_
  rintro e w2 ⟨rfl, hb1⟩
  have HB2 := Lib.hid (below_step HB1.out hb1)
  have HR2 := Lib.hid (HR1.out.below hb1)
  have HP2 := Lib.hid (HP1.out.below hb1)
  clear hb1 HR1 HP1
  by_cases hok : Ok k
  · rw [if_pos hok]
    have HOK := Lib.hid hok
    clear hok
    by_cases hmost : ∃ e r, k = e :: r ∧ e.f2 = most
    · obtain ⟨e, r, rfl, hm⟩ := hmost
      obtain ⟨A, c, rfl, hc, hA, hrr⟩ := HR2.out
      obtain ⟨ad, rfl, h0, h1, h2⟩ := at_T33 hrr 0 (by omega) (by simp)
      have hz : rd_T33 (e :: r) 0 = e := rfl
      have hadd : ad.add ((0 : Int).toNat * 3) = ad := by cases ad; simp [Addr.add]
      rw [hz, hm, hadd] at h2
      unfold most at h2
      clear h0 h1 hm hz hadd
      go_wp2_with fail
      refine (awake_any _).mono ?_
      rintro e9 w9 ⟨rfl, hb1⟩
      have HB9 := Lib.hid (below_step HB2.out hb1)
      clear hb1
      go_wp2_with fail
      go_ret
      exact ⟨rfl, HB9.out⟩
    · obtain ⟨A, c, rfl, hc, hA, hrr⟩ := HR2.out
      obtain ⟨PA, pc, rfl, hpl, hpr⟩ := HP2.out
      have hcase : (k.length = 0 ∧ Rd w2 (.slice A 0 c) k) ∨ (0 < k.length ∧ ∃ ad q, A = some ad ∧ w2.cell? ⟨ad.block, ad.off + 2, none⟩ = some (.int .i64 q) ∧ (q == 1099511627776) = false ∧ q ≠ 1099511627776) := by
        cases k with
        | nil => exact .inl ⟨rfl, HR2.out⟩
        | cons e r =>
          obtain ⟨ad, rfl, h0, h1, h2⟩ := at_T33 hrr 0 (by omega) (by simp)
          have hadd : ad.add ((0 : Int).toNat * 3) = ad := by cases ad; simp [Addr.add]
          rw [hadd] at h2
          have hne : e.f2 ≠ 1099511627776 := fun q => hmost ⟨e, r, rfl, q⟩
          exact .inr ⟨by simp, ad, e.f2, rfl, h2, by simpa using hne, hne⟩
      have HPR := Lib.hid (show RU w2 PA xs from hpr)
      obtain ⟨n, hn⟩ : ∃ n, n = min xs.length 20 := ⟨_, rfl⟩
      have hmin : min (xs.length : Int) 20 = (n : Int) := by omega
      have hnx : n ≤ xs.length := by omega
      have hn20 : n ≤ 20 := by omega
      obtain ⟨ps, hps⟩ : ∃ ps, ps = (xs.take n).map pairOf := ⟨_, rfl⟩
      have hpsl : ps.length = n := by rw [hps]; simp; omega
      have hpsi : ∀ (i : Nat) (h : i < n), ps[i]? = some (pairOf (xs[i]'(Nat.lt_of_lt_of_le h hnx))) := by
        intro i h
        rw [hps, List.getElem?_map, List.getElem?_take, if_pos h, List.getElem?_eq_getElem (Nat.lt_of_lt_of_le h hnx)]
        rfl
      have HPSL := Lib.hid hpsl
      have HPSI := Aside0.mk hpsi
      clear hmost hrr hpr hn hps hpsl hpsi
      rcases hcase with ⟨h0, hr0⟩ | ⟨h0, ad, q, rfl, h2, h3, h4⟩
      · have h00 : ¬ 0 < k.length := by omega
        have HR0 := Lib.hid hr0
        clear hr0
        go_wp2_with fail
        go_loopw [5, 6, 8] (fun va vb vi wr => ∃ (i : Nat) (a b : List S33), vi = .int .i64 i ∧ i ≤ n ∧ Hid (Below w.heap.size w wr) ∧ Hid (Rd wr (.slice A 0 c) k) ∧ Hid (RU wr PA xs) ∧ Hid (Rd wr va a ∧ Ok a ∧ a.length ≤ 40 + i ∧ ∀ x y, many a x y = many k x y + cnt (ps.take i) x y) ∧ Hid (Rd wr vb b ∧ Ok b ∧ b.length ≤ 40 + i ∧ ∀ x y, many b x y = many k x y + cnt (ps.reverse.take i) x y)) (fun _ _ vi _ => n - (intOf vi).toNat)
        case atStart => exact ⟨0, k, k, rfl, by omega, HB2, HR0, HPR, ⟨HR0.out, HOK.out, by omega, by simp [cnt]⟩, ⟨HR0.out, HOK.out, by omega, by simp [cnt]⟩⟩
        case round =>
          obtain ⟨i, a, b, rfl, hin, hbl, hr0, hru, hra, hrb⟩ := hrel
          by_cases hi : i < n
          · obtain ⟨ru1, ru2, pad, rfl, hpc⟩ := hru.out i (by omega)
            have hpi := HPSI.out i hi
            have hpj := rev_at HPSL.out hi
            rw [HPSI.out (n - 1 - i) (by omega)] at hpj
            obtain ⟨ru3, ru4, pad', he, hpd⟩ := hru.out (n - 1 - i) (by omega)
            obtain rfl := Option.some.inj he
            have hw1 : IntKind.i64.wrap ((n : Int) - 1) = ((n - 1 : Nat) : Int) := by rw [IntKind.wrap_i64]; omega
            have hw2 : IntKind.i64.wrap (((n - 1 : Nat) : Int) - (i : Int)) = ((n - 1 - i : Nat) : Int) := by rw [IntKind.wrap_i64]; omega
            have hix : i < xs.length := by omega
            have hjx : n - 1 - i < xs.length := by omega
            generalize xs[i] = x at *
            generalize xs[n - 1 - i] = y at *
            have HPI := Lib.hid hpi
            have HPJ := Lib.hid hpj
            have HPD := Lib.hid hpd
            clear hpi hpj hpd
            have hrd := hra.out.1.below (below_drew wr)
            have hla : a.length ≤ 1000 := by have := hra.out.2.2.1; omega
            have HQX := Aside0.mk (shr_pair ru1 ru2)
            have HQY := Aside0.mk (shr_pair ru3 ru4)
            go_upto_region 9 with (fail)
            go_region_held3 (fun w' => w'.cell? (pad.add i) = some (.int .u16 x)) (first | exact hpc | exact pw_cell_below hb2 hpc) (first | (go_at_call 10; rw [HQX.out.1, HQX.out.2]; refine (add_rd hrd hla _ _).mono ?_; rintro e w3 ⟨v3, rfl, ho, hb2⟩))
            have hb3 : Below wr.heap.size wr w3 := ⟨hb2.os, hb2.tape, hb2.output, hb2.size, hb2.block⟩
            have hR1 := pairOf_range ru1
            have hR2 := pairOf_range ru3
            have hEA := addE_cases hra.out.2.1 hR1.1 hR1.2
            have hEB := addE_cases hrb.out.2.1 hR2.1 hR2.2
            have HBL3 := Lib.hid (below_step hbl.out hb3)
            have HR03 := Lib.hid (hr0.out.below hb3)
            have HRU3 := Lib.hid (hru.out.below hb3)
            have hpd3 := pw_cell_below hb3 HPD.out
            have HO3 := Lib.hid ho.rd
            have hrdb := (hrb.out.1.below hb3).below (below_drew w3)
            have hlb : b.length ≤ 1000 := by have := hrb.out.2.2.1; omega
            have HRA := Lib.hid hra.out.2
            have HRB := Lib.hid hrb.out.2
            obtain ⟨pa, hpa⟩ : ∃ p, p = pairOf x := ⟨_, rfl⟩
            obtain ⟨pb, hpb⟩ : ∃ p, p = pairOf y := ⟨_, rfl⟩
            rw [← hpa] at hEA HO3 hR1 HPI ⊢
            rw [← hpb] at hEB hR2 HPJ HQY
            have HEA := Lib.hid hEA
            have HEB := Lib.hid hEB
            have HR1 := Lib.hid hR1
            have HR2 := Lib.hid hR2
            obtain ⟨EA, hEAe⟩ : ∃ E, E = addE a pa.1 pa.2 := ⟨_, rfl⟩
            rw [← hEAe]
            have HEAe := Lib.hid hEAe
            clear hb2 hb3 hra hrb hbl hr0 hru ho hpc hrd HPD HQX hEA hEB hR1 hR2 hpa hpb hEAe
            go_wp2_with fail
            go_region_held3 (fun w' => w'.cell? (pad.add (n - 1 - i)) = some (.int .u16 y)) (first | exact hpd3 | exact pw_cell_below hb2 hpd3) (first | (go_at_call 10; rw [HQY.out.1, HQY.out.2]; refine (add_rd hrdb hlb _ _).mono ?_; rintro e w4 ⟨v4, rfl, ho, hb2⟩))
            have hb4 : Below w3.heap.size w3 w4 := ⟨hb2.os, hb2.tape, hb2.output, hb2.size, hb2.block⟩
            have HBL4 := Lib.hid (below_step HBL3.out hb4)
            have HR04 := Lib.hid (HR03.out.below hb4)
            have HRU4 := Lib.hid (HRU3.out.below hb4)
            have HOA4 := Lib.hid (HO3.out.below hb4)
            have HOB4 := Lib.hid ho.rd
            obtain ⟨EB, hEBe⟩ : ∃ E, E = addE b pb.1 pb.2 := ⟨_, rfl⟩
            rw [← hEBe]
            have HEBe := Lib.hid hEBe
            clear hb2 hb4 ho hpd3 hrdb HQY hEBe HBL3 HR03 HRU3 HO3
            have HPJ' : ps.reverse[i]? = some pb := HPJ.out
            rcases HEA.out with ⟨hea, hma⟩ | hea
            · rcases HEB.out with ⟨heb, hmb⟩ | heb
              · have IA := add_inv HRA.out.1 HRA.out.2.1 HRA.out.2.2 HPI.out HR1.out.1 HR1.out.2 hma
                have IB := add_inv HRB.out.1 HRB.out.2.1 HRB.out.2.2 HPJ' HR2.out.1 HR2.out.2 hmb
                have hoa := HOA4.out
                have hob := HOB4.out
                rw [addO_ok hea] at hoa
                rw [addO_ok heb] at hob
                have HIA := Lib.hid IA
                have HIB := Lib.hid IB
                have HOA := Lib.hid hoa
                have HOB := Lib.hid hob
                have hea0 : EA = 0 := HEAe.out.trans hea
                have heb0 : EB = 0 := HEBe.out.trans heb
                subst hea0
                subst heb0
                clear hea heb hma hmb IA IB hoa hob HEA HEB HEAe HEBe HOA4 HOB4 HPJ' HPI HPJ
                go_wp2_with fail
                refine (check_rd HOA.out (by have := HIA.out.2.1; omega)).mono ?_
                rintro e w5 ⟨rfl, hb5⟩
                rw [if_pos HIA.out.1]
                have HBL5 := Lib.hid (below_step HBL4.out hb5)
                have HR05 := Lib.hid (HR04.out.below hb5)
                have HRU5 := Lib.hid (HRU4.out.below hb5)
                have HOA5 := Lib.hid (HOA.out.below hb5)
                have HOB5 := Lib.hid (HOB.out.below hb5)
                clear hb5 HBL4 HR04 HRU4 HOA HOB
                go_wp2_with fail
                go_roundw
                case rel => exact ⟨i + 1, addL a pa.1 pa.2, addL b pb.1 pb.2, by go_num, by omega, HBL5, HR05, HRU5, ⟨HOA5.out, HIA.out⟩, ⟨HOB5.out, HIB.out⟩⟩
                case measure => simp [intOf]; omega
              · have hea0 : EA = 0 := HEAe.out.trans hea
                have heb0 : EB = 4 := HEBe.out.trans heb
                subst hea0
                subst heb0
                clear hea heb hma HEA HEB HEAe HEBe
                go_wp2_with fail
                refine (awake_any _).mono ?_
                rintro e w9 ⟨rfl, hb1⟩
                have HB9 := Lib.hid (below_step HBL4.out hb1)
                clear hb1
                go_wp2_with fail
                go_ret
                exact ⟨rfl, HB9.out⟩
            · have hea0 : EA = 4 := HEAe.out.trans hea
              subst hea0
              clear hea HEA HEAe HEB HEBe
              go_wp2_with fail
              refine (awake_any _).mono ?_
              rintro e w9 ⟨rfl, hb1⟩
              have HB9 := Lib.hid (below_step HBL4.out hb1)
              clear hb1
              go_wp2_with fail
              go_ret
              exact ⟨rfl, HB9.out⟩
          · obtain rfl : i = n := by omega
            have hab : a = b := by
              refine ext hra.out.2.1 hrb.out.2.1 fun x y => ?_
              rw [hra.out.2.2.2 x y, hrb.out.2.2.2 x y, List.take_of_length_le (by have := HPSL.out; omega), List.take_of_length_le (by rw [List.length_reverse]; have := HPSL.out; omega), cnt_reverse]
            subst hab
            have hrb' := Lib.hid hrb.out.1
            have hma : ∀ x y, many a x y = many k x y + cnt (ps.drop 0) x y := fun x y => by
              rw [hra.out.2.2.2 x y, List.take_of_length_le (by have := HPSL.out; omega), List.drop_zero]
            have HMA := Lib.hid hma
            have hal := hra.out.2.2.1
            clear hma
            go_wp2_with fail
            refine (same_eq hra.out.1 hrb'.out (by omega)).mono ?_
            rintro e w5 ⟨rfl, hb5⟩
            have HBL5 := Lib.hid (below_step hbl.out hb5)
            have HR05 := Lib.hid (hr0.out.below hb5)
            have HRU5 := Lib.hid (hru.out.below hb5)
            have HOA5 := Lib.hid (hra.out.1.below hb5)
            have HOK5 := Lib.hid hra.out.2.1
            clear hb5 hbl hr0 hru hra hrb hrb'
            go_wp2_with fail
            go_loopw [5, 13] (fun va vj wr => ∃ (j : Nat) (a : List S33), vj = .int .i64 j ∧ j ≤ i ∧ Hid (Below w.heap.size w wr) ∧ Hid (Rd wr (.slice A 0 c) k) ∧ Hid (RU wr PA xs) ∧ Hid (Rd wr va a ∧ Ok a ∧ a.length ≤ 100 ∧ ∀ x y, many a x y = many k x y + cnt (ps.drop j) x y)) (fun _ vj _ => i - (intOf vj).toNat)
            case atStart => exact ⟨0, a, rfl, by omega, HBL5, HR05, HRU5, ⟨HOA5.out, HOK5.out, by omega, HMA.out⟩⟩
            case round =>
              clear HBL5 HR05 HRU5 HOA5 HOK5 HMA hal
              obtain ⟨j, a, rfl, hjn, hbl, hr0, hru, hra⟩ := hrel
              by_cases hj : j < i
              · obtain ⟨ru1, ru2, pad, rfl, hpc⟩ := hru.out j (by omega)
                have hpj := HPSI.out j hj
                have hjx : j < xs.length := by omega
                generalize xs[j] = x at *
                have hR1 := pairOf_range ru1
                have hDI := drop_inv HOK.out hra.out.2.1 hra.out.2.2.1 hra.out.2.2.2 hpj hR1.1 hR1.2
                have HQX := Aside0.mk (shr_pair ru1 ru2)
                have hrd := hra.out.1.below (below_drew _)
                have hla : a.length ≤ 1000 := by have := hra.out.2.2.1; omega
                have HDI := Lib.hid hDI
                clear hpj hDI
                go_wp2_with fail
                go_region_held3 (fun w' => w'.cell? (pad.add j) = some (.int .u16 x)) (first | exact hpc | exact pw_cell_below hb2 hpc) (first | (go_at_call 11; rw [HQX.out.1, HQX.out.2]; refine (drop_rd hrd hla _ _).mono ?_; rintro e w6 ⟨v6, rfl, ho, hb2⟩))
                rw [HDI.out.1]
                rw [dropO_ok HDI.out.1] at ho
                have hb6 := below_of_drew hb2
                have HBL6 := Lib.hid (below_step hbl.out hb6)
                have HR06 := Lib.hid (hr0.out.below hb6)
                have HRU6 := Lib.hid (hru.out.below hb6)
                have HO6 := Lib.hid ho.rd
                clear hb2 hb6 ho hpc hrd HQX hra hbl hr0 hru
                go_wp2_with fail
                refine (check_rd HO6.out (by have := HDI.out.2.2.1; omega)).mono ?_
                rintro e w7 ⟨rfl, hb7⟩
                rw [if_pos HDI.out.2.1]
                have HBL7 := Lib.hid (below_step HBL6.out hb7)
                have HR07 := Lib.hid (HR06.out.below hb7)
                have HRU7 := Lib.hid (HRU6.out.below hb7)
                have HO7 := Lib.hid (HO6.out.below hb7)
                clear hb7 HBL6 HR06 HRU6 HO6
                go_wp2_with fail
                go_roundw
                case rel => exact ⟨j + 1, _, by go_num, by omega, HBL7, HR07, HRU7, ⟨HO7.out, HDI.out.2⟩⟩
                case measure => simp [intOf]; omega
              · have hji : j = i := by omega
                have hak : a = k := by
                  refine ext hra.out.2.1 HOK.out fun x y => ?_
                  rw [hra.out.2.2.2 x y, List.drop_of_length_le (by have := HPSL.out; omega)]
                  simp [cnt]
                have hra1 := hra.out.1
                rw [hak] at hra1
                have HRK := Lib.hid hra1
                clear hra1 hak hra
                go_wp2_with fail
                refine (same_eq HRK.out hr0.out (by omega)).mono ?_
                rintro e w7 ⟨rfl, hb7⟩
                have HBL7 := Lib.hid (below_step hbl.out hb7)
                clear hb7
                go_wp2_with fail
                refine (awake_any _).mono ?_
                rintro e w9 ⟨rfl, hb1⟩
                have HB9 := Lib.hid (below_step HBL7.out hb1)
                clear hb1
                go_wp2_with fail
                go_ret
                exact ⟨rfl, HB9.out⟩
      · have HR0 := Lib.hid HR2.out
        go_wp2_with fail
        go_loopw [5, 6, 8] (fun va vb vi wr => ∃ (i : Nat) (a b : List S33), vi = .int .i64 i ∧ i ≤ n ∧ Hid (Below w.heap.size w wr) ∧ Hid (Rd wr (.slice (some ad) k.length c) k) ∧ Hid (RU wr PA xs) ∧ Hid (Rd wr va a ∧ Ok a ∧ a.length ≤ 40 + i ∧ ∀ x y, many a x y = many k x y + cnt (ps.take i) x y) ∧ Hid (Rd wr vb b ∧ Ok b ∧ b.length ≤ 40 + i ∧ ∀ x y, many b x y = many k x y + cnt (ps.reverse.take i) x y)) (fun _ _ vi _ => n - (intOf vi).toNat)
        case atStart => exact ⟨0, k, k, rfl, by omega, HB2, HR0, HPR, ⟨HR0.out, HOK.out, by omega, by simp [cnt]⟩, ⟨HR0.out, HOK.out, by omega, by simp [cnt]⟩⟩
        case round =>
          obtain ⟨i, a, b, rfl, hin, hbl, hr0, hru, hra, hrb⟩ := hrel
          by_cases hi : i < n
          · obtain ⟨ru1, ru2, pad, rfl, hpc⟩ := hru.out i (by omega)
            have hpi := HPSI.out i hi
            have hpj := rev_at HPSL.out hi
            rw [HPSI.out (n - 1 - i) (by omega)] at hpj
            obtain ⟨ru3, ru4, pad', he, hpd⟩ := hru.out (n - 1 - i) (by omega)
            obtain rfl := Option.some.inj he
            have hw1 : IntKind.i64.wrap ((n : Int) - 1) = ((n - 1 : Nat) : Int) := by rw [IntKind.wrap_i64]; omega
            have hw2 : IntKind.i64.wrap (((n - 1 : Nat) : Int) - (i : Int)) = ((n - 1 - i : Nat) : Int) := by rw [IntKind.wrap_i64]; omega
            have hix : i < xs.length := by omega
            have hjx : n - 1 - i < xs.length := by omega
            generalize xs[i] = x at *
            generalize xs[n - 1 - i] = y at *
            have HPI := Lib.hid hpi
            have HPJ := Lib.hid hpj
            have HPD := Lib.hid hpd
            clear hpi hpj hpd
            have hrd := hra.out.1.below (below_drew wr)
            have hla : a.length ≤ 1000 := by have := hra.out.2.2.1; omega
            have HQX := Aside0.mk (shr_pair ru1 ru2)
            have HQY := Aside0.mk (shr_pair ru3 ru4)
            go_upto_region 9 with (fail)
            go_region_held3 (fun w' => w'.cell? (pad.add i) = some (.int .u16 x)) (first | exact hpc | exact pw_cell_below hb2 hpc) (first | (go_at_call 10; rw [HQX.out.1, HQX.out.2]; refine (add_rd hrd hla _ _).mono ?_; rintro e w3 ⟨v3, rfl, ho, hb2⟩))
            have hb3 : Below wr.heap.size wr w3 := ⟨hb2.os, hb2.tape, hb2.output, hb2.size, hb2.block⟩
            have hR1 := pairOf_range ru1
            have hR2 := pairOf_range ru3
            have hEA := addE_cases hra.out.2.1 hR1.1 hR1.2
            have hEB := addE_cases hrb.out.2.1 hR2.1 hR2.2
            have HBL3 := Lib.hid (below_step hbl.out hb3)
            have HR03 := Lib.hid (hr0.out.below hb3)
            have HRU3 := Lib.hid (hru.out.below hb3)
            have hpd3 := pw_cell_below hb3 HPD.out
            have HO3 := Lib.hid ho.rd
            have hrdb := (hrb.out.1.below hb3).below (below_drew w3)
            have hlb : b.length ≤ 1000 := by have := hrb.out.2.2.1; omega
            have HRA := Lib.hid hra.out.2
            have HRB := Lib.hid hrb.out.2
            obtain ⟨pa, hpa⟩ : ∃ p, p = pairOf x := ⟨_, rfl⟩
            obtain ⟨pb, hpb⟩ : ∃ p, p = pairOf y := ⟨_, rfl⟩
            rw [← hpa] at hEA HO3 hR1 HPI ⊢
            rw [← hpb] at hEB hR2 HPJ HQY
            have HEA := Lib.hid hEA
            have HEB := Lib.hid hEB
            have HR1 := Lib.hid hR1
            have HR2 := Lib.hid hR2
            obtain ⟨EA, hEAe⟩ : ∃ E, E = addE a pa.1 pa.2 := ⟨_, rfl⟩
            rw [← hEAe]
            have HEAe := Lib.hid hEAe
            clear hb2 hb3 hra hrb hbl hr0 hru ho hpc hrd HPD HQX hEA hEB hR1 hR2 hpa hpb hEAe
            go_wp2_with fail
            go_region_held3 (fun w' => w'.cell? (pad.add (n - 1 - i)) = some (.int .u16 y)) (first | exact hpd3 | exact pw_cell_below hb2 hpd3) (first | (go_at_call 10; rw [HQY.out.1, HQY.out.2]; refine (add_rd hrdb hlb _ _).mono ?_; rintro e w4 ⟨v4, rfl, ho, hb2⟩))
            have hb4 : Below w3.heap.size w3 w4 := ⟨hb2.os, hb2.tape, hb2.output, hb2.size, hb2.block⟩
            have HBL4 := Lib.hid (below_step HBL3.out hb4)
            have HR04 := Lib.hid (HR03.out.below hb4)
            have HRU4 := Lib.hid (HRU3.out.below hb4)
            have HOA4 := Lib.hid (HO3.out.below hb4)
            have HOB4 := Lib.hid ho.rd
            obtain ⟨EB, hEBe⟩ : ∃ E, E = addE b pb.1 pb.2 := ⟨_, rfl⟩
            rw [← hEBe]
            have HEBe := Lib.hid hEBe
            clear hb2 hb4 ho hpd3 hrdb HQY hEBe HBL3 HR03 HRU3 HO3
            have HPJ' : ps.reverse[i]? = some pb := HPJ.out
            rcases HEA.out with ⟨hea, hma⟩ | hea
            · rcases HEB.out with ⟨heb, hmb⟩ | heb
              · have IA := add_inv HRA.out.1 HRA.out.2.1 HRA.out.2.2 HPI.out HR1.out.1 HR1.out.2 hma
                have IB := add_inv HRB.out.1 HRB.out.2.1 HRB.out.2.2 HPJ' HR2.out.1 HR2.out.2 hmb
                have hoa := HOA4.out
                have hob := HOB4.out
                rw [addO_ok hea] at hoa
                rw [addO_ok heb] at hob
                have HIA := Lib.hid IA
                have HIB := Lib.hid IB
                have HOA := Lib.hid hoa
                have HOB := Lib.hid hob
                have hea0 : EA = 0 := HEAe.out.trans hea
                have heb0 : EB = 0 := HEBe.out.trans heb
                subst hea0
                subst heb0
                clear hea heb hma hmb IA IB hoa hob HEA HEB HEAe HEBe HOA4 HOB4 HPJ' HPI HPJ
                go_wp2_with fail
                refine (check_rd HOA.out (by have := HIA.out.2.1; omega)).mono ?_
                rintro e w5 ⟨rfl, hb5⟩
                rw [if_pos HIA.out.1]
                have HBL5 := Lib.hid (below_step HBL4.out hb5)
                have HR05 := Lib.hid (HR04.out.below hb5)
                have HRU5 := Lib.hid (HRU4.out.below hb5)
                have HOA5 := Lib.hid (HOA.out.below hb5)
                have HOB5 := Lib.hid (HOB.out.below hb5)
                clear hb5 HBL4 HR04 HRU4 HOA HOB
                go_wp2_with fail
                go_roundw
                case rel => exact ⟨i + 1, addL a pa.1 pa.2, addL b pb.1 pb.2, by go_num, by omega, HBL5, HR05, HRU5, ⟨HOA5.out, HIA.out⟩, ⟨HOB5.out, HIB.out⟩⟩
                case measure => simp [intOf]; omega
              · have hea0 : EA = 0 := HEAe.out.trans hea
                have heb0 : EB = 4 := HEBe.out.trans heb
                subst hea0
                subst heb0
                clear hea heb hma HEA HEB HEAe HEBe
                go_wp2_with fail
                refine (awake_any _).mono ?_
                rintro e w9 ⟨rfl, hb1⟩
                have HB9 := Lib.hid (below_step HBL4.out hb1)
                clear hb1
                go_wp2_with fail
                go_ret
                exact ⟨rfl, HB9.out⟩
            · have hea0 : EA = 4 := HEAe.out.trans hea
              subst hea0
              clear hea HEA HEAe HEB HEBe
              go_wp2_with fail
              refine (awake_any _).mono ?_
              rintro e w9 ⟨rfl, hb1⟩
              have HB9 := Lib.hid (below_step HBL4.out hb1)
              clear hb1
              go_wp2_with fail
              go_ret
              exact ⟨rfl, HB9.out⟩
          · obtain rfl : i = n := by omega
            have hab : a = b := by
              refine ext hra.out.2.1 hrb.out.2.1 fun x y => ?_
              rw [hra.out.2.2.2 x y, hrb.out.2.2.2 x y, List.take_of_length_le (by have := HPSL.out; omega), List.take_of_length_le (by rw [List.length_reverse]; have := HPSL.out; omega), cnt_reverse]
            subst hab
            have hrb' := Lib.hid hrb.out.1
            have hma : ∀ x y, many a x y = many k x y + cnt (ps.drop 0) x y := fun x y => by
              rw [hra.out.2.2.2 x y, List.take_of_length_le (by have := HPSL.out; omega), List.drop_zero]
            have HMA := Lib.hid hma
            have hal := hra.out.2.2.1
            clear hma
            go_wp2_with fail
            refine (same_eq hra.out.1 hrb'.out (by omega)).mono ?_
            rintro e w5 ⟨rfl, hb5⟩
            have HBL5 := Lib.hid (below_step hbl.out hb5)
            have HR05 := Lib.hid (hr0.out.below hb5)
            have HRU5 := Lib.hid (hru.out.below hb5)
            have HOA5 := Lib.hid (hra.out.1.below hb5)
            have HOK5 := Lib.hid hra.out.2.1
            clear hb5 hbl hr0 hru hra hrb hrb'
            go_wp2_with fail
            go_loopw [5, 13] (fun va vj wr => ∃ (j : Nat) (a : List S33), vj = .int .i64 j ∧ j ≤ i ∧ Hid (Below w.heap.size w wr) ∧ Hid (Rd wr (.slice (some ad) k.length c) k) ∧ Hid (RU wr PA xs) ∧ Hid (Rd wr va a ∧ Ok a ∧ a.length ≤ 100 ∧ ∀ x y, many a x y = many k x y + cnt (ps.drop j) x y)) (fun _ vj _ => i - (intOf vj).toNat)
            case atStart => exact ⟨0, a, rfl, by omega, HBL5, HR05, HRU5, ⟨HOA5.out, HOK5.out, by omega, HMA.out⟩⟩
            case round =>
              clear HBL5 HR05 HRU5 HOA5 HOK5 HMA hal
              obtain ⟨j, a, rfl, hjn, hbl, hr0, hru, hra⟩ := hrel
              by_cases hj : j < i
              · obtain ⟨ru1, ru2, pad, rfl, hpc⟩ := hru.out j (by omega)
                have hpj := HPSI.out j hj
                have hjx : j < xs.length := by omega
                generalize xs[j] = x at *
                have hR1 := pairOf_range ru1
                have hDI := drop_inv HOK.out hra.out.2.1 hra.out.2.2.1 hra.out.2.2.2 hpj hR1.1 hR1.2
                have HQX := Aside0.mk (shr_pair ru1 ru2)
                have hrd := hra.out.1.below (below_drew _)
                have hla : a.length ≤ 1000 := by have := hra.out.2.2.1; omega
                have HDI := Lib.hid hDI
                clear hpj hDI
                go_wp2_with fail
                go_region_held3 (fun w' => w'.cell? (pad.add j) = some (.int .u16 x)) (first | exact hpc | exact pw_cell_below hb2 hpc) (first | (go_at_call 11; rw [HQX.out.1, HQX.out.2]; refine (drop_rd hrd hla _ _).mono ?_; rintro e w6 ⟨v6, rfl, ho, hb2⟩))
                rw [HDI.out.1]
                rw [dropO_ok HDI.out.1] at ho
                have hb6 := below_of_drew hb2
                have HBL6 := Lib.hid (below_step hbl.out hb6)
                have HR06 := Lib.hid (hr0.out.below hb6)
                have HRU6 := Lib.hid (hru.out.below hb6)
                have HO6 := Lib.hid ho.rd
                clear hb2 hb6 ho hpc hrd HQX hra hbl hr0 hru
                go_wp2_with fail
                refine (check_rd HO6.out (by have := HDI.out.2.2.1; omega)).mono ?_
                rintro e w7 ⟨rfl, hb7⟩
                rw [if_pos HDI.out.2.1]
                have HBL7 := Lib.hid (below_step HBL6.out hb7)
                have HR07 := Lib.hid (HR06.out.below hb7)
                have HRU7 := Lib.hid (HRU6.out.below hb7)
                have HO7 := Lib.hid (HO6.out.below hb7)
                clear hb7 HBL6 HR06 HRU6 HO6
                go_wp2_with fail
                go_roundw
                case rel => exact ⟨j + 1, _, by go_num, by omega, HBL7, HR07, HRU7, ⟨HO7.out, HDI.out.2⟩⟩
                case measure => simp [intOf]; omega
              · have hji : j = i := by omega
                have hak : a = k := by
                  refine ext hra.out.2.1 HOK.out fun x y => ?_
                  rw [hra.out.2.2.2 x y, List.drop_of_length_le (by have := HPSL.out; omega)]
                  simp [cnt]
                have hra1 := hra.out.1
                rw [hak] at hra1
                have HRK := Lib.hid hra1
                clear hra1 hak hra
                go_wp2_with fail
                refine (same_eq HRK.out hr0.out (by omega)).mono ?_
                rintro e w7 ⟨rfl, hb7⟩
                have HBL7 := Lib.hid (below_step hbl.out hb7)
                clear hb7
                go_wp2_with fail
                refine (awake_any _).mono ?_
                rintro e w9 ⟨rfl, hb1⟩
                have HB9 := Lib.hid (below_step HBL7.out hb1)
                clear hb1
                go_wp2_with fail
                go_ret
                exact ⟨rfl, HB9.out⟩
  · rw [if_neg hok]
    go_wp2_with fail
    refine (awake_any _).mono ?_
    rintro e w9 ⟨rfl, hb1⟩
    have HB9 := Lib.hid (below_step HB2.out hb1)
    clear hb1
    go_wp2_with fail
    go_ret
    exact ⟨rfl, HB9.out⟩
end Go.Proofs.Ytbkogefcjcokhaa.Ed
