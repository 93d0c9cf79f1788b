/- The law NumberForms answers true for every input: a 0 ahead, a sign that is no digit, and an empty text are no numbers' texts. -/
import Derived.Test.YtgldbbgcdpgbcaaPAllx3
import Derived.Test.YtgldbbgcdpgbcaaEv
set_option linter.unusedVariables false
set_option linter.unusedSimpArgs false
namespace Go.Proofs.Ytgldbbgcdpgbcaa.Pure
open Go.RowKit Go.Proofs.Ytgldbbgcdpgbcaa.PAll Go.Proofs.Ytgldbbgcdpgbcaa.Num Go.Proofs.Ytgldbbgcdpgbcaa.Oct Go.Proofs.Ytgldbbgcdpgbcaa.Ev Go.Proofs.YtgldbbgcdpgbcaaW.PrintWords Go.Proofs.YtgldbbgcdpgbcaaW.PrintLast

theorem u8_range {n : Int} (h : (Lit.int .u8 n).wf = true) : 0 ≤ n ∧ n ≤ 255 := by
  simp only [Lit.wf, Bool.and_eq_true, decide_eq_true_eq] at h
  have h1 : IntKind.u8.min = 0 := by decide
  have h2 : IntKind.u8.max = 255 := by decide
  rw [h1, h2] at h
  exact h
theorem by_append (a b : ByteArray) : by_ (a ++ b) = by_ a ++ by_ b := by
  simp only [by_]
  rw [ByteArray.data_append]
  simp
theorem by_take (a : ByteArray) (n : Nat) : by_ (a.extract 0 n) = (by_ a).take n := by
  simp only [by_]
  rw [ByteArray.data_extract]
  simp
theorem by_drop (a : ByteArray) (n : Nat) : by_ (a.extract n a.size) = (by_ a).drop n := by
  simp only [by_]
  rw [ByteArray.data_extract]
  simp [List.take_of_length_le]
/-- A text with one sign put in. -/
def put1 (l : List UInt8) (i : Nat) (c : UInt8) : List UInt8 := l.take i ++ c :: l.drop i
theorem put1_digs {l : List UInt8} {i : Nat} {c : UInt8} : Digs (put1 l i c) ↔ Digs l ∧ Dig c := by
  constructor
  · intro h
    refine ⟨fun d hd => ?_, h c (by simp [put1])⟩
    have : d ∈ l.take i ++ l.drop i := by rw [List.take_append_drop]; exact hd
    rcases List.mem_append.1 this with q | q
    · exact h d (by simp [put1, q])
    · exact h d (by simp [put1, q])
  · rintro ⟨h1, h2⟩ d hd
    rcases List.mem_append.1 hd with q | q
    · exact h1 d (List.mem_of_mem_take q)
    · rcases List.mem_cons.1 q with rfl | q
      · exact h2
      · exact h1 d (List.mem_of_mem_drop q)
theorem put1_ne (l : List UInt8) (i : Nat) (c : UInt8) : put1 l i c ≠ [] := by simp [put1]
theorem put1_length (l : List UInt8) (i : Nat) (c : UInt8) (h : i ≤ l.length) : (put1 l i c).length = l.length + 1 := by simp [put1]; omega
theorem put1_head0 (l : List UInt8) (c : UInt8) : (put1 l 0 c).head? = some c := by simp [put1]
theorem put1_head (l : List UInt8) (i : Nat) (c : UInt8) (h : 0 < i) (hl : l ≠ []) : (put1 l i c).head? = l.head? := by
  cases l with
  | nil => exact absurd rfl hl
  | cons d l => cases i with
    | zero => omega
    | succ i => simp [put1]
theorem forms_j1_no (k : Nat) (t x8 : ByteArray) (c : Int) (i : Int) (hs : x8.size ≤ 500) (h : ¬ IsNum (by_ x8)) :
    graftwoodlaw02_NumberForms.j1 (k + 5) t c i x8 true = some true := by
  have hw : graftwoodlaw02_awake.f (k + 4) = some true := awake k
  simp only [graftwoodlaw02_NumberForms.j1]
  rw [if_pos trivial, may_no (by omega) h, Option.bind_some, if_neg (by simp), hw]; rfl
theorem may_eq {a : ByteArray} (hs : a.size ≤ 140737488351232) : number_May.f a = some (decide (IsNum (by_ a))) := by
  by_cases h : IsNum (by_ a)
  · rw [may_yes hs h]; simp [h]
  · rw [may_no hs h]; simp [h]
theorem forms_j1_yes (k : Nat) (t x8 : ByteArray) (c : UInt8) (i : Nat) (ht : t.size ≤ 400) (hi : i ≤ t.size) (h8 : by_ x8 = put1 (by_ t) i c) (hc : Dig c) :
    graftwoodlaw02_NumberForms.j1 (k + 5) t (c.toNat : Int) (i : Int) x8 false = some true := by
  have hw : graftwoodlaw02_awake.f (k + 4) = some true := awake k
  have hl := by_length t
  have hs8 : x8.size ≤ 401 := by rw [← by_length, h8, put1_length _ _ _ (by omega)]; omega
  simp only [graftwoodlaw02_NumberForms.j1]
  rw [if_neg (by simp), may_eq (by omega), Option.bind_some]
  by_cases nt : IsNum (by_ t)
  · rw [if_pos (by simpa using nt), may_eq (by omega), Option.bind_some, toList_by, h8, hw]
    have hnum : IsNum (put1 (by_ t) i c) ↔ ((put1 (by_ t) i c).head? = some 48 → False) := by
      have h1 := nt.pos
      constructor
      · rintro ⟨_, _, q⟩ e
        have := q e
        rw [put1_length _ _ _ (by omega)] at this
        omega
      · intro e
        exact ⟨put1_ne _ _ _, put1_digs.2 ⟨nt.2.1, hc⟩, fun q => (e q).elim⟩
    have hc48 : (c.toNat : Int) = 48 ↔ c = 48 := ⟨fun e => UInt8.toNat.inj (show c.toNat = 48 by omega), fun e => by rw [e]; rfl⟩
    by_cases h1 : by_ t = [48]
    · rw [if_pos h1]
      by_cases h2 : (i : Int) = 0
      · have h2' : i = 0 := by omega
        subst h2'
        rw [if_pos h2]
        have e : decide (IsNum (put1 (by_ t) 0 c)) = ((c.toNat : Int) != 48) := by
          rw [put1_head0] at hnum
          by_cases h3 : c = 48
          · subst h3
            rw [decide_eq_false (fun q => hnum.1 q rfl)]; rfl
          · rw [decide_eq_true (hnum.2 (fun q => h3 (Option.some.inj q)))]
            exact (bne_iff_ne.2 (fun q => h3 (hc48.1 q))).symm
        rw [e, if_pos (by simp)]; rfl
      · rw [if_neg h2]
        have e : decide (IsNum (put1 (by_ t) i c)) = false := decide_eq_false (fun q => hnum.1 q (by rw [put1_head _ _ _ (by omega) nt.1, h1]; rfl))
        rw [e, if_pos (by simp)]; rfl
    · rw [if_neg h1]
      have h0 : (by_ t).head? ≠ some 48 := fun q => by
        have := nt.2.2 q
        cases hb : by_ t with
        | nil => exact nt.1 hb
        | cons d l =>
          rw [hb] at this q h1
          simp at this q
          subst this q
          exact h1 rfl
      by_cases h2 : (i : Int) > 0
      · rw [if_pos h2]
        have e : decide (IsNum (put1 (by_ t) i c)) = true := decide_eq_true (hnum.2 (fun q => by rw [put1_head _ _ _ (by omega) nt.1] at q; exact h0 q))
        rw [e, if_pos (by simp)]; rfl
      · rw [if_neg h2]
        have h2' : i = 0 := by omega
        subst h2'
        rw [put1_head0] at hnum
        by_cases h3 : c = 48
        · rw [if_pos (hc48.2 h3)]
          have e : decide (IsNum (put1 (by_ t) 0 c)) = false := decide_eq_false (fun q => hnum.1 q (by rw [h3]))
          rw [e, if_pos (by simp)]; rfl
        · rw [if_neg (fun q => h3 (hc48.1 q))]
          have e : decide (IsNum (put1 (by_ t) 0 c)) = true := decide_eq_true (hnum.2 (fun q => h3 (Option.some.inj q)))
          rw [e, if_pos (by simp)]; rfl
  · rw [if_neg (by simpa using nt), hw]; rfl

theorem NumberForms : graftwoodlaw02_NumberForms.Pure := by
  intro a at_ c _ hat hc
  refine ⟨6, ?_⟩
  obtain ⟨t, fa, ht⟩ := few a
  obtain ⟨ha0, ha1⟩ := u8_range hat
  obtain ⟨hc0, hc1⟩ := u8_range hc
  clear hat hc
  obtain ⟨d, hd⟩ : ∃ d : UInt8, (d.toNat : Int) = c := ⟨UInt8.ofNat c.toNat, by rw [UInt8.toNat_ofNat']; omega⟩
  have hl := by_length t
  unfold graftwoodlaw02_NumberForms.f
  rw [fa, Option.bind_some, may_no (by decide) (by decide), Option.bind_some, if_neg (by simp), if_pos (by omega)]
  have hs1 : ((⟨#[48]⟩ : ByteArray) ++ t).size ≤ 401 := by rw [ByteArray.size_append]; show 1 + t.size ≤ 401; omega
  rw [may_eq (by omega), Option.bind_some, by_append]
  have h48 : by_ (⟨#[48]⟩ : ByteArray) = [48] := rfl
  rw [h48, toList_by]
  have e : (decide (IsNum ([48] ++ by_ t)) != (by_ t == ([] : List UInt8))) = false := by
    cases hb : by_ t with
    | nil => decide
    | cons x l =>
      rw [decide_eq_false (fun q => by have := q.2.2 rfl; simp at this)]
      rfl
  rw [e]
  simp only [graftwoodlaw02_NumberForms.j0]
  have w1 : wrap64 ((t.size : Int) + 1) = (t.size : Int) + 1 := by unfold wrap64; omega
  have w2 : wrap64 at_ = at_ := by unfold wrap64; omega
  rw [w1, w2, if_neg (by simp), if_neg (by omega)]
  obtain ⟨i, hi⟩ : ∃ i : Nat, Int.tmod at_ ((t.size : Int) + 1) = (i : Int) ∧ i ≤ t.size := by
    have h1 : 0 ≤ Int.tmod at_ ((t.size : Int) + 1) := Int.tmod_nonneg _ ha0
    have h2 : Int.tmod at_ ((t.size : Int) + 1) < (t.size : Int) + 1 := Int.tmod_lt_of_pos _ (by omega)
    exact ⟨(Int.tmod at_ ((t.size : Int) + 1)).toNat, by omega, by omega⟩
  obtain ⟨hi1, hi2⟩ := hi
  rw [hi1, if_pos (by omega), if_pos (by omega), Option.bind_some, Int.toNat_natCast]
  have hn : by_ (strOfNums [c]) = [d] := by
    have : (strOfNums [c]).data.toList = [UInt8.ofNat c.toNat] := rfl
    show (strOfNums [c]).data.toList = [d]
    rw [this, ← hd, Int.toNat_natCast, UInt8.ofNat_toNat]
  have hns : (strOfNums [c]).size = 1 := by rw [← by_length, hn]; rfl
  have hx : (t.extract 0 i).size = i := by rw [ByteArray.size_extract]; omega
  have hy : (t.extract i t.size).size = t.size - i := by rw [ByteArray.size_extract]; omega
  rw [if_pos (by omega), if_pos (by rw [ByteArray.size_append]; omega)]
  have h8 : by_ (((t.extract 0 i) ++ (strOfNums [c])) ++ (t.extract i t.size)) = put1 (by_ t) i d := by
    rw [by_append, by_append, by_take, by_drop, hn, put1]
    simp
  have hs8 : (((t.extract 0 i) ++ (strOfNums [c])) ++ (t.extract i t.size)).size ≤ 500 := by
    rw [ByteArray.size_append, ByteArray.size_append]; omega
  generalize ((t.extract 0 i) ++ (strOfNums [c])) ++ (t.extract i t.size) = x8 at *
  by_cases hdig : Dig d
  · have hdd := hdig
    unfold Dig at hdd
    rw [if_neg (by omega), decide_eq_false (show ¬ c > 57 by omega), ← hd]
    exact forms_j1_yes 0 t x8 d i ht hi2 h8 hdig
  · have hno : ¬ IsNum (by_ x8) := fun q => hdig (put1_digs.1 (h8 ▸ q.2.1)).2
    have h1 := forms_j1_no 0 t x8 c (i : Int) hs8 hno
    split
    · exact h1
    · have : c > 57 := by unfold Dig at hdig; omega
      rw [decide_eq_true this]
      exact h1

end Go.Proofs.Ytgldbbgcdpgbcaa.Pure
