/- The law NumberTells answers true for every input: which texts are numbers, two held against one another, a text's number, and the next one, exactly as the document says. -/
import Derived.Test.YtgldbbgcdpgbcaaPAllx7
import Derived.Test.YtgldbbgcdpgbcaaEvRef
set_option linter.unusedVariables false
set_option linter.unusedSimpArgs false
namespace Go.Proofs.Ytgldbbgcdpgbcaa.Pure
open Go.RowKit Go.Proofs.Ytgldbbgcdpgbcaa.PAll Go.Proofs.Ytgldbbgcdpgbcaa.Num Go.Proofs.Ytgldbbgcdpgbcaa.Oct Go.Proofs.Ytgldbbgcdpgbcaa.Ev Go.Proofs.YtgldbbgcdpgbcaaW.PrintWords Go.Proofs.YtgldbbgcdpgbcaaW.PrintLast

theorem may_eq {a : ByteArray} (hs : a.size ≤ 140737488351232) : number_May.f a = some (decide (IsNum (by_ a))) := by
  by_cases h : IsNum (by_ a)
  · rw [may_yes hs h]; simp [h]
  · rw [may_no hs h]; simp [h]
theorem value_some {a : ByteArray} (hs : a.size ≤ 140737488351232) : ∃ v e, number_Value.f a = some (v, e) := by
  unfold number_Value.f
  rw [if_pos hs, may_eq hs, Option.bind_some]
  exact ⟨_, _, rfl⟩
/-- What two texts come to, be they numbers or not. -/
def cmpE (a b : ByteArray) : Int × Int := if IsNum (by_ a) ∧ IsNum (by_ b) then (cmpV (by_ a) (by_ b), 0) else (0, 1)
theorem cmp_eq (k : Nat) {a b : ByteArray} (ha : a.size ≤ 140737488351232) (hb : b.size ≤ 140737488351232) : number_Cmp.f (k + 4) a b = some (cmpE a b) := by
  unfold cmpE
  by_cases h : IsNum (by_ a) ∧ IsNum (by_ b)
  · rw [if_pos h]; exact cmp_yes k ha hb h.1 h.2
  · rw [if_neg h]; exact cmp_no k ha hb h
def nextE (a : ByteArray) : ByteArray × Int := if IsNum (by_ a) then (⟨(inc (by_ a)).toArray⟩, 0) else (ByteArray.empty, 1)
theorem next_eq {a : ByteArray} (ha : a.size ≤ 140737488351232) : number_Next.f a = some (nextE a) := by
  unfold nextE
  by_cases h : IsNum (by_ a)
  · rw [if_pos h]; exact next_yes ha h
  · rw [if_neg h]; exact next_no ha h
theorem tells_j1 (k : Nat) (a b : ByteArray) (ha : a.size ≤ 400) (hb : b.size ≤ 400) (na : IsNum (by_ a)) :
    graftwoodlaw02_NumberTells.j1 (k + 500) a b (cmpE a b).1 (cmpE a b).2 false = some true := by
  have hw : graftwoodlaw02_awake.f (k + 499) = some true := awake (k + 495)
  rw [show k + 500 = (k + 499) + 1 from rfl]
  simp only [graftwoodlaw02_NumberTells.j1]
  rw [if_neg (by simp), refmay (k + 98) b hb, Option.bind_some]
  by_cases nb : IsNum (by_ b)
  · rw [if_pos (by simpa using nb), refcmp (k + 98) a b ha hb na.2.1 nb.2.1, Option.bind_some]
    have e : cmpE a b = (cmpV (by_ a) (by_ b), 0) := if_pos ⟨na, nb⟩
    rw [e, if_pos rfl, if_pos rfl, hw]; rfl
  · rw [if_neg (by simpa using nb)]
    have e : cmpE a b = (0, 1) := if_neg (fun h => nb h.2)
    rw [e, if_pos rfl, if_pos rfl, hw]; rfl
theorem tells_j0 (k : Nat) (a b : ByteArray) (ha : a.size ≤ 400) (hb : b.size ≤ 400) :
    graftwoodlaw02_NumberTells.j0 (k + 501) a b (cmpE a b).1 (cmpE a b).2 (nextE a).1 (nextE a).2 false = some true := by
  have hw : graftwoodlaw02_awake.f (k + 500) = some true := awake (k + 496)
  rw [show k + 501 = (k + 500) + 1 from rfl]
  simp only [graftwoodlaw02_NumberTells.j0]
  rw [if_neg (by simp), refmay (k + 99) a ha, Option.bind_some]
  by_cases na : IsNum (by_ a)
  · rw [if_pos (by simpa using na), refnext (k + 99) a ha na.2.1, Option.bind_some]
    have h1 := tells_j1 k a b ha hb na
    have e : nextE a = (⟨(inc (by_ a)).toArray⟩, 0) := if_pos na
    rw [e, if_pos rfl]
    exact h1
  · rw [if_neg (by simpa using na)]
    have e : cmpE a b = (0, 1) := if_neg (fun h => na h.1)
    have e2 : nextE a = (ByteArray.empty, 1) := if_neg na
    rw [e, e2, if_pos rfl, if_pos rfl, if_pos (by decide +kernel), if_pos rfl, hw]; rfl

theorem NumberTells : graftwoodlaw02_NumberTells.Pure := by
  intro a b n _ _ hn
  refine ⟨501, ?_⟩
  obtain ⟨a, fa, ha⟩ := few a
  obtain ⟨b, fb, hb⟩ := few b
  obtain ⟨h0, h1⟩ := u64_range hn
  obtain ⟨n, rfl⟩ := Int.eq_ofNat_of_zero_le h0
  clear hn h0
  obtain ⟨v, e, hv⟩ := value_some (a := a) (by omega)
  have h10 : n < 10 ^ (20 + 1) := by
    have h2 : two64 = 18446744073709551616 := rfl
    have : (10 : Nat) ^ (20 + 1) = 1000000000000000000000 := by decide
    omega
  unfold graftwoodlaw02_NumberTells.f
  rw [fa, Option.bind_some, fb, Option.bind_some, cmp_eq 497 (by omega) (by omega), Option.bind_some, hv, Option.bind_some, refvalue 100 a ha, hv, Option.bind_some, next_eq (by omega), Option.bind_some,
    may_eq (by omega), Option.bind_some, refmay 100 a ha, Option.bind_some, if_neg (by simp), may_eq (by omega), Option.bind_some, refmay 100 b hb, Option.bind_some, if_neg (by simp), if_pos rfl, if_pos rfl,
    of_yes 401 n h1, Option.bind_some, refof 20 501 n h1 h10 (by omega) (by omega), Option.bind_some]
  have hj := tells_j0 0 a b ha hb
  have e2 : ((⟨(tx n).toArray⟩ : ByteArray).toList != (⟨(tx n).toArray⟩ : ByteArray).toList) = false := by simp
  rw [e2]
  exact hj

end Go.Proofs.Ytgldbbgcdpgbcaa.Pure
