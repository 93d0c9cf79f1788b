/- The law NumberOrder answers true for every input: of three numbers' texts order goes one way, the next one comes behind with nothing between, a digit more is more. -/
import Derived.Test.YtgldbbgcdpgbcaaPAllx2
import Derived.Test.YtgldbbgcdpgbcaaEv
set_option linter.unusedVariables false
set_option linter.unusedSimpArgs false
namespace Go.Proofs.Ytgldbbgcdpgbcaa.Pure
open Go.RowKit Go.Proofs.Ytgldbbgcdpgbcaa.PAll Go.Proofs.Ytgldbbgcdpgbcaa.Num Go.Proofs.Ytgldbbgcdpgbcaa.Oct Go.Proofs.Ytgldbbgcdpgbcaa.Ev Go.Proofs.YtgldbbgcdpgbcaaW.PrintWords Go.Proofs.YtgldbbgcdpgbcaaW.PrintLast

theorem by_app (a : ByteArray) (c : UInt8) : by_ (a ++ (⟨#[c]⟩ : ByteArray)) = by_ a ++ [c] := by
  simp only [by_]
  rw [ByteArray.data_append]
  simp
theorem awake' (k : Nat) (h : 4 ≤ k) : graftwoodlaw02_awake.f k = some true := by
  obtain ⟨m, rfl⟩ : ∃ m, k = m + 4 := ⟨k - 4, by omega⟩
  exact awake m
theorem order_j2 (k : Nat) (a b : ByteArray) (ha : a.size ≤ 400) (hb : b.size ≤ 400) (na : IsNum (by_ a)) (nb : IsNum (by_ b)) :
    graftwoodlaw02_NumberOrder.j2 (k + 5) a b false = some true := by
  have hw : graftwoodlaw02_awake.f (k + 4) = some true := awake k
  have hbs : (b ++ (⟨#[48]⟩ : ByteArray)).size ≤ 140737488351232 := by rw [ByteArray.size_append]; show b.size + 1 ≤ _; omega
  simp only [graftwoodlaw02_NumberOrder.j2]
  rw [if_neg (by simp), if_pos (by omega)]
  by_cases nb0 : IsNum (by_ (b ++ (⟨#[48]⟩ : ByteArray)))
  · rw [cmp_yes k (by omega) hbs na nb0, Option.bind_some, if_pos rfl]
    by_cases hl : (b.size : Int) < (a.size : Int)
    · rw [if_pos hl, hw]; rfl
    · rw [if_neg hl]
      have : val (by_ a) < val (by_ (b ++ (⟨#[48]⟩ : ByteArray))) := val_length na nb0 (by rw [by_app, List.length_append, by_length, by_length]; simp; omega)
      rw [if_pos (cmpV_neg.2 this), hw]; rfl
  · rw [cmp_no k (by omega) hbs (fun h => nb0 h.2), Option.bind_some, if_neg (by simp), hw]; rfl
theorem order_j1 (k : Nat) (a b : ByteArray) (ha : a.size ≤ 400) (hb : b.size ≤ 400) (na : IsNum (by_ a)) (nb : IsNum (by_ b)) :
    graftwoodlaw02_NumberOrder.j1 (k + 6) a b (cmpV (by_ a) (by_ b)) false = some true := by
  have hn : by_ (⟨(inc (by_ a)).toArray⟩ : ByteArray) = inc (by_ a) := by_mk _
  have hns : (⟨(inc (by_ a)).toArray⟩ : ByteArray).size ≤ 401 := by
    rw [← by_length, hn]; have := inc_length (by_ a); rw [by_length] at this; omega
  have nn : IsNum (by_ (⟨(inc (by_ a)).toArray⟩ : ByteArray)) := by rw [hn]; exact inc_num na
  have hv := inc_val (by_ a) na.2.1
  simp only [graftwoodlaw02_NumberOrder.j1]
  rw [if_neg (by simp), next_yes (by omega) na, Option.bind_some, cmp_yes (k + 1) (by omega) (by omega) na nn, Option.bind_some, cmp_yes (k + 1) (by omega) (by omega) nn nb, Option.bind_some, hn]
  rw [if_pos rfl, if_pos rfl, if_pos rfl, if_pos (cmpV_m1.2 (by omega))]
  have h2 := order_j2 k a b ha hb na nb
  split
  · rename_i h
    have h' := cmpV_neg.1 h
    have : ¬ 0 < cmpV (inc (by_ a)) (by_ b) := fun e => by have := cmpV_pos.1 e; omega
    rw [decide_eq_false (show ¬ cmpV (inc (by_ a)) (by_ b) > 0 from this)]
    exact h2
  · exact h2
theorem order_j0 (k : Nat) (a b c : ByteArray) (ha : a.size ≤ 400) (hb : b.size ≤ 400) (na : IsNum (by_ a)) (nb : IsNum (by_ b)) :
    graftwoodlaw02_NumberOrder.j0 (k + 7) a b c (cmpV (by_ a) (by_ b)) (cmpV (by_ b) (by_ c)) (cmpV (by_ a) (by_ c)) false = some true := by
  have h1 := order_j1 k a b ha hb na nb
  have he : ((cmpV (by_ a) (by_ b) == 0) != (a.toList == b.toList)) = false := by
    rw [toList_by, toList_by]
    by_cases e : by_ a = by_ b
    · rw [e]; simp [cmpV]
    · have : ¬ cmpV (by_ a) (by_ b) = 0 := fun q => e (num_inj na nb (cmpV_zero.1 q))
      rw [beq_eq_false_iff_ne.2 this, beq_eq_false_iff_ne.2 e]
      rfl
  have q1 := @cmpV_neg (by_ a) (by_ b)
  have q2 := @cmpV_pos (by_ a) (by_ b)
  have q3 := @cmpV_neg (by_ b) (by_ c)
  have q4 := @cmpV_pos (by_ b) (by_ c)
  have q5 := @cmpV_neg (by_ a) (by_ c)
  have q6 := @cmpV_pos (by_ a) (by_ c)
  simp only [graftwoodlaw02_NumberOrder.j0]
  rw [if_neg (by simp), he]
  generalize cmpV (by_ a) (by_ b) = x at *
  generalize cmpV (by_ b) (by_ c) = y at *
  generalize cmpV (by_ a) (by_ c) = z at *
  repeat' split
  all_goals first | exact h1 | (exfalso; omega)
theorem order_no (k : Nat) (a b c : ByteArray) (x y z : Int) (ha : a.size ≤ 400) (hb : b.size ≤ 400) (hc : c.size ≤ 400) (h : ¬ (IsNum (by_ a) ∧ IsNum (by_ b) ∧ IsNum (by_ c))) :
    graftwoodlaw02_NumberOrder.j0 (k + 5) a b c x y z true = some true := by
  have hw : graftwoodlaw02_awake.f (k + 4) = some true := awake k
  simp only [graftwoodlaw02_NumberOrder.j0]
  rw [if_pos trivial]
  by_cases na : IsNum (by_ a)
  · rw [may_yes (by omega) na, Option.bind_some, if_pos rfl]
    by_cases nb : IsNum (by_ b)
    · rw [may_yes (by omega) nb, Option.bind_some, if_pos rfl, may_no (by omega) (fun nc => h ⟨na, nb, nc⟩), Option.bind_some, if_neg (by simp), hw]; rfl
    · rw [may_no (by omega) nb, Option.bind_some, if_neg (by simp), hw]; rfl
  · rw [may_no (by omega) na, Option.bind_some, if_neg (by simp), hw]; rfl

theorem NumberOrder : graftwoodlaw02_NumberOrder.Pure := by
  intro a b c _ _ _
  refine ⟨7, ?_⟩
  obtain ⟨a, fa, ha⟩ := few a
  obtain ⟨b, fb, hb⟩ := few b
  obtain ⟨c, fc, hc⟩ := few c
  unfold graftwoodlaw02_NumberOrder.f
  rw [fa, Option.bind_some, fb, Option.bind_some, fc, Option.bind_some]
  by_cases na : IsNum (by_ a)
  · by_cases nb : IsNum (by_ b)
    · by_cases nc : IsNum (by_ c)
      · rw [cmp_yes 3 (by omega) (by omega) na nb, Option.bind_some, cmp_yes 3 (by omega) (by omega) nb nc, Option.bind_some, cmp_yes 3 (by omega) (by omega) na nc, Option.bind_some, if_pos rfl, if_pos rfl]
        exact order_j0 0 a b c ha hb na nb
      · rw [cmp_yes 3 (by omega) (by omega) na nb, Option.bind_some, cmp_no 3 (by omega) (by omega) (fun h => nc h.2), Option.bind_some, cmp_no 3 (by omega) (by omega) (fun h => nc h.2), Option.bind_some, if_pos rfl, if_neg (by simp)]
        exact order_no 2 a b c _ _ _ ha hb hc (fun h => nc h.2.2)
    · rw [cmp_no 3 (by omega) (by omega) (fun h => nb h.2), Option.bind_some, cmp_no 3 (by omega) (by omega) (fun h => nb h.1), Option.bind_some]
      have hn := order_no 2 a b c
      by_cases nc : IsNum (by_ c)
      · rw [cmp_yes 3 (by omega) (by omega) na nc, Option.bind_some, if_neg (by simp)]
        exact hn _ _ _ ha hb hc (fun h => nb h.2.1)
      · rw [cmp_no 3 (by omega) (by omega) (fun h => nc h.2), Option.bind_some, if_neg (by simp)]
        exact hn _ _ _ ha hb hc (fun h => nb h.2.1)
  · rw [cmp_no 3 (by omega) (by omega) (fun h => na h.1), Option.bind_some]
    have hn := order_no 2 a b c
    by_cases nbc : IsNum (by_ b) ∧ IsNum (by_ c)
    · rw [cmp_yes 3 (by omega) (by omega) nbc.1 nbc.2, Option.bind_some, cmp_no 3 (by omega) (by omega) (fun h => na h.1), Option.bind_some, if_neg (by simp)]
      exact hn _ _ _ ha hb hc (fun h => na h.1)
    · rw [cmp_no 3 (by omega) (by omega) nbc, Option.bind_some, cmp_no 3 (by omega) (by omega) (fun h => na h.1), Option.bind_some, if_neg (by simp)]
      exact hn _ _ _ ha hb hc (fun h => na h.1)

end Go.Proofs.Ytgldbbgcdpgbcaa.Pure
