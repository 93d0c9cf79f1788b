/- What the document's answers for numbers' texts come to. -/
import Derived.Test.YtgldbbgcdpgbcaaPAllx6
import Derived.Test.YtgldbbgcdpgbcaaEvOf
set_option linter.unusedVariables false
set_option linter.unusedSimpArgs false
namespace Go.Proofs.Ytgldbbgcdpgbcaa.Ev
open Go.RowKit Go.Proofs.Ytgldbbgcdpgbcaa.PAll Go.Proofs.Ytgldbbgcdpgbcaa.Num Go.Proofs.Ytgldbbgcdpgbcaa.Oct Go.Proofs.YtgldbbgcdpgbcaaW.PrintWords

theorem mk_eq {a : ByteArray} {l : List UInt8} (h : by_ a = l) : a = ⟨l.toArray⟩ := by
  apply by_inj
  rw [by_mk]
  exact h
theorem bt_nat (a : ByteArray) (i : Nat) (h : i < (by_ a).length) : bt a (i : Int) = ((by_ a)[i].toNat : Int) := by
  have hs : i < a.size := by rw [← by_length]; exact h
  unfold bt
  rw [dif_pos (by simpa using hs)]
  rfl
theorem digit_yes {c : UInt8} (h : Dig c) : graftwoodref02_digit.f (c.toNat : Int) = some ((dv c : Nat) : Int) := by
  unfold graftwoodref02_digit.f dv
  unfold Dig at h
  have hc := c.toNat_lt
  rw [if_neg (by omega), if_neg (by omega)]
  congr 1
  unfold wrap64
  omega
theorem digit_no {c : UInt8} (h : ¬ Dig c) : graftwoodref02_digit.f (c.toNat : Int) = some (-1) := by
  unfold graftwoodref02_digit.f
  unfold Dig at h
  split
  · rfl
  · rw [if_pos (by omega)]

/-! May -/
theorem refmay_l0 (a : ByteArray) (hs : a.size ≤ 400) (d : Nat) : ∀ (k i : Nat), i + d = a.size → d < k →
    (graftwoodref02_May.l0 k a (i : Int) = some (decide (Digs ((by_ a).drop i) ∧ by_ a ≠ [] ∧ ((by_ a).head? = some 48 → (by_ a).length = 1)))) := by
  have la := by_length a
  induction d with
  | zero =>
    intro k i hi hk
    obtain ⟨k, rfl⟩ : ∃ m, k = m + 1 := ⟨k - 1, by omega⟩
    simp only [graftwoodref02_May.l0]
    rw [if_neg (by omega), List.drop_of_length_le (by omega)]
    have hd : Digs [] := fun c hc => by simp at hc
    cases hb : by_ a with
    | nil =>
      rw [hb] at la
      simp at la
      rw [if_neg (by omega), if_neg (by omega)]
      rfl
    | cons c l =>
      rw [hb] at la
      simp only [List.length_cons] at la
      by_cases h1 : (a.size : Int) = 1
      · rw [if_pos h1]
        exact congrArg some (decide_eq_true ⟨hd, by simp, fun _ => by rw [List.length_cons]; omega⟩).symm
      · rw [if_neg h1, if_pos (by omega), if_pos (by omega), bt_zero hb]
        congr 1
        rw [Bool.eq_iff_iff, bne_iff_ne, decide_eq_true_eq]
        constructor
        · intro h
          refine ⟨hd, by simp, fun q => ?_⟩
          simp only [List.head?_cons, Option.some.injEq] at q
          subst q
          exact absurd rfl h
        · rintro ⟨_, _, h⟩ q
          have q' : (c.toNat : Int) = 48 := q
          have : c = 48 := UInt8.toNat.inj (show c.toNat = 48 by omega)
          have := h (by rw [this]; rfl)
          simp only [List.length_cons] at this
          omega
  | succ d ih =>
    intro k i hi hk
    obtain ⟨k, rfl⟩ : ∃ m, k = m + 1 := ⟨k - 1, by omega⟩
    simp only [graftwoodref02_May.l0]
    rw [if_pos (by omega), if_pos (by omega), bt_nat a i (by omega)]
    have hdr : (by_ a).drop i = (by_ a)[i]'(by omega) :: (by_ a).drop (i + 1) := List.drop_eq_getElem_cons (by omega)
    by_cases hc : Dig ((by_ a)[i]'(by omega))
    · have w : wrap64 ((i : Int) + 1) = ((i + 1 : Nat) : Int) := by unfold wrap64; omega
      rw [digit_yes hc, Option.bind_some, if_neg (by omega), w, ih k (i + 1) (by omega) (by omega), hdr]
      congr 1
      rw [decide_eq_decide]
      exact ⟨fun h => ⟨Digs.cons hc h.1, h.2⟩, fun h => ⟨h.1.tail.2, h.2⟩⟩
    · rw [digit_no hc, Option.bind_some, if_pos (by omega), hdr]
      exact congrArg some (decide_eq_false (fun h => hc h.1.tail.1)).symm
theorem refmay (k : Nat) (a : ByteArray) (hs : a.size ≤ 400) : graftwoodref02_May.f (k + 401) a = some (decide (IsNum (by_ a))) := by
  unfold graftwoodref02_May.f
  have := refmay_l0 a hs a.size (k + 401) 0 (by omega) (by omega)
  rw [show ((0 : Nat) : Int) = 0 from rfl] at this
  rw [this]
  congr 1
  rw [decide_eq_decide, List.drop_zero]
  exact ⟨fun h => ⟨h.2.1, h.1, h.2.2⟩, fun h => ⟨h.2.1, h.1, h.2.2⟩⟩

/-! Value -/
theorem refvalue_l0 (a : ByteArray) (hs : a.size ≤ 400) (hd : Digs (by_ a)) (d : Nat) : ∀ (k i : Nat) (n : Int), i + d = a.size → d < k → 0 ≤ n → n < two64 →
    graftwoodref02_Value.l0 k a n (i : Int) = some (match valR n ((by_ a).drop i) with | some v => (v, 0) | none => (0, 4)) := by
  have la := by_length a
  induction d with
  | zero =>
    intro k i n hi hk h0 h1
    obtain ⟨k, rfl⟩ : ∃ m, k = m + 1 := ⟨k - 1, by omega⟩
    simp only [graftwoodref02_Value.l0]
    rw [if_neg (by omega), List.drop_of_length_le (by omega)]
    rfl
  | succ d ih =>
    intro k i n hi hk h0 h1
    obtain ⟨k, rfl⟩ : ∃ m, k = m + 1 := ⟨k - 1, by omega⟩
    simp only [graftwoodref02_Value.l0]
    have hdr : (by_ a).drop i = (by_ a)[i]'(by omega) :: (by_ a).drop (i + 1) := List.drop_eq_getElem_cons (by omega)
    have hc : Dig ((by_ a)[i]'(by omega)) := hd _ (List.getElem_mem _)
    have hlt := dv_lt hc
    have w : wrap64 ((i : Int) + 1) = ((i + 1 : Nat) : Int) := by unfold wrap64; omega
    have hdv : ((((by_ a)[i]'(by omega)).toNat : Int) - 48) = (dv ((by_ a)[i]'(by omega)) : Nat) := by unfold dv; unfold Dig at hc; omega
    rw [if_pos (by omega), if_pos (by omega), bt_nat a i (by omega), digit_yes hc, Option.bind_some, w, hdr, valR, hdv]
    generalize dv ((by_ a)[i]'(by omega)) = e at *
    have w2 : IntKind.u64.wrap ((e : Nat) : Int) = (e : Int) := by rw [wrap_u64]; omega
    rw [w2]
    have h264 : two64 = 18446744073709551616 := rfl
    by_cases hb : n * 10 + (e : Int) < two64
    · have w3 : IntKind.u64.wrap (IntKind.u64.wrap (10 * n) + (e : Int)) = n * 10 + (e : Int) := by rw [wrap_u64, wrap_u64]; omega
      have step := ih k (i + 1) (n * 10 + (e : Int)) (by omega) (by omega) (by omega) hb
      rw [if_neg (by omega), if_pos hb, w3]
      split
      · rw [if_neg (by omega)]; exact step
      · exact step
    · rw [if_neg hb]
      by_cases hg : n > 1844674407370955161
      · rw [if_pos hg]
      · rw [if_neg hg, if_pos (by omega), if_pos (by omega)]
theorem refvalue (k : Nat) (a : ByteArray) (hs : a.size ≤ 400) : graftwoodref02_Value.f (k + 401) a = number_Value.f a := by
  unfold graftwoodref02_Value.f number_Value.f
  rw [refmay k a hs, Option.bind_some, if_pos (show a.size ≤ 140737488351232 by omega)]
  by_cases hn : IsNum (by_ a)
  · rw [may_yes (by omega) hn, Option.bind_some, if_pos (by simpa using hn)]
    have := refvalue_l0 a hs hn.2.1 a.size (k + 401) 0 0 (by omega) (by omega) (by omega) (by unfold two64; omega)
    rw [show ((0 : Nat) : Int) = 0 from rfl, List.drop_zero] at this
    rw [this]
    congr 1
    cases hv : valR 0 (by_ a) with
    | none => simp [(valV_none hv).1, (valV_none hv).2]
    | some v => simp [(valV_some hv).1, (valV_some hv).2]
  · rw [may_no (by omega) hn, Option.bind_some, if_neg (by simpa using hn)]
    simp [valV, valE]

/-! Of -/
theorem one_by (n : Nat) (h : n < 256) : by_ (strOfNums [(n : Int)]) = [UInt8.ofNat n] := by
  show (strOfNums [(n : Int)]).data.toList = _
  rfl
theorem by_append (a b : ByteArray) : by_ (a ++ b) = by_ a ++ by_ b := by
  simp only [by_]
  rw [ByteArray.data_append]
  simp
theorem refof (d : Nat) : ∀ (k n : Nat), (n : Int) < two64 → n < 10 ^ (d + 1) → d < 40 → d < k → graftwoodref02_Of.f k (n : Int) = some ⟨(tx n).toArray⟩ := by
  have fin : ∀ (k n : Nat), n < 10 → 0 < k → graftwoodref02_Of.f k (n : Int) = some ⟨(tx n).toArray⟩ := by
    intro k n h1 hk
    obtain ⟨k, rfl⟩ : ∃ m, k = m + 1 := ⟨k - 1, by omega⟩
    simp only [graftwoodref02_Of.f]
    have e : (IntKind.u64.wrap (48 + (n : Int))) % 256 = ((48 + n : Nat) : Int) := by rw [wrap_u64]; omega
    rw [if_pos (by omega), e]
    refine congrArg some (mk_eq ?_)
    rw [one_by _ (by omega), tx_lt h1, dch, Nat.mod_eq_of_lt h1]
  induction d with
  | zero => intro k n hn h hd hk; exact fin k n (by simpa using h) (by omega)
  | succ d ih =>
    intro k n hn h hd hk
    by_cases h1 : n < 10
    · exact fin k n h1 (by omega)
    · obtain ⟨k, rfl⟩ : ∃ m, k = m + 1 := ⟨k - 1, by omega⟩
      simp only [graftwoodref02_Of.f]
      unfold two64 at hn
      have e1 : Int.tmod (n : Int) 10 = ((n % 10 : Nat) : Int) := by rw [Int.tmod_eq_emod_of_nonneg (by omega)]; omega
      have e2 : Int.tdiv (n : Int) 10 = ((n / 10 : Nat) : Int) := by rw [Int.tdiv_eq_ediv_of_nonneg (by omega)]; omega
      have e3 : (IntKind.u64.wrap (48 + ((n % 10 : Nat) : Int))) % 256 = ((48 + n % 10 : Nat) : Int) := by rw [wrap_u64]; omega
      have e4 : IntKind.u64.wrap ((n / 10 : Nat) : Int) = ((n / 10 : Nat) : Int) := by rw [wrap_u64]; omega
      have big : (10 : Nat) ^ 21 = 1000000000000000000000 := by decide
      have hsz := tx_size (n := n / 10) (by omega)
      rw [if_neg (by omega), e1, e2, e3, e4, ih k (n / 10) (by unfold two64; omega) (by rw [Nat.pow_succ] at h; omega) (by omega) (by omega), Option.bind_some, Option.bind_some]
      have hs1 : (strOfNums [((48 + n % 10 : Nat) : Int)]).size = 1 := by rw [← by_length, one_by _ (by omega)]; rfl
      rw [if_pos (by omega)]
      refine congrArg some (mk_eq ?_)
      rw [by_append, by_mk, one_by _ (by omega), tx_ge h1]
      rfl

/-! a place's digit -/
def dg (l : List UInt8) (i : Nat) : Nat := if i < l.length then dv (l.getD (l.length - 1 - i) 48) else 0
theorem dg_eq {l : List UInt8} (h : Digs l) (i : Nat) : dg l i = val l / 10 ^ i % 10 := by
  induction l using snoc_ind generalizing i with
  | h0 => simp [dg, val_nil]
  | h1 l c ih =>
    have hc := dv_lt (h.right c (by simp))
    rw [val_snoc]
    cases i with
    | zero =>
      unfold dg
      rw [if_pos (by simp), List.length_append, List.getD_eq_getElem?_getD]
      simp
      omega
    | succ i =>
      have e : (10 * val l + dv c) / 10 ^ (i + 1) = val l / 10 ^ i := by
        rw [Nat.pow_succ, Nat.mul_comm (10 ^ i) 10, ← Nat.div_div_eq_div_mul]
        congr 1
        omega
      rw [e, ← ih h.left i]
      unfold dg
      rw [List.length_append, List.length_cons, List.length_nil]
      by_cases hi : i < l.length
      · rw [if_pos (by omega), if_pos hi]
        congr 1
        rw [List.getD_eq_getElem?_getD, List.getD_eq_getElem?_getD, List.getElem?_append_left (by omega)]
        congr 2
        omega
      · rw [if_neg (by omega), if_neg hi]
theorem refat {a : ByteArray} (hs : a.size ≤ 400) (hd : Digs (by_ a)) (i : Nat) (hi : i ≤ 1000) : graftwoodref02_at.f a (i : Int) = some ((dg (by_ a) i : Nat) : Int) := by
  have la := by_length a
  unfold graftwoodref02_at.f dg
  by_cases h : i < (by_ a).length
  · have w1 : wrap64 ((a.size : Int) - 1) = (a.size : Int) - 1 := by unfold wrap64; omega
    have w2 : wrap64 ((a.size : Int) - 1 - (i : Int)) = ((a.size - 1 - i : Nat) : Int) := by unfold wrap64; omega
    have hc : Dig ((by_ a)[a.size - 1 - i]'(by omega)) := hd _ (List.getElem_mem _)
    rw [if_neg (by omega), w1, w2, if_pos (by omega), if_pos (by omega), bt_nat a _ (by omega), digit_yes hc, Option.bind_some, if_pos h]
    have e : (by_ a).getD ((by_ a).length - 1 - i) 48 = (by_ a)[a.size - 1 - i]'(by omega) := by
      rw [List.getD_eq_getElem?_getD, show (by_ a).length - 1 - i = a.size - 1 - i by omega, List.getElem?_eq_getElem (by omega)]
      rfl
    rw [e]
  · rw [if_pos (by omega), if_neg h]; rfl

/-! Next -/
theorem w64 {x : Int} (h0 : 0 ≤ x) (h1 : x < 10000) : wrap64 x = x := by unfold wrap64; omega
theorem q1 (n : Nat) : Int.tmod (n : Int) 10 = ((n % 10 : Nat) : Int) := by rw [Int.tmod_eq_emod_of_nonneg (by omega)]; omega
theorem q2 (n : Nat) : Int.tdiv (n : Int) 10 = ((n / 10 : Nat) : Int) := by rw [Int.tdiv_eq_ediv_of_nonneg (by omega)]; omega
theorem q3 (n : Nat) (h : n < 10) : wrap64 (48 + (n : Int)) % 256 = ((48 + n : Nat) : Int) := by rw [w64 (by omega) (by omega)]; omega
theorem q4 (n m : Nat) (h : n + m < 1000) : wrap64 ((n : Int) + (m : Int)) = ((n + m : Nat) : Int) := by rw [w64 (by omega) (by omega)]; omega
theorem q5 (n : Nat) (h : n < 1000) : wrap64 (n : Int) = (n : Int) := w64 (by omega) (by omega)
theorem refnext_step (a : ByteArray) (hs : a.size ≤ 400) (hd : Digs (by_ a)) (k i c : Nat) (out : ByteArray) (hi : i < a.size) (hc : c ≤ 1) (ho : out.size ≤ 400) :
    graftwoodref02_Next.l0 (k + 1) a (c : Int) out (i : Int) = graftwoodref02_Next.l0 k a (((dg (by_ a) i + c) / 10 : Nat) : Int) (strOfNums [((48 + (dg (by_ a) i + c) % 10 : Nat) : Int)] ++ out) ((i + 1 : Nat) : Int) := by
  have hv : dg (by_ a) i < 10 := by rw [dg_eq hd]; exact Nat.mod_lt _ (by decide)
  have h1 := refat hs hd i (by omega)
  generalize dg (by_ a) i = v at *
  simp only [graftwoodref02_Next.l0]
  have w : wrap64 ((i : Int) + 1) = ((i + 1 : Nat) : Int) := q4 i 1 (by omega)
  have hd : (v + c) / 10 < 1000 := by omega
  have e0 := q4 v c (by omega)
  have e1 := q1 (v + c)
  have e2 := q2 (v + c)
  have e3 := q3 ((v + c) % 10) (Nat.mod_lt _ (by decide))
  have e4 := q5 ((v + c) / 10) hd
  rw [if_pos (by omega), h1, Option.bind_some, e0, e1, e2, e3, w, Option.bind_some]
  have hs1 : (strOfNums [((48 + (v + c) % 10 : Nat) : Int)]).size = 1 := by rw [strOfNums_size]; rfl
  rw [if_pos (by omega), e4]
theorem refnext_l0 (a : ByteArray) (hs : a.size ≤ 400) (hd : Digs (by_ a)) (d : Nat) : ∀ (k i c : Nat) (out : ByteArray), i + d = a.size → d < k → out.size = i →
    ((c = 1 ∧ by_ out = List.replicate i 48 ∧ Inc (by_ a) (a.size - i)) ∨ (c = 0 ∧ inc (by_ a) = (by_ a).take (a.size - i) ++ by_ out)) →
    graftwoodref02_Next.l0 k a (c : Int) out (i : Int) = some ⟨(inc (by_ a)).toArray⟩ := by
  have la := by_length a
  induction d with
  | zero =>
    intro k i c out hi hk ho h
    obtain ⟨k, rfl⟩ : ∃ m, k = m + 1 := ⟨k - 1, by omega⟩
    simp only [graftwoodref02_Next.l0]
    rw [if_neg (by omega)]
    rw [show a.size - i = 0 by omega] at h
    rcases h with ⟨rfl, h1, h2⟩ | ⟨rfl, h1⟩
    · rw [if_pos (by omega), if_pos (by omega)]
      refine congrArg some (mk_eq ?_)
      rw [by_append, h1, h2.all, tail0, la, Nat.sub_zero, show a.size = i by omega]
      rfl
    · rw [if_neg (by omega)]
      refine congrArg some (mk_eq ?_)
      rw [h1]
      simp
  | succ d ih =>
    intro k i c out hi hk ho h
    obtain ⟨k, rfl⟩ : ∃ m, k = m + 1 := ⟨k - 1, by omega⟩
    rw [refnext_step a hs hd k i c out (by omega) (by omega) (by omega)]
    have hm : a.size - (i + 1) < (by_ a).length := by omega
    have hsz : ∀ n : Nat, (strOfNums [(n : Int)] ++ out).size = i + 1 := fun n => by
      rw [ByteArray.size_append, ho, show (strOfNums [(n : Int)]).size = 1 by rw [strOfNums_size]; rfl]; omega
    have hc : Dig ((by_ a)[a.size - (i + 1)]'hm) := hd _ (List.getElem_mem _)
    have hdg : dg (by_ a) i = dv ((by_ a)[a.size - (i + 1)]'hm) := by
      unfold dg
      rw [if_pos (by omega), List.getD_eq_getElem?_getD, show (by_ a).length - 1 - i = a.size - (i + 1) by omega, List.getElem?_eq_getElem hm]
      rfl
    have hlt := dv_lt hc
    have htk : (by_ a).take (a.size - (i + 1) + 1) = (by_ a).take (a.size - (i + 1)) ++ [(by_ a)[a.size - (i + 1)]'hm] := List.take_succ_eq_append_getElem hm
    rw [hdg]
    rw [show a.size - i = a.size - (i + 1) + 1 by omega] at h
    rcases h with ⟨rfl, h1, h2⟩ | ⟨rfl, h1⟩
    · by_cases h9 : ((by_ a)[a.size - (i + 1)]'hm).toNat < 57
      · have hst := h2.stop hm h9
        have hsuc := toNat_succ _ h9
        rw [tail0_set _ _ hm] at hst
        generalize (by_ a)[a.size - (i + 1)]'hm = u at *
        have hlt9 : dv u + 1 < 10 := by unfold dv; unfold Dig at hc; omega
        refine ih k (i + 1) _ _ (by omega) (by omega) (hsz _) (.inr ⟨by omega, ?_⟩)
        rw [by_append, one_by _ (by omega), h1, ← hst]
        have : UInt8.ofNat (48 + (dv u + 1) % 10) = u + 1 := by
          apply UInt8.toNat.inj
          rw [hsuc, UInt8.toNat_ofNat']
          unfold dv at *; unfold Dig at hc
          omega
        rw [this, show (by_ a).length - (a.size - (i + 1) + 1) = i by omega]
        rfl
      · have hst := h2.step hm h9
        generalize (by_ a)[a.size - (i + 1)]'hm = u at *
        have hd9 : dv u = 9 := by unfold dv; unfold Dig at hc; omega
        rw [hd9]
        refine ih k (i + 1) _ _ (by omega) (by omega) (hsz _) (.inl ⟨rfl, ?_, hst⟩)
        rw [by_append, one_by _ (by omega), h1, List.replicate_succ]
        rfl
    · generalize (by_ a)[a.size - (i + 1)]'hm = u at *
      refine ih k (i + 1) _ _ (by omega) (by omega) (hsz _) (.inr ⟨by omega, ?_⟩)
      rw [by_append, one_by _ (by omega), h1, htk]
      have : UInt8.ofNat (48 + (dv u + 0) % 10) = u := by
        apply UInt8.toNat.inj
        rw [UInt8.toNat_ofNat']
        unfold dv at *; unfold Dig at hc
        omega
      rw [this]
      simp
theorem refnext (k : Nat) (a : ByteArray) (hs : a.size ≤ 400) (hd : Digs (by_ a)) : graftwoodref02_Next.f (k + 401) a = some ⟨(inc (by_ a)).toArray⟩ := by
  have la := by_length a
  unfold graftwoodref02_Next.f
  have := refnext_l0 a hs hd a.size (k + 401) 0 1 ⟨#[]⟩ (by omega) (by omega) rfl (.inl ⟨rfl, rfl, by rw [Nat.sub_zero, ← la]; exact Inc.start _⟩)
  exact this

/-! Cmp -/
theorem refcmp_l0 (a b : ByteArray) (ha : a.size ≤ 400) (hb : b.size ≤ 400) (da : Digs (by_ a)) (db : Digs (by_ b)) (d : Nat) : ∀ (k : Nat), d < k → d ≤ 400 →
    val (by_ a) / 10 ^ d = val (by_ b) / 10 ^ d → graftwoodref02_Cmp.l0 k a b ((d : Int) - 1) = some (cmpV (by_ a) (by_ b)) := by
  induction d with
  | zero =>
    intro k hk hd he
    obtain ⟨k, rfl⟩ : ∃ m, k = m + 1 := ⟨k - 1, by omega⟩
    simp only [graftwoodref02_Cmp.l0]
    rw [Nat.pow_zero, Nat.div_one, Nat.div_one] at he
    rw [if_neg (by omega), (cmpV_zero (a := by_ a) (b := by_ b)).2 he]
  | succ d ih =>
    intro k hk hd he
    obtain ⟨k, rfl⟩ : ∃ m, k = m + 1 := ⟨k - 1, by omega⟩
    simp only [graftwoodref02_Cmp.l0]
    have e0 : (((d + 1 : Nat) : Int) - 1) = (d : Int) := by omega
    have w : wrap64 ((d : Int) - 1) = (d : Int) - 1 := by unfold wrap64; omega
    rw [e0, if_pos (by omega), refat ha da d (by omega), Option.bind_some, refat hb db d (by omega), Option.bind_some, Option.bind_some, Option.bind_some, w, dg_eq da, dg_eq db]
    have ha1 : val (by_ a) / 10 ^ (d + 1) = val (by_ a) / 10 ^ d / 10 := by rw [Nat.pow_succ, Nat.div_div_eq_div_mul]
    have hb1 : val (by_ b) / 10 ^ (d + 1) = val (by_ b) / 10 ^ d / 10 := by rw [Nat.pow_succ, Nat.div_div_eq_div_mul]
    rw [ha1, hb1] at he
    have lt_of : ∀ x y : Nat, x / 10 ^ d < y / 10 ^ d → x < y := fun x y h => by
      rcases Nat.lt_or_ge x y with g | g
      · exact g
      · have := Nat.div_le_div_right (c := 10 ^ d) g; omega
    by_cases h1 : val (by_ a) / 10 ^ d % 10 < val (by_ b) / 10 ^ d % 10
    · rw [if_pos (by omega), cmpV_m1.2 (lt_of _ _ (by omega))]
    · rw [if_neg (by omega)]
      by_cases h2 : val (by_ b) / 10 ^ d % 10 < val (by_ a) / 10 ^ d % 10
      · have := lt_of (val (by_ b)) (val (by_ a)) (by omega)
        rw [if_pos (by omega), cmpV, if_neg (by omega), if_pos this]
      · rw [if_neg (by omega)]
        exact ih k (by omega) (by omega) (by omega)
theorem refcmp (k : Nat) (a b : ByteArray) (ha : a.size ≤ 400) (hb : b.size ≤ 400) (da : Digs (by_ a)) (db : Digs (by_ b)) : graftwoodref02_Cmp.f (k + 401) a b = some (cmpV (by_ a) (by_ b)) := by
  have la := by_length a
  have lb := by_length b
  unfold graftwoodref02_Cmp.f
  obtain ⟨m, hm, h1, h2, h3⟩ : ∃ m : Nat, mx (a.size : Int) (b.size : Int) = (m : Int) ∧ a.size ≤ m ∧ b.size ≤ m ∧ m ≤ 400 := by
    by_cases h : a.size ≤ b.size
    · exact ⟨b.size, by unfold mx; split <;> omega, h, by omega, hb⟩
    · exact ⟨a.size, by unfold mx; split <;> omega, by omega, by omega, ha⟩
  have w : wrap64 ((m : Int) - 1) = (m : Int) - 1 := by unfold wrap64; omega
  rw [hm, w]
  refine refcmp_l0 a b ha hb da db m (k + 401) (by omega) h3 ?_
  have va := val_lt da
  have vb := val_lt db
  have pa : 10 ^ (by_ a).length ≤ 10 ^ m := Nat.pow_le_pow_right (by omega) (by omega)
  have pb : 10 ^ (by_ b).length ≤ 10 ^ m := Nat.pow_le_pow_right (by omega) (by omega)
  rw [Nat.div_eq_of_lt (by omega), Nat.div_eq_of_lt (by omega)]
end Go.Proofs.Ytgldbbgcdpgbcaa.Ev
