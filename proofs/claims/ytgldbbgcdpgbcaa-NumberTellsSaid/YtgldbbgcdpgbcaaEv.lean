/- What the functions of the chapter 'number' come to, told by the plain laws of numbers' texts. -/
import Derived.Test.YtgldbbgcdpgbcaaPAllx1
import Derived.Test.YtgldbbgcdpgbcaaNum
set_option linter.unusedVariables false
set_option linter.unusedSimpArgs false
namespace Go.Proofs.Ytgldbbgcdpgbcaa.Ev
open Go.RowKit Go.Proofs.Ytgldbbgcdpgbcaa.PAll Go.Proofs.Ytgldbbgcdpgbcaa.Num Go.Proofs.Ytgldbbgcdpgbcaa.Oct Go.Proofs.YtgldbbgcdpgbcaaW.PrintWords

/-- A text's bytes. -/
abbrev by_ (a : ByteArray) : List UInt8 := a.data.toList
theorem by_length (a : ByteArray) : (by_ a).length = a.size := by simp [by_]
theorem toList_by (a : ByteArray) : a.toList = by_ a := ByteArray.toList_eq a
theorem by_inj {a b : ByteArray} (h : by_ a = by_ b) : a = b := by
  cases a; cases b
  simp only [by_] at h
  rw [Array.toList_inj.1 h]
theorem bt_zero {a : ByteArray} {c : UInt8} {l : List UInt8} (h : by_ a = c :: l) : bt a 0 = c.toNat := by
  have hs : 0 < a.size := by rw [← by_length, h]; simp
  unfold bt
  rw [dif_pos (by simpa using hs)]
  have : a[(0 : Int).toNat]'(by simpa using hs) = c := by
    have h2 : (by_ a)[0]'(by rw [by_length]; exact hs) = c := by simp only [h, List.getElem_cons_zero]
    exact h2
  rw [this]
theorem all_digs {l : List UInt8} : okAll [1] l = true ↔ Digs l := okAll_iff
theorem may_yes {a : ByteArray} (hs : a.size ≤ 140737488351232) (h : IsNum (by_ a)) : number_May.f a = some true := by
  obtain ⟨h0, h1, h2⟩ := h
  unfold number_May.f octet_All.f
  rw [toList_by, if_neg h0, if_pos hs, Option.bind_some, if_pos (all_digs.2 h1)]
  cases hl : by_ a with
  | nil => exact absurd hl h0
  | cons c l =>
    have hsz : 0 < a.size := by rw [← by_length, hl]; simp
    rw [if_pos (by omega), bt_zero hl]
    split
    · rename_i hc
      have : c = 48 := UInt8.toNat.inj (show c.toNat = 48 by omega)
      have := h2 (by rw [hl, this]; rfl)
      rw [by_length] at this
      rw [this]
      rfl
    · rfl
theorem may_no {a : ByteArray} (hs : a.size ≤ 140737488351232) (h : ¬ IsNum (by_ a)) : number_May.f a = some false := by
  unfold number_May.f octet_All.f
  rw [toList_by, if_pos hs]
  split
  · rfl
  · rename_i h0
    rw [Option.bind_some]
    split
    · rename_i h1
      cases hl : by_ a with
      | nil => exact absurd hl h0
      | cons c l =>
        have hsz : 0 < a.size := by rw [← by_length, hl]; simp
        rw [if_pos (by omega), bt_zero hl]
        split
        · rename_i hc
          have hc' : c = 48 := UInt8.toNat.inj (show c.toNat = 48 by omega)
          have : a.size ≠ 1 := fun e => h ⟨h0, all_digs.1 h1, fun _ => by rw [by_length]; exact e⟩
          have : ((a.size : Int) == 1) = false := by simp; omega
          rw [this]
        · rename_i hc
          exfalso
          refine h ⟨h0, all_digs.1 h1, fun hh => ?_⟩
          rw [hl] at hh
          simp only [List.head?_cons, Option.some.injEq] at hh
          subst hh
          exact absurd rfl hc
    · rfl
theorem may_iff {a : ByteArray} (hs : a.size ≤ 140737488351232) {b : Bool} (h : number_May.f a = some b) : b = true ↔ IsNum (by_ a) := by
  by_cases hn : IsNum (by_ a)
  · rw [may_yes hs hn] at h
    exact ⟨fun _ => hn, fun _ => (Option.some.inj h).symm⟩
  · rw [may_no hs hn] at h
    exact ⟨fun e => (by rw [e] at h; exact absurd (Option.some.inj h) (by simp)), fun e => absurd e hn⟩

theorem cmpInt (x y : Int) : cmp_Compare_int.f x y = some (if x < y then -1 else if y < x then 1 else 0) := by
  unfold cmp_Compare_int.f cmp_isNaN_int.f
  simp only [bne_self_eq_false, Option.bind_some, Bool.false_eq_true, if_false]
  split
  · rfl
  · by_cases h : x > y
    · rw [if_pos h, if_pos (show y < x from h)]
    · rw [if_neg h, if_neg (show ¬ y < x from h)]
theorem or2 (k : Nat) (x y : Int) : cmp_Or_int.f (k + 3) [x, y] = some (if x = 0 then y else x) := by
  unfold cmp_Or_int.f
  simp only [cmp_Or_int.l0, List.length_cons, List.length_nil]
  by_cases hx : x = 0
  · subst hx
    by_cases hy : y = 0
    · subst hy
      simp [rd, wrap64]
    · simp [rd, wrap64, hy]
  · simp [rd, wrap64, hx]
theorem cmpS_V {a b : List UInt8} (ha : IsNum a) (hb : IsNum b) (hl : a.length = b.length) : cmpS a b = cmpV a b := by
  unfold cmpS cmpV
  have h1 := less_iff ha.2.1 hb.2.1 hl
  by_cases h : val a < val b
  · rw [if_pos (h1.2 h), if_pos h]
  · rw [if_neg (fun e => h (h1.1 e)), if_neg h]
    by_cases e : val b < val a
    · rw [if_neg (fun q => by rw [q] at e; omega), if_pos e]
    · rw [if_pos (val_inj ha.2.1 hb.2.1 hl (by omega)), if_neg e]
theorem cmp_yes (k : Nat) {a b : ByteArray} (ha : a.size ≤ 140737488351232) (hb : b.size ≤ 140737488351232) (na : IsNum (by_ a)) (nb : IsNum (by_ b)) :
    number_Cmp.f (k + 4) a b = some (cmpV (by_ a) (by_ b), 0) := by
  unfold number_Cmp.f
  rw [may_yes ha na, Option.bind_some, if_pos rfl, may_yes hb nb, Option.bind_some]
  simp only [number_Cmp.j0, Bool.not_true, Bool.false_eq_true, if_false]
  rw [cmpInt, Option.bind_some]
  unfold octet_Cmp.f cmp_Compare_string.f
  rw [Option.bind_some, Option.bind_some, or2, Option.bind_some, toList_by, toList_by]
  congr 2
  have la := by_length a
  have lb := by_length b
  rcases Nat.lt_trichotomy a.size b.size with g | g | g
  · have e : (if (a.size : Int) < b.size then (-1 : Int) else if (b.size : Int) < a.size then 1 else 0) = -1 := if_pos (by omega)
    rw [e, if_neg (by omega), cmpV, if_pos (val_length na nb (by omega))]
  · have e : (if (a.size : Int) < b.size then (-1 : Int) else if (b.size : Int) < a.size then 1 else 0) = 0 := by rw [if_neg (by omega), if_neg (by omega)]
    rw [e, if_pos rfl, cmpS_V na nb (by omega)]
  · have := val_length nb na (by omega)
    have e : (if (a.size : Int) < b.size then (-1 : Int) else if (b.size : Int) < a.size then 1 else 0) = 1 := by rw [if_neg (by omega), if_pos (by omega)]
    rw [e, if_neg (by omega), cmpV, if_neg (by omega), if_pos this]
theorem cmp_no (k : Nat) {a b : ByteArray} (ha : a.size ≤ 140737488351232) (hb : b.size ≤ 140737488351232) (h : ¬ (IsNum (by_ a) ∧ IsNum (by_ b))) :
    number_Cmp.f (k + 4) a b = some (0, 1) := by
  unfold number_Cmp.f
  by_cases na : IsNum (by_ a)
  · rw [may_yes ha na, Option.bind_some, if_pos rfl, may_no hb (fun nb => h ⟨na, nb⟩), Option.bind_some]
    simp only [number_Cmp.j0, Bool.not_false, if_true]
  · rw [may_no ha na, Option.bind_some, if_neg (by simp)]
    simp only [number_Cmp.j0, if_true]
theorem next_yes {a : ByteArray} (ha : a.size ≤ 140737488351232) (na : IsNum (by_ a)) : number_Next.f a = some (⟨(inc (by_ a)).toArray⟩, 0) := by
  unfold number_Next.f
  rw [if_pos ha, may_yes ha na, Option.bind_some, if_pos rfl]
theorem next_no {a : ByteArray} (ha : a.size ≤ 140737488351232) (na : ¬ IsNum (by_ a)) : number_Next.f a = some (ByteArray.empty, 1) := by
  unfold number_Next.f
  rw [if_pos ha, may_no ha na, Option.bind_some, if_neg (by simp)]
theorem by_mk (l : List UInt8) : by_ ⟨l.toArray⟩ = l := by simp [by_]
theorem inc_length (l : List UInt8) : (inc l).length ≤ l.length + 1 := by
  induction l using snoc_ind with
  | h0 => simp [inc_nil]
  | h1 l c ih => rw [inc_snoc]; split <;> simp <;> omega

instance (l : List UInt8) : Decidable (Digs l) := inferInstanceAs (Decidable (∀ c ∈ l, 48 ≤ c.toNat ∧ c.toNat ≤ 57))
instance (l : List UInt8) : Decidable (IsNum l) := inferInstanceAs (Decidable (l ≠ [] ∧ Digs l ∧ (l.head? = some 48 → l.length = 1)))
theorem awake (k : Nat) : graftwoodlaw02_awake.f (k + 4) = some true := by
  unfold graftwoodlaw02_awake.f
  rw [cmp_yes k (by decide) (by decide) (by decide) (by decide), Option.bind_some, next_yes (by decide) (by decide), Option.bind_some, may_no (by decide) (by decide), Option.bind_some, if_neg (by simp), may_yes (by decide) (by decide), Option.bind_some, if_pos rfl]
  simp only [toList_by, by_mk]
  rw [if_pos (by decide), if_pos (by decide), if_pos (by decide +kernel)]
  rfl
theorem few (a : ByteArray) : ∃ b, graftwoodlaw01_Few.f a = some b ∧ b.size ≤ 400 := by
  unfold graftwoodlaw01_Few.f
  by_cases h : (a.size : Int) > 400
  · rw [if_pos h, if_pos (by omega), if_pos (by omega)]
    exact ⟨_, rfl, by rw [ByteArray.size_extract]; omega⟩
  · rw [if_neg h]
    exact ⟨a, rfl, by omega⟩
end Go.Proofs.Ytgldbbgcdpgbcaa.Ev
