/- What number.Of comes to: the digits of its number. -/
import Derived.Test.YtgldbbgcdpgbcaaPAllx5
import Derived.Test.YtgldbbgcdpgbcaaEv
set_option linter.unusedVariables false
set_option linter.unusedSimpArgs false
namespace Go.Proofs.Ytgldbbgcdpgbcaa.Ev
open Go.RowKit Go.Proofs.Ytgldbbgcdpgbcaa.PAll Go.Proofs.Ytgldbbgcdpgbcaa.Num Go.Proofs.Ytgldbbgcdpgbcaa.Oct Go.Proofs.YtgldbbgcdpgbcaaW.PrintWords

theorem u64_range {n : Int} (h : (Lit.int .u64 n).wf = true) : 0 ≤ n ∧ n < two64 := by
  simp only [Lit.wf, Bool.and_eq_true, decide_eq_true_eq] at h
  have h1 : IntKind.u64.min = 0 := by decide
  have h2 : IntKind.u64.max = 18446744073709551615 := by decide
  rw [h1, h2] at h
  unfold two64
  omega

/-! the second loop turns the digits round -/
def rv (l : List Int) (i : Nat) : List Int := l.reverse.take i ++ ((l.drop i).take (l.length - 2 * i)) ++ l.reverse.drop (l.length - i)
theorem rv_zero (l : List Int) : rv l 0 = l := by simp [rv]
theorem rv_length (l : List Int) (i : Nat) (h : 2 * i ≤ l.length) : (rv l i).length = l.length := by
  simp [rv]; omega
theorem rv_get (l : List Int) (i j : Nat) (h : 2 * i ≤ l.length) : (rv l i)[j]? = if j < i ∨ l.length - i ≤ j then l.reverse[j]? else l[j]? := by
  unfold rv
  by_cases h1 : j < i
  · rw [if_pos (.inl h1), List.append_assoc, List.getElem?_append_left (by simp; omega), List.getElem?_take_of_lt h1]
  · by_cases h2 : l.length - i ≤ j
    · rw [if_pos (.inr h2), List.getElem?_append_right (by simp; omega), List.getElem?_drop]
      congr 1
      simp
      omega
    · rw [if_neg (by omega), List.append_assoc, List.getElem?_append_right (by simp; omega), List.getElem?_append_left (by simp; omega), List.getElem?_take_of_lt (by simp; omega), List.getElem?_drop]
      congr 1
      simp
      omega
theorem rv_step (l : List Int) (i : Nat) (h : 2 * (i + 1) ≤ l.length) : ((rv l i).set i (rd (rv l i) ((l.length : Int) - 1 - i))).set (l.length - 1 - i) (rd (rv l i) (i : Int)) = rv l (i + 1) := by
  apply List.ext_getElem?
  intro j
  have hlen := rv_length l i (by omega)
  have g1 : rd (rv l i) ((l.length : Int) - 1 - i) = l.getD (l.length - 1 - i) 0 := by
    unfold rd
    rw [show ((l.length : Int) - 1 - i).toNat = l.length - 1 - i by omega, List.getD_eq_getElem?_getD, List.getD_eq_getElem?_getD, rv_get l i _ (by omega), if_neg (by omega)]
  have g2 : rd (rv l i) (i : Int) = l.getD i 0 := by
    unfold rd
    rw [show ((i : Int)).toNat = i by omega, List.getD_eq_getElem?_getD, List.getD_eq_getElem?_getD, rv_get l i _ (by omega), if_neg (by omega)]
  rw [g1, g2, rv_get l (i + 1) j (by omega), List.getElem?_set]
  by_cases h1 : l.length - 1 - i = j
  · subst h1
    rw [if_pos rfl, if_pos (by rw [List.length_set, hlen]; omega), if_pos (.inr (by omega)), List.getElem?_reverse (by omega)]
    rw [show l.length - 1 - (l.length - 1 - i) = i by omega, List.getD_eq_getElem?_getD, List.getElem?_eq_getElem (by omega)]
    rfl
  · rw [if_neg h1, List.getElem?_set]
    by_cases h2 : i = j
    · subst h2
      rw [if_pos rfl, if_pos (by omega), if_pos (.inl (by omega)), List.getElem?_reverse (by omega)]
      rw [List.getD_eq_getElem?_getD, List.getElem?_eq_getElem (show l.length - 1 - i < l.length by omega)]
      rfl
    · rw [if_neg h2, rv_get l i j (by omega)]
      by_cases h3 : j < i ∨ l.length - i ≤ j
      · rw [if_pos h3, if_pos (by omega)]
      · rw [if_neg h3, if_neg (by omega)]
theorem rv_end (l : List Int) : rv l (l.length / 2) = l.reverse := by
  apply List.ext_getElem?
  intro j
  rw [rv_get l _ j (by omega)]
  by_cases h : j < l.length / 2 ∨ l.length - l.length / 2 ≤ j
  · rw [if_pos h]
  · rw [if_neg h, List.getElem?_reverse (by omega)]
    congr 1
    omega
theorem of_l1 (l : List Int) (hl : l.length ≤ 100) (d : Nat) : ∀ (k i : Nat), i + d = l.length / 2 → d < k →
    number_Of.l1 k (rv l i) ((l.length / 2 : Nat) : Int) (i : Int) = some (strOfNums l.reverse) := by
  induction d with
  | zero =>
    intro k i hi hk
    obtain ⟨k, rfl⟩ : ∃ m, k = m + 1 := ⟨k - 1, by omega⟩
    simp only [number_Of.l1]
    have : i = l.length / 2 := by omega
    subst this
    rw [if_neg (by omega), rv_end]
  | succ d ih =>
    intro k i hi hk
    obtain ⟨k, rfl⟩ : ∃ m, k = m + 1 := ⟨k - 1, by omega⟩
    simp only [number_Of.l1]
    have hlen := rv_length l i (by omega)
    have w1 : wrap64 (((rv l i).length : Int) - 1) = (l.length : Int) - 1 := by rw [hlen]; unfold wrap64; omega
    have w2 : wrap64 ((l.length : Int) - 1 - (i : Int)) = (l.length : Int) - 1 - i := by unfold wrap64; omega
    have w3 : wrap64 ((i : Int) + 1) = ((i + 1 : Nat) : Int) := by unfold wrap64; omega
    rw [w1, w2, w3, if_pos (by omega), if_pos (by omega), if_pos (by rw [hlen]; omega), if_pos (by omega), if_pos (by rw [hlen]; omega), Int.toNat_natCast,
      show ((l.length : Int) - 1 - (i : Int)).toNat = l.length - 1 - i by omega, rv_step l i (by omega)]
    exact ih k (i + 1) (by omega) (by omega)

/-- The first loop's digits, lowest first. -/
def low (n : Nat) : List Int := if n < 10 then [((48 + n : Nat) : Int)] else ((48 + n % 10 : Nat) : Int) :: low (n / 10)
theorem low_lt {n : Nat} (h : n < 10) : low n = [((48 + n : Nat) : Int)] := by rw [low, if_pos h]
theorem low_ge {n : Nat} (h : ¬ n < 10) : low n = ((48 + n % 10 : Nat) : Int) :: low (n / 10) := by rw [low, if_neg h]
theorem low_length (d : Nat) : ∀ n : Nat, n < 10 ^ (d + 1) → (low n).length ≤ d + 1 := by
  induction d with
  | zero => intro n h; rw [low_lt (by simpa using h)]; simp
  | succ d ih =>
    intro n h
    by_cases h1 : n < 10
    · rw [low_lt h1]; simp
    · rw [low_ge h1, List.length_cons]
      have := ih (n / 10) (by rw [Nat.pow_succ] at h; omega)
      omega
theorem low_tx (n : Nat) : (low n).reverse.map (fun n => UInt8.ofNat n.toNat) = tx n := by
  induction n using Nat.strongRecOn with
  | _ n ih =>
    by_cases h : n < 10
    · rw [low_lt h, tx_lt h]
      simp only [List.reverse_cons, List.reverse_nil, List.nil_append, List.map_cons, List.map_nil, Int.toNat_natCast, dch]
      rw [Nat.mod_eq_of_lt h]
    · rw [low_ge h, tx_ge h, List.reverse_cons, List.map_append, ih _ (by omega)]
      simp only [List.map_cons, List.map_nil, Int.toNat_natCast, dch]
theorem of_l0 (d : Nat) : ∀ (n k : Nat) (acc : List Int), (n : Int) < two64 → n < 10 ^ (d + 1) → acc.length + d + 1 ≤ 40 → d + 60 ≤ k →
    number_Of.l0 k (n : Int) acc = some (strOfNums (acc ++ low n).reverse) := by
  have fin : ∀ (n k : Nat) (acc : List Int), n < 10 → acc.length + 1 ≤ 40 → 60 ≤ k → number_Of.l0 k (n : Int) acc = some (strOfNums (acc ++ low n).reverse) := by
    intro n k acc h1 hacc hk
    obtain ⟨k, rfl⟩ : ∃ m, k = m + 1 := ⟨k - 1, by omega⟩
    simp only [number_Of.l0]
    rw [if_neg (by omega), if_pos (by omega), Option.bind_some]
    have e : (IntKind.u64.wrap (48 + (n : Int))) % 256 = ((48 + n : Nat) : Int) := by rw [wrap_u64]; omega
    rw [e, low_lt h1]
    have w : wrap64 ((((acc ++ [((48 + n : Nat) : Int)]).length : Nat) : Int) / 2) = (((acc ++ [((48 + n : Nat) : Int)]).length / 2 : Nat) : Int) := by
      simp only [List.length_append, List.length_cons, List.length_nil]; unfold wrap64; omega
    have h := of_l1 (acc ++ [((48 + n : Nat) : Int)]) (by simp; omega) ((acc ++ [((48 + n : Nat) : Int)]).length / 2) k 0 (by omega) (by simp; omega)
    rw [rv_zero] at h
    rw [w]
    exact h
  induction d with
  | zero =>
    intro n k acc hn h hacc hk
    exact fin n k acc (by simpa using h) (by omega) (by omega)
  | succ d ih =>
    intro n k acc hn h hacc hk
    by_cases h1 : n < 10
    · exact fin n k acc h1 (by omega) (by omega)
    · obtain ⟨k, rfl⟩ : ∃ m, k = m + 1 := ⟨k - 1, by omega⟩
      simp only [number_Of.l0]
      unfold two64 at hn
      have e1 : Int.tmod (n : Int) 10 = ((n % 10 : Nat) : Int) := by rw [Int.tmod_eq_emod_of_nonneg (by omega)]; omega
      have e2 : Int.tdiv (n : Int) 10 = ((n / 10 : Nat) : Int) := by rw [Int.tdiv_eq_ediv_of_nonneg (by omega)]; omega
      have e3 : (IntKind.u64.wrap (48 + ((n % 10 : Nat) : Int))) % 256 = ((48 + n % 10 : Nat) : Int) := by rw [wrap_u64]; omega
      have e4 : IntKind.u64.wrap ((n / 10 : Nat) : Int) = ((n / 10 : Nat) : Int) := by rw [wrap_u64]; omega
      rw [if_pos (by omega), if_pos (by omega), e1, e2, e3, e4, ih (n / 10) k _ (by unfold two64; omega) (by rw [Nat.pow_succ] at h; omega) (by simp; omega) (by omega), low_ge h1]
      simp
theorem of_yes (k : Nat) (n : Nat) (hn : (n : Int) < two64) : number_Of.f (k + 100) (n : Int) = some ⟨(tx n).toArray⟩ := by
  unfold number_Of.f
  have h10 : n < 10 ^ (20 + 1) := by unfold two64 at hn; have : (10 : Nat) ^ (20 + 1) = 1000000000000000000000 := by decide
                                     omega
  rw [of_l0 20 n (k + 100) [] hn h10 (by simp) (by omega), List.nil_append]
  congr 1
  apply by_inj
  rw [by_mk]
  exact low_tx n
theorem tx_length (n : Nat) (h : n < 10 ^ 21) : (tx n).length ≤ 21 := by
  rcases Nat.lt_or_ge 1 (tx n).length with g | g
  · have h1 := val_ge (tx_num n) g
    rw [tx_val] at h1
    rcases Nat.lt_or_ge (tx n).length 22 with q | q
    · omega
    · have : 10 ^ 21 ≤ 10 ^ ((tx n).length - 1) := Nat.pow_le_pow_right (by omega) (by omega)
      omega
  · omega
theorem tx_size {n : Nat} (h : n < 10 ^ 21) : (⟨(tx n).toArray⟩ : ByteArray).size ≤ 21 := by
  rw [← by_length, by_mk]; exact tx_length n h
theorem next_tx {n : Nat} (h : n < 10 ^ 21) : number_Next.f ⟨(tx n).toArray⟩ = some (⟨(tx (n + 1)).toArray⟩, 0) := by
  have := tx_size h
  rw [next_yes (by omega) (by rw [by_mk]; exact tx_num n), by_mk, inc_tx]
theorem cmp_tx (k : Nat) {n m : Nat} (h : n < 10 ^ 21) (g : m < 10 ^ 21) : number_Cmp.f (k + 4) ⟨(tx n).toArray⟩ ⟨(tx m).toArray⟩ = some (if n < m then -1 else if m < n then 1 else 0, 0) := by
  have := tx_size h
  have := tx_size g
  rw [cmp_yes k (by omega) (by omega) (by rw [by_mk]; exact tx_num n) (by rw [by_mk]; exact tx_num m), by_mk, by_mk, cmpV, tx_val, tx_val]
theorem tx_inj {n m : Nat} (h : tx n = tx m) : n = m := by rw [← tx_val n, h, tx_val]
end Go.Proofs.Ytgldbbgcdpgbcaa.Ev
