/- The contracts of edges.order and edges.Check, told by the plain laws of edges. -/
import Derived.Test.YtbkogefcjcokhaaPAllx3
import Derived.Test.YtbkogefcjcokhaaNm
set_option linter.unusedVariables false
set_option linter.unusedSimpArgs false
namespace Go.Proofs.Ytbkogefcjcokhaa.Ed
open Go.RowKit Go.Proofs.Ytbkogefcjcokhaa.PAll Go.Proofs.Ytbkogefcjcokhaa.Nm Go.Proofs.YtbkogefcjcokhaaW.PrintWords

theorem cmpInt (x y : Int) : cmp_Compare_int.f x y = some (if x < y then -1 else if y < x then 1 else 0) := by
  unfold cmp_Compare_int.f cmp_isNaN_int.f
  simp only [bne_self_eq_false, Option.bind_some, Bool.false_eq_true, if_false]
  split
  · rfl
  · by_cases h : x > y
    · rw [if_pos h, if_pos (show y < x from h)]
    · rw [if_neg h, if_neg (show ¬ y < x from h)]
theorem or2 (k : Nat) (x y : Int) : cmp_Or_int.f (k + 3) [x, y] = some (if x = 0 then y else x) := by
  unfold cmp_Or_int.f
  simp only [cmp_Or_int.l0, List.length_cons, List.length_nil]
  by_cases hx : x = 0
  · subst hx
    by_cases hy : y = 0
    · subst hy
      simp [rd, wrap64]
    · simp [rd, wrap64, hy]
  · simp [rd, wrap64, hx]
/-- Two edges held against one another. -/
def ord (a b : S33) : Int := if klt a b then -1 else if klt b a then 1 else 0
theorem ord_neg {a b : S33} : ord a b < 0 ↔ klt a b := by
  unfold ord; split
  · simp_all
  · split <;> simp_all
theorem ord_ge {a b : S33} : ord a b ≥ 0 ↔ ¬ klt a b := by rw [← ord_neg]; omega
theorem klt_def {a b : S33} : klt a b ↔ a.f0 < b.f0 ∨ (a.f0 = b.f0 ∧ a.f1 < b.f1) := Iff.rfl
theorem klt_not {a b : S33} (h : ¬ (a.f0 < b.f0 ∨ (a.f0 = b.f0 ∧ a.f1 < b.f1))) : ¬ klt a b := h
theorem ord_zero {a b : S33} : ord a b = 0 ↔ isP a b.f0 b.f1 := by
  unfold ord
  by_cases h1 : klt a b
  · rw [if_pos h1]
    unfold klt at h1; unfold isP
    omega
  · rw [if_neg h1]
    by_cases h2 : klt b a
    · rw [if_pos h2]
      unfold klt at h2; unfold isP
      omega
    · rw [if_neg h2]
      unfold klt at h1 h2; unfold isP
      omega
theorem order_f (k : Nat) (a b : S33) : edges_order.f (k + 3) a.f0 a.f1 a.f2 b.f0 b.f1 b.f2 = some (ord a b) := by
  unfold edges_order.f
  rw [cmpInt, Option.bind_some, cmpInt, Option.bind_some, or2, Option.bind_some]
  congr 1
  unfold ord
  by_cases h1 : a.f0 < b.f0
  · have e : (if a.f0 < b.f0 then (-1 : Int) else if b.f0 < a.f0 then 1 else 0) = -1 := if_pos h1
    rw [e, if_neg (by omega), if_pos (klt_def.2 (by omega))]
  · by_cases h2 : b.f0 < a.f0
    · have e : (if a.f0 < b.f0 then (-1 : Int) else if b.f0 < a.f0 then 1 else 0) = 1 := by rw [if_neg h1, if_pos h2]
      rw [e, if_neg (by omega), if_neg (klt_not (by omega)), if_pos (klt_def.2 (by omega))]
    · have e : (if a.f0 < b.f0 then (-1 : Int) else if b.f0 < a.f0 then 1 else 0) = 0 := by rw [if_neg h1, if_neg h2]
      rw [e, if_pos rfl]
      by_cases h3 : a.f1 < b.f1
      · rw [if_pos h3, if_pos (klt_def.2 (by omega))]
      · rw [if_neg h3, if_neg (show ¬ klt a b from klt_not (by omega))]
        by_cases h4 : b.f1 < a.f1
        · rw [if_pos h4, if_pos (klt_def.2 (by omega))]
        · rw [if_neg h4, if_neg (klt_not (by omega))]
theorem order_any (a b : S33) (w : World) : Calls Try.prog 31 #[.agg #[.int .i64 a.f0, .int .i64 a.f1, .int .i64 a.f2], .agg #[.int .i64 b.f0, .int .i64 b.f1, .int .i64 b.f2]] w fun e w' => e = .returned (.int .i64 (ord a b)) ∧ Below w.heap.size w w' :=
  edges_order.calls 3 a.f0 a.f1 a.f2 b.f0 b.f1 b.f2 _ w (order_f 0 a b)

/-! Check -/
def chk : Option S33 → List S33 → Prop
  | _, [] => True
  | p, e :: r => okE e ∧ (∀ q, p = some q → klt q e) ∧ chk (some e) r
theorem chk_some (p : S33) (l : List S33) : chk (some p) l ↔ (∀ x ∈ l, okE x) ∧ (p :: l).Pairwise klt := by
  induction l generalizing p with
  | nil => simp [chk]
  | cons e l ih =>
    rw [chk, ih e]
    constructor
    · rintro ⟨h1, h2, h3, h4⟩
      refine ⟨fun x hx => ?_, List.pairwise_cons.2 ⟨fun x hx => ?_, h4⟩⟩
      · rcases List.mem_cons.1 hx with rfl | hx
        · exact h1
        · exact h3 x hx
      · rcases List.mem_cons.1 hx with rfl | hx
        · exact h2 _ rfl
        · exact klt_trans (h2 _ rfl) ((List.pairwise_cons.1 h4).1 x hx)
    · rintro ⟨h1, h2⟩
      obtain ⟨h3, h4⟩ := List.pairwise_cons.1 h2
      exact ⟨h1 e (by simp), fun q hq => by obtain rfl := Option.some.inj hq; exact h3 e (by simp), fun x hx => h1 x (by simp [hx]), h4⟩
theorem chk_none (l : List S33) : chk none l ↔ Ok l := by
  cases l with
  | nil => exact ⟨fun _ => Ok.nil, fun _ => trivial⟩
  | cons e l =>
    rw [chk, chk_some]
    constructor
    · rintro ⟨h1, _, h3, h4⟩
      exact ⟨fun x hx => by rcases List.mem_cons.1 hx with rfl | hx; · exact h1
                            · exact h3 x hx, h4⟩
    · rintro ⟨h1, h2⟩
      exact ⟨h1 e (by simp), fun q hq => (by cases hq), fun x hx => h1 x (by simp [hx]), h2⟩
def prev (l : List S33) (i : Nat) : Option S33 := if i = 0 then none else l[i - 1]?
theorem rd_nat (l : List S33) (i : Nat) (h : i < l.length) : rd_T33 l (i : Int) = l[i] := by
  unfold rd_T33
  rw [Int.toNat_natCast, List.getD_eq_getElem?_getD, List.getElem?_eq_getElem h]
  rfl
theorem check_l0 (l : List S33) (hl : l.length ≤ 1000) (d : Nat) : ∀ (k i : Nat), i + d = l.length → d + 3 ≤ k →
    (chk (prev l i) (l.drop i) → edges_Check.l0 k l l (l.length : Int) (i : Int) = some 0) ∧ (¬ chk (prev l i) (l.drop i) → edges_Check.l0 k l l (l.length : Int) (i : Int) = some 1) := by
  induction d with
  | zero =>
    intro k i hi hk
    obtain ⟨k, rfl⟩ : ∃ m, k = m + 1 := ⟨k - 1, by omega⟩
    simp only [edges_Check.l0]
    rw [if_neg (by omega), List.drop_of_length_le (by omega)]
    exact ⟨fun _ => rfl, fun h => absurd (by cases prev l i <;> trivial) h⟩
  | succ d ih =>
    intro k i hi hk
    obtain ⟨k, rfl⟩ : ∃ m, k = m + 1 := ⟨k - 1, by omega⟩
    have hlt : i < l.length := by omega
    simp only [edges_Check.l0]
    have hd : l.drop i = l[i] :: l.drop (i + 1) := List.drop_eq_getElem_cons hlt
    have w1 : wrap64 ((i : Int) + 1) = ((i + 1 : Nat) : Int) := by unfold wrap64; omega
    have hp : prev l (i + 1) = some l[i] := by
      unfold prev
      rw [if_neg (by omega), Nat.add_sub_cancel, List.getElem?_eq_getElem hlt]
    obtain ⟨ih1, ih2⟩ := ih k (i + 1) (by omega) (by omega)
    rw [hp] at ih1 ih2
    rw [if_pos (by omega), if_pos (by omega), if_pos (by omega), rd_nat l i hlt, hd, w1]
    generalize hx : l[i] = x at *
    have hc : chk (prev l i) (x :: l.drop (i + 1)) ↔ (okE x ∧ (∀ q, prev l i = some q → klt q x) ∧ chk (some x) (l.drop (i + 1))) := Iff.rfl
    rw [hc]
    by_cases hok : okE x
    · have hok' := hok
      unfold okE most at hok'
      rw [if_neg (by omega), if_neg (by omega), if_neg (by omega), if_neg (by omega)]
      by_cases h0 : i = 0
      · subst h0
        rw [if_neg (by omega)]
        have hpn : prev l 0 = none := rfl
        rw [hpn]
        exact ⟨fun h => ih1 h.2.2, fun h => ih2 (fun q => h ⟨hok, (fun q hq => by cases hq), q⟩)⟩
      · have w2 : wrap64 ((i : Int) - 1) = ((i - 1 : Nat) : Int) := by unfold wrap64; omega
        obtain ⟨m, rfl⟩ : ∃ m, k = m + 3 := ⟨k - 3, by omega⟩
        rw [if_pos (by omega), w2, if_pos (by omega), if_pos (by omega), rd_nat l (i - 1) (by omega), order_f m, Option.bind_some]
        have hpv : prev l i = some l[i - 1] := by
          unfold prev
          rw [if_neg h0, List.getElem?_eq_getElem (by omega)]
        rw [hpv]
        by_cases hk2 : klt l[i - 1] x
        · rw [if_neg (fun q => ord_ge.1 q hk2)]
          exact ⟨fun h => ih1 h.2.2, fun h => ih2 (fun q => h ⟨hok, (fun q hq => by obtain rfl := Option.some.inj hq; exact hk2), q⟩)⟩
        · rw [if_pos (ord_ge.2 hk2)]
          exact ⟨fun h => absurd (h.2.1 _ rfl) hk2, fun _ => rfl⟩
    · refine ⟨fun h => absurd h.1 hok, fun _ => ?_⟩
      unfold okE most at hok
      by_cases h1 : x.f0 < -1
      · rw [if_pos h1]
      · rw [if_neg h1]
        by_cases h2 : x.f1 < 0
        · rw [if_pos h2]
        · rw [if_neg h2]
          by_cases h3 : x.f2 < 1
          · rw [if_pos h3]
          · rw [if_neg h3, if_pos (by omega)]
theorem check_f (l : List S33) (hl : l.length ≤ 1000) : edges_Check.f 1003 l = some (if Ok l then 0 else 1) := by
  unfold edges_Check.f
  obtain ⟨h1, h2⟩ := check_l0 l hl l.length 1003 0 (by omega) (by omega)
  have hpn : prev l 0 = none := rfl
  rw [hpn, List.drop_zero, chk_none] at h1 h2
  by_cases ho : Ok l
  · rw [if_pos ho]; exact h1 ho
  · rw [if_neg ho]; exact h2 ho
theorem check_any (A : Option Addr) (c : Nat) (l : List S33) (w : World) (hl : l.length ≤ 1000) (hr : Kd.C k33 w A l.length l) (hc : l.length ≤ c) :
    Calls Try.prog 17 #[.slice A l.length c] w fun e w' => e = .returned (.int .i64 (if Ok l then 0 else 1)) ∧ Below w.heap.size w w' :=
  edges_Check.calls 1003 A c l _ w hr hc (check_f l hl)
end Go.Proofs.Ytbkogefcjcokhaa.Ed
