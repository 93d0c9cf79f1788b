/- ref.Same; slices of uint16 among a row's arguments; the plain law of EdgesBack. -/
import Derived.Test.YtbkogefcjcokhaaRi
import Derived.Test.YtbkogefcjcokhaaPAllx7
import Derived.ChangeSlices
set_option linter.unusedVariables false
set_option linter.unusedSimpArgs false
namespace Go.Proofs.Ytbkogefcjcokhaa.Ed
open Go.ChangeShapes Go.WideShapes Go.Deep Go.RowKit Go.Proofs.Ytbkogefcjcokhaa.PAll Go.Proofs.Ytbkogefcjcokhaa.Nm Go.Proofs.YtbkogefcjcokhaaW.PrintWords

theorem same_l0 (a b : List S33) (he : a.length = b.length) (hl : a.length ≤ 100000) (d : Nat) : ∀ (k i : Nat), i + d = a.length → d + 1 ≤ k → ∃ r, graftwoodref11_Same.l0 k a b (i : Int) = some r ∧ (r = true ↔ a.drop i = b.drop i) := by
  induction d with
  | zero =>
    intro k i hi hk
    obtain ⟨k, rfl⟩ : ∃ m, k = m + 1 := ⟨k - 1, by omega⟩
    simp only [graftwoodref11_Same.l0]
    rw [if_neg (by omega), List.drop_of_length_le (by omega), List.drop_of_length_le (by omega)]
    exact ⟨true, rfl, by simp⟩
  | succ d ih =>
    intro k i hi hk
    obtain ⟨k, rfl⟩ : ∃ m, k = m + 1 := ⟨k - 1, by omega⟩
    have h1 : i < a.length := by omega
    have h2 : i < b.length := by omega
    have w1 : wrap64 ((i : Int) + 1) = ((i + 1 : Nat) : Int) := by unfold wrap64; omega
    obtain ⟨r, hr, hq⟩ := ih k (i + 1) (by omega) (by omega)
    simp only [graftwoodref11_Same.l0]
    rw [if_pos (by omega), if_pos (by omega), if_pos (by omega), rd_nat a i h1, rd_nat b i h2, w1, hr, List.drop_eq_getElem_cons h1, List.drop_eq_getElem_cons h2]
    by_cases e0 : a[i].f0 = b[i].f0
    · by_cases e1 : a[i].f1 = b[i].f1
      · by_cases e2 : a[i].f2 = b[i].f2
        · have he : a[i] = b[i] := S33_ext e0 e1 e2
          refine ⟨r, by simp [e0, e1, e2], ?_⟩
          rw [hq, List.cons.injEq]
          exact ⟨fun q => ⟨he, q⟩, fun q => q.2⟩
        · refine ⟨false, by simp [e2], ?_⟩
          rw [List.cons.injEq]
          exact ⟨fun q => (by cases q), fun q => absurd (congrArg S33.f2 q.1) e2⟩
      · refine ⟨false, by simp [e1], ?_⟩
        rw [List.cons.injEq]
        exact ⟨fun q => (by cases q), fun q => absurd (congrArg S33.f1 q.1) e1⟩
    · refine ⟨false, by simp [e0], ?_⟩
      rw [List.cons.injEq]
      exact ⟨fun q => (by cases q), fun q => absurd (congrArg S33.f0 q.1) e0⟩
theorem same_f (a b : List S33) (hl : a.length ≤ 100000) : ∃ r, graftwoodref11_Same.f 100003 a b = some r ∧ (r = true ↔ a = b) := by
  unfold graftwoodref11_Same.f
  by_cases he : a.length = b.length
  · rw [if_pos (by omega)]
    have := same_l0 a b he hl a.length 100003 0 (by omega) (by omega)
    rw [List.drop_zero, List.drop_zero] at this
    exact this
  · rw [if_neg (by omega)]
    exact ⟨false, rfl, fun q => (by cases q), fun q => absurd (congrArg List.length q) he⟩
theorem same_rd {va vb : Value} {a b : List S33} {w : World} (ha : Rd w va a) (hb : Rd w vb b) (hl : a.length ≤ 100000) : Calls Try.prog 15 #[va, vb] w fun e w' => ∃ r, e = .returned (.bool r) ∧ (r = true ↔ a = b) ∧ Below w.heap.size w w' := by
  obtain ⟨A, c, rfl, hc, _, hr⟩ := ha
  obtain ⟨B, d, rfl, hd, _, hs⟩ := hb
  obtain ⟨r, hf, hq⟩ := same_f a b hl
  refine (graftwoodref11_Same.calls 100003 A c a B d b r w hr hc hs hd hf).mono ?_
  rintro e w' ⟨rfl, hd⟩
  exact ⟨r, rfl, hq, hd.below⟩
theorem same_eq {va vb : Value} {a : List S33} {w : World} (ha : Rd w va a) (hb : Rd w vb a) (hl : a.length ≤ 100000) : Calls Try.prog 15 #[va, vb] w fun e w' => e = .returned (.bool true) ∧ Below w.heap.size w w' := by
  refine (same_rd ha hb hl).mono ?_
  rintro e w' ⟨r, rfl, hr, hb⟩
  rw [hr.2 rfl]
  exact ⟨rfl, hb⟩

/-! uint16 -/
def RdU (w : World) (v : Value) (xs : List Int) : Prop := ∃ A c, v = .slice A xs.length c ∧ xs.length ≤ 9223372036854775807 ∧ ∀ (j : Nat) (h : j < xs.length), 0 ≤ xs[j] ∧ xs[j] ≤ 65535 ∧ ∃ ad, A = some ad ∧ w.cell? (ad.add j) = some (.int .u16 xs[j])
theorem RdU.below {w w1 : World} {v : Value} {l : List Int} (h : RdU w v l) (hb : Below w.heap.size w w1) : RdU w1 v l := by
  obtain ⟨A, c, e, hc, hr⟩ := h
  refine ⟨A, c, e, hc, fun j hj => ?_⟩
  obtain ⟨h1, h2, ad, h3, h4⟩ := hr j hj
  exact ⟨h1, h2, ad, h3, pw_cell_below hb h4⟩
section
variable {H : Type} {enc : TypeId × Value → H} {w : World} {base : Nat} {spare : Nat → Bool} {held : Bool}
theorem open_u16s {v : Value} {d : DataW H} {p : List MemPlace} (hv : Value.okWide Try.prog w .any base 35 v) (h : DataW.Trod enc Try.prog w 0 spare held 35 v d p) : ∃ l, RdU w v l := by
  obtain ⟨A, len, cap, rfl⟩ := okWide_slice Try.underlying35 hv
  obtain ⟨fuel, hf⟩ := h
  rcases open_ints Try.underlying35 Try.underlying37 (by kernel_rfl) hf with ⟨hcs, _⟩ | ⟨a, len', cap', zs, hcs, _, hl, hm, hz, _, hcell, hwf⟩
  · have h1 : Value.slice A len cap = .slice none 0 0 := by simpa [Value.cells] using hcs
    rw [h1]
    exact ⟨[], none, 0, rfl, by simp, fun j hj => by simp at hj⟩
  · have h1 : Value.slice A len cap = .slice (some a) len' cap' := by simpa [Value.cells] using hcs
    rw [h1]
    have hlz : len' ≤ zs.length := by rw [hz]; split <;> omega
    have hlen : (zs.take len').length = len' := by rw [List.length_take]; omega
    refine ⟨zs.take len', some a, cap', by rw [hlen], by rw [hlen]; unfold maxLen at hm; omega, fun j hj => ?_⟩
    rw [hlen] at hj
    have hj' : j < zs.length := by omega
    rw [List.getElem_take]
    have hw := hwf zs[j] (List.getElem_mem hj')
    have h1 : decide (IntKind.u16.min ≤ zs[j]) = true ∧ decide (zs[j] ≤ IntKind.u16.max) = true := by simpa only [Lit.wf, Bool.and_eq_true] using hw
    have e1 : IntKind.u16.min = 0 := by kernel_rfl
    have e2 : IntKind.u16.max = 65535 := by kernel_rfl
    rw [e1, e2] at h1
    refine ⟨of_decide_eq_true h1.1, of_decide_eq_true h1.2, a, rfl, ?_⟩
    rw [hcell j hj', List.getD_eq_getElem?_getD, List.getElem?_eq_getElem hj']
    rfl
end

/-! pairs that are added -/
def cnt : List (Int × Int) → Int → Int → Int
  | [], _, _ => 0
  | p :: r, x, y => (if x = p.1 ∧ y = p.2 then 1 else 0) + cnt r x y
theorem cnt_append (a b : List (Int × Int)) (x y : Int) : cnt (a ++ b) x y = cnt a x y + cnt b x y := by
  induction a with
  | nil => simp [cnt]
  | cons p a ih => simp only [List.cons_append, cnt, ih]; omega
theorem cnt_reverse (a : List (Int × Int)) (x y : Int) : cnt a.reverse x y = cnt a x y := by
  induction a with
  | nil => rfl
  | cons p a ih => rw [List.reverse_cons, cnt_append, ih]; simp only [cnt]; omega
theorem cnt_nonneg (a : List (Int × Int)) (x y : Int) : 0 ≤ cnt a x y := by
  induction a with
  | nil => simp [cnt]
  | cons p a ih => simp only [cnt]; split <;> omega
theorem cnt_take (a : List (Int × Int)) (i : Nat) (h : i < a.length) (x y : Int) : cnt (a.take (i + 1)) x y = cnt (a.take i) x y + (if x = a[i].1 ∧ y = a[i].2 then 1 else 0) := by
  rw [List.take_add_one, List.getElem?_eq_getElem h, cnt_append]
  simp [cnt]
theorem cnt_drop (a : List (Int × Int)) (i : Nat) (h : i < a.length) (x y : Int) : cnt (a.drop i) x y = (if x = a[i].1 ∧ y = a[i].2 then 1 else 0) + cnt (a.drop (i + 1)) x y := by
  rw [List.drop_eq_getElem_cons h]
  rfl
theorem dropL_length (l : List S33) (f t : Int) : (dropL l f t).length ≤ l.length := by
  induction l with
  | nil => simp [dropL]
  | cons e l ih => rw [dropL]; split; · split <;> simp
                   · split <;> simp <;> omega
end Go.Proofs.Ytbkogefcjcokhaa.Ed
