/- The contract of Few; edges among a row's arguments. -/
import Derived.Test.YtbkogefcjcokhaaAw
import Derived.Deep.Slices
import Derived.Deep.Fields
import Derived.ChangeSame
import Derived.Carry
import Derived.Deep.Strs
set_option linter.unusedVariables false
set_option linter.unusedSimpArgs false
namespace Go.Proofs.Ytbkogefcjcokhaa.Ed
open Go.ChangeShapes Go.WideShapes Go.Deep Go.RowKit Go.Proofs.Ytbkogefcjcokhaa.PAll Go.Proofs.Ytbkogefcjcokhaa.Nm Go.Proofs.YtbkogefcjcokhaaW.PrintWords

set_option maxRecDepth 100000 in
theorem few_rd {v : Value} {l : List S33} {w : World} (h : Rd w v l) : Calls Try.prog 9 #[v] w fun e w' => ∃ v', e = .returned v' ∧ Rd w' v' (l.take 40) ∧ Below w.heap.size w w' := by
  obtain ⟨A, c, rfl, hc, hA, hr⟩ := h
  by_cases hl : l.length ≤ 40
  · have HR : Hid (Rd w (.slice A l.length c) (l.take 40)) := by
      rw [List.take_of_length_le hl]
      exact ⟨A, c, rfl, hc, hA, hr⟩
    clear hr
    go_enter Try.func9, Try.ntmps9
    go_wp2_with fail
    go_ret
    exact ⟨_, rfl, HR.out, Below.refl _ _⟩
  · cases A with
    | none =>
      have := hA rfl
      omega
    | some ad =>
      have hlt : (l.take 40).length = 40 := by rw [List.length_take]; omega
      have HR : Hid (Rd w (.slice (some ad) 40 c) (l.take 40)) := by
        refine ⟨some ad, c, by rw [hlt], by omega, fun h => (by cases h), ?_⟩
        obtain ⟨_, h1, h2⟩ := hr
        refine ⟨rfl, by omega, fun _ => ?_⟩
        obtain ⟨ad', e, h3⟩ := h2 (by omega)
        refine ⟨ad', e, fun j p hj => h3 j p ?_⟩
        rw [List.getElem?_take] at hj
        split at hj
        · exact hj
        · cases hj
      have hl2 : 40 < l.length := by omega
      have hl3 : (40 : Int) < (l.length : Int) := by omega
      have hl4 : 40 ≤ c := by omega
      have hl5 : ¬ c = 0 := by omega
      have hl6 : (40 : Int) ≤ (c : Int) := by omega
      clear hr hlt hl hA
      go_enter Try.func9, Try.ntmps9
      go_wp2_with fail
      go_ret
      exact ⟨_, rfl, HR.out, Below.refl _ _⟩

section
variable {H : Type} {enc : TypeId × Value → H} {w : World} {base : Nat} {spare : Nat → Bool} {held : Bool}
theorem list_of {α : Type} {P : Nat → α → Prop} : ∀ (n : Nat), (∀ i, i < n → ∃ e, P i e) → ∃ l : List α, l.length = n ∧ ∀ i e, l[i]? = some e → P i e
  | 0, _ => ⟨[], rfl, fun i e h => by simp at h⟩
  | n + 1, h => by
    obtain ⟨l, hl, hp⟩ := list_of n fun i hi => h i (by omega)
    obtain ⟨e, he⟩ := h n (by omega)
    refine ⟨l ++ [e], by simp [hl], fun i x hx => ?_⟩
    by_cases hi : i < l.length
    · rw [List.getElem?_append_left hi] at hx
      exact hp i x hx
    · rw [List.getElem?_append_right (by omega)] at hx
      have h0 : i - l.length = 0 := by
        have := (List.getElem?_eq_some_iff.1 hx).1
        simp at this
        omega
      rw [h0] at hx
      obtain rfl : e = x := by simpa using hx
      have : i = n := by omega
      rw [this]
      exact he
/-- A slice of edges that came in, opened. -/
theorem open_edges {v : Value} {d : DataW H} {p : List MemPlace} (hv : Value.okWide Try.prog w .any base 22 v) (h : DataW.Trod enc Try.prog w 0 spare held 22 v d p) : ∃ l, Rd w v l := by
  obtain ⟨A, len, cap, rfl⟩ := okWide_slice under22 hv
  obtain ⟨fuel, hf⟩ := h
  rcases open_slice under22 hf with ⟨hcs, _⟩ | ⟨a, len', cap', m, n, D, Pl, hcs, _, hl, hm, hmm, _, hi⟩
  · have h1 : Value.slice A len cap = .slice none 0 0 := by simpa [Value.cells] using hcs
    rw [h1]
    exact ⟨[], Rd.nil w⟩
  · have h1 : Value.slice A len cap = .slice (some a) len' cap' := by simpa [Value.cells] using hcs
    rw [h1]
    have hC : Try.prog.cellsOf 33 = 3 := by kernel_rfl
    have hC3 : Try.prog.cellsOf 3 = 1 := by kernel_rfl
    have hlm : len' ≤ m := by rw [hmm]; split <;> omega
    obtain ⟨l, hll, hlp⟩ := list_of (P := fun i (e : S33) => w.cell? (a.add (i * 3)) = some (.int .i64 e.f0) ∧ w.cell? (a.add (i * 3 + 1)) = some (.int .i64 e.f1) ∧ w.cell? (a.add (i * 3 + 2)) = some (.int .i64 e.f2)) len' (fun i hil => by
      obtain ⟨cs', hc, ht⟩ := hi i (by omega)
      rw [hC] at hc
      obtain ⟨y0, y1, y2, n', _, hlen, t0, t1, t2⟩ := trod_struct3 Try.underlying33 ht
      obtain ⟨_, hcl, hat⟩ := World.cells?_some hc
      match cs', hcl with
      | [c0, c1, c2], _ =>
        simp only [hC3, List.drop_zero, List.drop_succ_cons, List.take_succ_cons, List.take_zero] at t0 t1 t2
        obtain ⟨x0, h0, _⟩ := DataW.trod_int Try.underlying3 t0
        obtain ⟨x1, h1, _⟩ := DataW.trod_int Try.underlying3 t1
        obtain ⟨x2, h2, _⟩ := DataW.trod_int Try.underlying3 t2
        refine ⟨⟨x0, x1, x2⟩, ?_, ?_, ?_⟩
        · have := hat 0 (by omega)
          rw [Go.Deep.add_add] at this
          rw [Nat.add_zero] at this
          rw [this]
          simpa using h0
        · have := hat 1 (by omega)
          rw [Go.Deep.add_add] at this
          rw [this]
          simpa using h1
        · have := hat 2 (by omega)
          rw [Go.Deep.add_add] at this
          rw [this]
          simpa using h2)
    subst hll
    refine ⟨l, some a, cap', rfl, hl, fun h => (by cases h), rfl, by unfold maxLen at hm; omega, fun h0 => ⟨a, rfl, fun j p hj => ⟨cel p, rfl, k33_mk w p, fun i u hu => ?_⟩⟩⟩
    obtain ⟨q0, q1, q2⟩ := hlp j p hj
    match i, hu with
    | 0, hu =>
      obtain rfl : Value.int .i64 p.f0 = u := by simpa [cel] using hu
      exact q0
    | 1, hu =>
      obtain rfl : Value.int .i64 p.f1 = u := by simpa [cel] using hu
      exact q1
    | 2, hu =>
      obtain rfl : Value.int .i64 p.f2 = u := by simpa [cel] using hu
      exact q2
end
theorem wf_b {a : Int} (h : (Lit.int .u8 a).wf = true) : 0 ≤ a ∧ a ≤ 255 := by
  have h1 : decide (IntKind.u8.min ≤ a) = true ∧ decide (a ≤ IntKind.u8.max) = true := by simpa only [Lit.wf, Bool.and_eq_true] using h
  have e1 : IntKind.u8.min = 0 := by kernel_rfl
  have e2 : IntKind.u8.max = 255 := by kernel_rfl
  rw [e1, e2] at h1
  exact ⟨of_decide_eq_true h1.1, of_decide_eq_true h1.2⟩
theorem wf_i {a : Int} (h : (Lit.int .i64 a).wf = true) : -9223372036854775808 ≤ a ∧ a ≤ 9223372036854775807 := by
  have h1 : decide (IntKind.i64.min ≤ a) = true ∧ decide (a ≤ IntKind.i64.max) = true := by simpa only [Lit.wf, Bool.and_eq_true] using h
  have e1 : IntKind.i64.min = -9223372036854775808 := by kernel_rfl
  have e2 : IntKind.i64.max = 9223372036854775807 := by kernel_rfl
  rw [e1, e2] at h1
  exact ⟨of_decide_eq_true h1.1, of_decide_eq_true h1.2⟩
end Go.Proofs.Ytbkogefcjcokhaa.Ed
