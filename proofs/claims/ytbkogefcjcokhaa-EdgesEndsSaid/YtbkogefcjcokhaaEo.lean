/- Edges among a row's arguments, with the bounds of their numbers. -/
import Derived.Test.YtbkogefcjcokhaaEd2
set_option linter.unusedVariables false
set_option linter.unusedSimpArgs false
namespace Go.Proofs.Ytbkogefcjcokhaa.Ed
open Go.ChangeShapes Go.WideShapes Go.Deep Go.RowKit Go.Proofs.Ytbkogefcjcokhaa.PAll Go.Proofs.Ytbkogefcjcokhaa.Nm Go.Proofs.YtbkogefcjcokhaaW.PrintWords
section
variable {H : Type} {enc : TypeId × Value → H} {w : World} {base : Nat} {spare : Nat → Bool} {held : Bool}
/-- A slice of edges that came in, opened: its numbers lie in 64 bits. -/
theorem open_edges_rg {v : Value} {d : DataW H} {p : List MemPlace} (hv : Value.okWide Try.prog w .any base 22 v) (h : DataW.Trod enc Try.prog w 0 spare held 22 v d p) : ∃ l, Rd w v l ∧ Rg l := by
  obtain ⟨A, len, cap, rfl⟩ := okWide_slice under22 hv
  obtain ⟨fuel, hf⟩ := h
  rcases open_slice under22 hf with ⟨hcs, _⟩ | ⟨a, len', cap', m, n, D, Pl, hcs, _, hl, hm, hmm, _, hi⟩
  · have h1 : Value.slice A len cap = .slice none 0 0 := by simpa [Value.cells] using hcs
    rw [h1]
    exact ⟨[], Rd.nil w, fun e he => by simp at he⟩
  · have h1 : Value.slice A len cap = .slice (some a) len' cap' := by simpa [Value.cells] using hcs
    rw [h1]
    have hC : Try.prog.cellsOf 33 = 3 := by kernel_rfl
    have hC3 : Try.prog.cellsOf 3 = 1 := by kernel_rfl
    have hlm : len' ≤ m := by rw [hmm]; split <;> omega
    obtain ⟨l, hll, hlp⟩ := list_of (P := fun i (e : S33) => w.cell? (a.add (i * 3)) = some (.int .i64 e.f0) ∧ w.cell? (a.add (i * 3 + 1)) = some (.int .i64 e.f1) ∧ w.cell? (a.add (i * 3 + 2)) = some (.int .i64 e.f2) ∧ (Lit.int .i64 e.f0).wf = true ∧ (Lit.int .i64 e.f1).wf = true) len' (fun i hil => by
      obtain ⟨cs', hc, ht⟩ := hi i (by omega)
      rw [hC] at hc
      obtain ⟨y0, y1, y2, n', _, hlen, t0, t1, t2⟩ := trod_struct3 Try.underlying33 ht
      obtain ⟨_, hcl, hat⟩ := World.cells?_some hc
      match cs', hcl with
      | [c0, c1, c2], _ =>
        simp only [hC3, List.drop_zero, List.drop_succ_cons, List.take_succ_cons, List.take_zero] at t0 t1 t2
        obtain ⟨x0, h0, _, wf0⟩ := DataW.trod_int Try.underlying3 t0
        obtain ⟨x1, h1, _, wf1⟩ := DataW.trod_int Try.underlying3 t1
        obtain ⟨x2, h2, _⟩ := DataW.trod_int Try.underlying3 t2
        refine ⟨⟨x0, x1, x2⟩, ?_, ?_, ?_, wf0, wf1⟩
        · have := hat 0 (by omega)
          rw [Go.Deep.add_add] at this
          rw [Nat.add_zero] at this
          rw [this]
          simpa using h0
        · have := hat 1 (by omega)
          rw [Go.Deep.add_add] at this
          rw [this]
          simpa using h1
        · have := hat 2 (by omega)
          rw [Go.Deep.add_add] at this
          rw [this]
          simpa using h2)
    subst hll
    refine ⟨l, ⟨some a, cap', rfl, hl, fun h => (by cases h), rfl, by unfold maxLen at hm; omega, fun h0 => ⟨a, rfl, fun j p hj => ⟨cel p, rfl, k33_mk w p, fun i u hu => ?_⟩⟩⟩, fun e he => ?_⟩
    rotate_left
    · obtain ⟨j, hj, rfl⟩ := List.mem_iff_getElem.1 he
      obtain ⟨_, _, _, q3, q4⟩ := hlp j _ (List.getElem?_eq_getElem hj)
      exact ⟨wf_i q3, wf_i q4⟩
    obtain ⟨q0, q1, q2, _⟩ := hlp j p hj
    match i, hu with
    | 0, hu =>
      obtain rfl : Value.int .i64 p.f0 = u := by simpa [cel] using hu
      exact q0
    | 1, hu =>
      obtain rfl : Value.int .i64 p.f1 = u := by simpa [cel] using hu
      exact q1
    | 2, hu =>
      obtain rfl : Value.int .i64 p.f2 = u := by simpa [cel] using hu
      exact q2
end
end Go.Proofs.Ytbkogefcjcokhaa.Ed
