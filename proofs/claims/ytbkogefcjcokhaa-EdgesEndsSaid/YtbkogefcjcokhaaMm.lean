/- Rows of edges in memory: cells, rows of the call's own, copies, appends, clears of elements of three cells. -/
import Derived.Test.YtbkogefcjcokhaaEc
import Derived.Laws.CopyRow
import Derived.Laws.AppendOwn
import Derived.Lib.AppendZerosOnto
import Derived.Lib.Overlaps
import Derived.Laws.CopyOwn
set_option linter.unusedVariables false
set_option linter.unusedSimpArgs false
namespace Go.Proofs.Ytbkogefcjcokhaa.Ed
open Go.RowKit Go.Proofs.Ytbkogefcjcokhaa.PAll Go.Proofs.Ytbkogefcjcokhaa.Nm Go.Proofs.YtbkogefcjcokhaaW.PrintWords

/-- An edge's cells. -/
def cel (e : S33) : List Value := [.int .i64 e.f0, .int .i64 e.f1, .int .i64 e.f2]
def cells (l : List S33) : List Value := l.flatMap cel
theorem cells_nil : cells [] = [] := rfl
theorem cells_cons (e : S33) (l : List S33) : cells (e :: l) = cel e ++ cells l := rfl
theorem cells_append (a b : List S33) : cells (a ++ b) = cells a ++ cells b := by simp [cells]
theorem cells_length (l : List S33) : (cells l).length = l.length * 3 := by
  induction l with
  | nil => rfl
  | cons e l ih => rw [cells_cons, List.length_append, ih, List.length_cons]; simp [cel]; omega
theorem cells_take (l : List S33) (i : Nat) : (cells l).take (i * 3) = cells (l.take i) := by
  induction l generalizing i with
  | nil => simp [cells]
  | cons e l ih =>
    cases i with
    | zero => simp [cells]
    | succ i =>
      rw [List.take_succ_cons, cells_cons, cells_cons, ← ih i, show (i + 1) * 3 = (cel e).length + i * 3 by simp [cel]; omega, List.take_length_add_append]
theorem cells_drop (l : List S33) (i : Nat) : (cells l).drop (i * 3) = cells (l.drop i) := by
  induction l generalizing i with
  | nil => simp [cells]
  | cons e l ih =>
    cases i with
    | zero => simp [cells]
    | succ i =>
      rw [List.drop_succ_cons, cells_cons, ← ih i, show (i + 1) * 3 = (cel e).length + i * 3 by simp [cel]; omega, List.drop_length_add_append]
theorem cells_get (l : List S33) (j : Nat) (e : S33) (h : l[j]? = some e) (i : Nat) (u : Value) (hu : (cel e)[i]? = some u) : (cells l)[j * 3 + i]? = some u := by
  have h1 : (cells l).drop (j * 3) = cel e ++ cells (l.drop (j + 1)) := by
    rw [cells_drop]
    obtain ⟨hj, rfl⟩ := List.getElem?_eq_some_iff.1 h
    rw [List.drop_eq_getElem_cons hj, cells_cons]
  rw [← List.getElem?_drop, h1, List.getElem?_append_left, hu]
  exact (List.getElem?_eq_some_iff.1 hu).1
theorem cells_one (l : List S33) : ∀ u ∈ cells l, u.oneCell' = true := by
  intro u hu
  obtain ⟨e, _, he⟩ := List.mem_flatMap.1 hu
  simp only [cel, List.mem_cons, List.not_mem_nil, or_false] at he
  rcases he with rfl | rfl | rfl <;> rfl
theorem cel_one (e : S33) : ∀ u ∈ cel e, u.oneCell' = true := by
  intro u he
  simp only [cel, List.mem_cons, List.not_mem_nil, or_false] at he
  rcases he with rfl | rfl | rfl <;> rfl

/-- A row of edges of the call's own (or nil). -/
def Own (w : World) (B : Nat) (v : Value) (l : List S33) : Prop := w.ownsRow B 33 3 v l.length (cells l)
theorem C_of_cells {w : World} {A : Option Addr} {l : List S33} (hl : l.length ≤ 9223372036854775807) (h : ∀ ad, A = some ad → ∀ j u, (cells l)[j]? = some u → w.cell? (ad.add j) = some u) (hn : 0 < l.length → A ≠ none) : Kd.C k33 w A l.length l := by
  refine ⟨rfl, hl, fun h0 => ?_⟩
  cases A with
  | none => exact absurd rfl (hn h0)
  | some ad =>
    exact ⟨ad, rfl, fun j p hj => ⟨cel p, rfl, k33_mk w p, fun i u hu => h ad rfl _ _ (cells_get l j p hj i u hu)⟩⟩
theorem C_cells {w : World} {A : Option Addr} {l : List S33} (h : Kd.C k33 w A l.length l) : 0 < l.length → ∃ ad, A = some ad ∧ ∀ j u, (cells l)[j]? = some u → w.cell? (ad.add j) = some u := by
  intro h0
  obtain ⟨_, _, h⟩ := h
  obtain ⟨ad, e, h⟩ := h h0
  refine ⟨ad, e, fun j u hu => ?_⟩
  have hj : j < l.length * 3 := by
    have := (List.getElem?_eq_some_iff.1 hu).1
    rwa [cells_length] at this
  have hq : j / 3 < l.length := by omega
  obtain ⟨c, _, hk, hc⟩ := h (j / 3) _ (List.getElem?_eq_getElem hq)
  obtain rfl := k33_open hk
  have h2 := hc (j % 3)
  have h3 : ∃ u', (cel l[j / 3])[j % 3]? = some u' := ⟨_, List.getElem?_eq_getElem (by simp [cel]; omega)⟩
  obtain ⟨u', hu'⟩ := h3
  have h4 := cells_get l (j / 3) _ (List.getElem?_eq_getElem hq) (j % 3) u' hu'
  have h5 := h2 u' hu'
  have h6 : j / 3 * 3 + j % 3 = j := by omega
  rw [h6] at h4
  rw [hu] at h4
  obtain rfl := Option.some.inj h4
  rw [← h5]
  show _ = w.cell? (ad.add (j / 3 * 3 + j % 3))
  rw [h6]
theorem Own.nil (w : World) (B : Nat) : Own w B (.slice none 0 0) [] := World.ownsRow_nil w B 33 3
theorem Own.reads {w : World} {B : Nat} {v : Value} {l : List S33} (h : Own w B v l) : ∃ A c, v = .slice A l.length c ∧ l.length ≤ c ∧ Kd.C k33 w A l.length l := by
  rcases h.2 with ⟨rfl, h0⟩ | ⟨g, cap, cur, rfl, hg, hh, hn, hm, hs, ht⟩
  · obtain rfl : l = [] := List.eq_nil_of_length_eq_zero h0
    exact ⟨none, 0, rfl, Nat.le_refl _, C_of_cells (by simp) (fun ad h => by cases h) (fun h => by simp at h)⟩
  · refine ⟨_, cap, rfl, hn, C_of_cells (by unfold maxLen at hm; omega) (fun ad he j u hu => ?_) (fun _ h => by cases h)⟩
    obtain rfl := Option.some.inj he
    exact World.ownsRow.cells h rfl j u hu
theorem Own.below {w w1 : World} {B : Nat} {v : Value} {l : List S33} (h : Own w B v l) (hb : Below w.heap.size w w1) : Own w1 B v l := own_move h (fun k hk => hb.block k (own_lt h k hk))
theorem Own.lower {w : World} {B B' : Nat} {v : Value} {l : List S33} (h : Own w B v l) (hb : B' ≤ B) : Own w B' v l := own_weaken h hb
theorem Own.row {w : World} {B g n c : Nat} {l : List S33} (h : Own w B (.slice (some ⟨g, 0, none⟩) n c) l) : n = l.length ∧ B ≤ g ∧ g < w.heap.size ∧ l.length ≤ c ∧ c ≤ maxLen ∧ ∃ sp, w.heap[g]? = some (.cells (cells l ++ sp).toArray 33 (0, 0)) ∧ sp.length = (c - l.length) * 3 := by
  rcases h.2 with ⟨h, _⟩ | ⟨g', cap, cur, he, hg, hh, hn, hm, hs, ht⟩
  · cases h
  · injection he with e1 e2 e3
    injection e1 with e1
    injection e1 with e1
    subst e1 e2 e3
    refine ⟨rfl, hg, blk_lt hh, hn, hm, cur.toList.drop (l.length * 3), ?_, ?_⟩
    · rw [← ht, List.take_append_drop, hh]
    · simp [hs]; omega
theorem Own.mk {w : World} {B g n c : Nat} {l : List S33} (hB : B ≤ g) (hn : n = l.length) (hc : l.length ≤ c) (hm : c ≤ maxLen) (cur : List Value) (hg : w.heap[g]? = some (.cells cur.toArray 33 (0, 0))) (hs : cur.length = c * 3) (ht : cur.take (l.length * 3) = cells l) : Own w B (.slice (some ⟨g, 0, none⟩) n c) l :=
  ⟨cells_length l, .inr ⟨g, c, cur.toArray, by rw [hn], hB, hg, hc, hm, by simpa using hs, by simpa using ht⟩⟩

theorem size33 : (Try.prog.info? 33).map (·.size) = some 3 := by kernel_rfl
theorem under22 : Try.prog.underlying 22 = some (.slice 33) := by kernel_rfl

/-- 'copy' of elements of three cells. -/
theorem run_copy3 (w : World) (ty : TypeId) (g o dLen dCap : Nat) (a : Addr) (sLen sCap : Nat) (cur : List Value) (t : TypeId) (cs : List Value)
    (hg : w.heap[g]? = some (.cells cur.toArray t (0, 0))) (hn : cs.length = Nat.min sLen dLen * 3)
    (hsrc : ∀ j v, cs[j]? = some v → w.cell? (a.add j) = some v) (hfit : o + cs.length ≤ cur.length) (h1 : ∀ v ∈ cs, v.oneCell' = true) :
    (Builtin.copy_ #[22, 22] ty #[.slice (some ⟨g, o, none⟩) dLen dCap, .slice (some a) sLen sCap]).run Try.prog w =
      .ok (goInt (Nat.min sLen dLen)) (w.setRow g (splice cur o cs).toArray) := by
  have hl := run_firstCells_some (P := Try.prog) w 3 (Nat.min sLen dLen) a sLen sCap cs hn hsrc
  have hst := run_storeCells_at Try.prog g o t cs 0 cur.toArray w hg (by simpa using hfit) h1
  cases hq : Try.prog.info? 33 with
  | none => have := size33; simp [hq] at this
  | some i =>
    have hi : i.size = 3 := by have := size33; simpa [hq] using this
    simp [Builtin.copy_, run_underlying under22, Builtin.lenOf, sizeOf, typeInfo, hq, hi, hl, hst, splice]

theorem nmin_l {a b : Nat} (h : a ≤ b) : Nat.min a b = a := Nat.min_eq_left h
theorem nmin_r {a b : Nat} (h : b ≤ a) : Nat.min a b = b := Nat.min_eq_right h
theorem run_copy3k (k : Nat) (w : World) (ty : TypeId) (g o dLen dCap : Nat) (a : Addr) (sLen sCap : Nat) (cur : List Value) (t : TypeId) (cs : List Value)
    (hk : Nat.min sLen dLen = k) (hg : w.heap[g]? = some (.cells cur.toArray t (0, 0))) (hn : cs.length = k * 3)
    (hsrc : ∀ j v, cs[j]? = some v → w.cell? (a.add j) = some v) (hfit : o + cs.length ≤ cur.length) (h1 : ∀ v ∈ cs, v.oneCell' = true) :
    (Builtin.copy_ #[22, 22] ty #[.slice (some ⟨g, o, none⟩) dLen dCap, .slice (some a) sLen sCap]).run Try.prog w =
      .ok (goInt (k : Nat)) (w.setRow g (splice cur o cs).toArray) := by
  subst hk
  exact run_copy3 w ty g o dLen dCap a sLen sCap cur t cs hg hn hsrc hfit h1

/-- 'clear' of elements of three cells. -/
theorem run_clear3 (w : World) (ty : TypeId) (g o n c : Nat) (cur : List Value) (t : TypeId) (hn : 0 < n) (hg : w.heap[g]? = some (.cells cur.toArray t (0, 0))) (hfit : o + n * 3 ≤ cur.length) :
    (Builtin.clear_ #[22] ty #[.slice (some ⟨g, o, none⟩) n c]).run Try.prog w = .ok (.tuple #[]) (w.setRow g (splice cur o (Builtin.zeroCells #[.int .i64 0, .int .i64 0, .int .i64 0] n).toList).toArray) := by
  have hlen : (Builtin.zeroCells #[Value.int .i64 0, .int .i64 0, .int .i64 0] n).toList.length = n * 3 := by simp [Builtin.zeroCells]
  have hone : ∀ v ∈ (Builtin.zeroCells #[Value.int .i64 0, .int .i64 0, .int .i64 0] n).toList, v.oneCell' = true := by
    intro v hv
    obtain ⟨i, hi, rfl⟩ := List.mem_iff_getElem.1 hv
    simp only [Builtin.zeroCells, Array.getElem_toList, Array.getElem_ofFn]
    have h3 : i % 3 = 0 ∨ i % 3 = 1 ∨ i % 3 = 2 := by omega
    rcases h3 with h | h | h <;> simp [h] <;> rfl
  have hst := run_storeCells_at Try.prog g o t (Builtin.zeroCells #[Value.int .i64 0, .int .i64 0, .int .i64 0] n).toList 0 cur.toArray w hg (by rw [hlen]; simpa using hfit) hone
  have hz : (zeroValue 33).run Try.prog w = .ok (.agg #[.int .i64 0, .int .i64 0, .int .i64 0]) w := by
    have := info33
    cases hq : Try.prog.info? 33 with
    | none => simp [hq] at this
    | some i =>
      simp [hq] at this
      simp [zeroValue, typeInfo, hq, this]
  obtain ⟨m, rfl⟩ : ∃ m, n = m + 1 := ⟨n - 1, by omega⟩
  simp only [Nat.add_zero, hlen] at hst
  have hc : (Value.agg #[Value.int .i64 0, .int .i64 0, .int .i64 0]).cells = #[Value.int .i64 0, .int .i64 0, .int .i64 0] := by kernel_rfl
  simp [Builtin.clear_, run_underlying under22, hz, hc, hst, splice, hlen]

theorem setRow_below {B g : Nat} (w : World) (hBg : B ≤ g) (cs : Array Value) : Below B w (w.setRow g cs) := below_setRow (Below.refl _ _) hBg cs

/-! lists that are spliced -/
theorem splice_two {cur A X D : List Value} (hA : cur.take A.length = A) (hl : A.length + X.length + D.length ≤ cur.length) : (splice (splice cur (A.length + X.length) D) A.length X).take (A.length + X.length + D.length) = A ++ X ++ D := by
  have e1 : (cur.take (A.length + X.length)).length = A.length + X.length := by rw [List.length_take]; omega
  have e2 : (splice cur (A.length + X.length) D).take A.length = A := by
    unfold splice
    rw [List.take_append_of_le_length (by omega), List.take_take, Nat.min_eq_left (by omega), hA]
  have e3 : (splice cur (A.length + X.length) D).drop (A.length + X.length) = D ++ cur.drop (A.length + X.length + D.length) := by
    unfold splice
    rw [List.drop_append_of_le_length (by omega), List.drop_of_length_le (by omega), List.nil_append]
  unfold splice at e2 e3 ⊢
  rw [e2, e3]
  rw [show A ++ (X ++ (D ++ List.drop (A.length + X.length + D.length) cur)) = (A ++ X ++ D) ++ List.drop (A.length + X.length + D.length) cur by simp]
  rw [show A.length + X.length + D.length = (A ++ X ++ D).length by simp; omega]
  exact List.take_left
theorem splice_then {cur A X D : List Value} (hA : cur.take A.length = A) (hl : A.length + X.length + D.length ≤ cur.length) : (splice (splice cur A.length X) (A.length + X.length) D).take (A.length + X.length + D.length) = A ++ X ++ D := by
  unfold splice
  rw [hA]
  rw [show A ++ (X ++ cur.drop (A.length + X.length)) = (A ++ X) ++ cur.drop (A.length + X.length) by simp]
  rw [show A.length + X.length = (A ++ X).length by simp, List.take_left]
  rw [show (A ++ X).length + D.length = (A ++ X ++ D).length by simp; omega]
  rw [show A ++ X ++ (D ++ List.drop (A ++ X ++ D).length (A ++ X ++ List.drop (A ++ X).length cur)) = (A ++ X ++ D) ++ List.drop (A ++ X ++ D).length (A ++ X ++ List.drop (A ++ X).length cur) by simp]
  exact List.take_left
theorem splice_length {cur cs : List Value} {o : Nat} (h : o + cs.length ≤ cur.length) : (splice cur o cs).length = cur.length := by
  unfold splice; simp; omega
theorem splice_take {cur cs : List Value} {o k : Nat} (h : k ≤ o) (hl : o + cs.length ≤ cur.length) : (splice cur o cs).take k = cur.take k := by
  unfold splice
  rw [List.take_append_of_le_length (by rw [List.length_take]; omega), List.take_take, Nat.min_eq_left h]
end Go.Proofs.Ytbkogefcjcokhaa.Ed
