/- The contract of slices.Insert at edges: no room. -/
import Derived.Test.YtbkogefcjcokhaaIr
set_option linter.unusedVariables false
set_option linter.unusedSimpArgs false
namespace Go.Proofs.Ytbkogefcjcokhaa.Ed
open Go.RowKit Go.Proofs.Ytbkogefcjcokhaa.PAll Go.Proofs.Ytbkogefcjcokhaa.Nm Go.Proofs.YtbkogefcjcokhaaW.PrintWords

theorem grow_zeros (w : World) (g n c i k : Nat) (l : List S33) (sp : List Value) (ty : TypeId) (hrow : w.heap[g]? = some (.cells (cells l ++ sp).toArray 33 (0, 0))) (hil : i ≤ l.length) (hk : 0 < k) (hc : c < i + k) (hsm : i + k ≤ 100000) :
    ∃ G Z, i + k ≤ G ∧ G ≤ maxLen ∧ (cells (l.take i) ++ Z).length = G * 3 ∧ (Builtin.append_ #[22, 3] ty #[.slice (some ⟨g, 0, none⟩) i c, .int .i64 (k : Nat)]).run Try.prog w =
      .ok (.slice (some ⟨w.heap.size, 0, none⟩) (i + k) G) (w.drew.alloc (.cells (cells (l.take i) ++ Z).toArray 33)) := by
  cases hq : Try.prog.info? 33 with
  | none => have := size33; simp [hq] at this
  | some inf =>
    have h33 := info33
    simp [hq] at h33
    obtain ⟨hz, hs, hb⟩ := h33
    have hold : (Builtin.firstCells inf.size i (.slice (some ⟨g, 0, none⟩) i c)).run Try.prog w.drew = .ok (cells (l.take i)).toArray w.drew := by
      rw [hs]
      exact run_firstCells_some w.drew 3 i ⟨g, 0, none⟩ i c (cells (l.take i)) (by rw [cells_length, List.length_take, Nat.min_eq_left hil]) (fun j u hj => row_cell (w := w.drew) hrow j u (by
        have hlt := (List.getElem?_eq_some_iff.1 hj).1
        rw [cells_length, List.length_take, Nat.min_eq_left hil] at hlt
        rw [← cells_take, List.getElem?_take, if_pos hlt] at hj
        rw [List.getElem?_append_left (by rw [cells_length]; omega)]
        exact hj))
    have h := Lib.run_append_grow_zeros w 22 3 ty 33 inf _ .i64 .i64 under22 (by kernel_rfl) hq hz (some ⟨g, 0, none⟩) i c (cells (l.take i)) hold k hk (by omega) hc (by omega) (by rw [hb]; omega) (by rw [hb]; exact growslice_fits hc (by omega))
    refine ⟨grownCap w (i + k) c 33, (Builtin.zeroCells (Value.agg #[.int .i64 0, .int .i64 0, .int .i64 0]).cells k ++ Builtin.zeroCells (Value.agg #[.int .i64 0, .int .i64 0, .int .i64 0]).cells (grownCap w (i + k) c 33 - (i + k))).toList, grownCap_ge w _ _ _, grownCap_le_maxLen w _ _ _ (by unfold maxLen; omega), ?_, ?_⟩
    · have hc3 : (Value.agg #[Value.int .i64 0, .int .i64 0, .int .i64 0]).cells.size = 3 := by kernel_rfl
      have := grownCap_ge w (i + k) c 33
      rw [List.length_append, cells_length, List.length_take, Nat.min_eq_left hil, Array.length_toList, Array.size_append, size_zeroCells, size_zeroCells, hc3]
      omega
    · rw [h]
      congr 3
      apply Array.ext'
      simp

set_option maxHeartbeats 4000000 in
set_option maxRecDepth 100000 in
theorem insert_grow (g c n : Nat) (l : List S33) (i : Nat) (x : S33) (vb vc B : Nat) (w : World) (ho : Own w B (.slice (some ⟨g, 0, none⟩) n c) l) (hnl : l.length = n) (hi : i < n) (hc : c < n + 1) (hvb : w.heap[vb]? = some (.cells (cel x).toArray 33 (0, 0))) (hl : n ≤ 1000) (hB : B ≤ w.heap.size) :
    Calls Try.prog 28 #[.slice (some ⟨g, 0, none⟩) n c, .int .i64 i, .slice (some ⟨vb, 0, none⟩) 1 vc] w fun e w' => ∃ v', e = .returned v' ∧ Own w' B v' (l.take i ++ x :: l.drop i) ∧ Below B w w' := by
  obtain ⟨hq, hBg, hgw, hnc, hcm, sp, hrow, hsp⟩ := Own.row ho
  have hcm' : c ≤ 9223372036854775807 := by unfold maxLen at hcm; omega
  obtain ⟨G, Z, hGn, hGm, hZl, hrz⟩ := grow_zeros w g n c i (n + 1 - i) l sp 22 hrow (by omega) (by omega) (by omega) (by omega)
  rw [show i + (n + 1 - i) = n + 1 by omega] at hGn hrz
  rw [show (((n + 1 - i : Nat)) : Int) = (n : Int) + 1 - (i : Int) by omega] at hrz
  obtain ⟨X0, hX0⟩ : ∃ X0, X0 = cells (l.take i) ++ Z := ⟨_, rfl⟩
  rw [← hX0] at hrz hZl
  have hA : (cells (l.take i)).length = i * 3 := by rw [cells_length, List.length_take]; omega
  have hD : (cells (l.drop i)).length = (n - i) * 3 := by rw [cells_length, List.length_drop]; omega
  obtain ⟨X1, hX1⟩ : ∃ X1, X1 = splice X0 (i * 3) (cel x) := ⟨_, rfl⟩
  have hX1l : X1.length = G * 3 := by rw [hX1, splice_length (by rw [hZl]; simp [cel]; omega), hZl]
  obtain ⟨X2, hX2⟩ : ∃ X2, X2 = splice X1 ((i + 1) * 3) (cells (l.drop i)) := ⟨_, rfl⟩
  have hX2l : X2.length = G * 3 := by rw [hX2, splice_length (by rw [hX1l, hD]; omega), hX1l]
  have hgN : g ≠ w.heap.size := by omega
  have hvN : vb ≠ w.heap.size := by have := blk_lt hvb; omega
  have hN0 : (w.drew.alloc (.cells X0.toArray 33)).heap[w.heap.size]? = some (.cells X0.toArray 33 (0, 0)) := heap_alloc_new w.drew _
  have hcp1 : ∀ (W : World), W.heap = (w.drew.alloc (.cells X0.toArray 33)).heap → ∀ ty dc, (Builtin.copy_ #[22, 22] ty #[.slice (some ⟨w.heap.size, i * 3, none⟩) (n + 1 - i) dc, .slice (some ⟨vb, 0, none⟩) 1 vc]).run Try.prog W = .ok (goInt (1 : Nat)) (W.setRow w.heap.size X1.toArray) := fun W hW ty dc => by
    have hv1 : W.heap[vb]? = some (.cells (cel x).toArray 33 (0, 0)) := by rw [hW, heap_alloc_old w.drew _ (by have := blk_lt hvb; exact this)]; exact hvb
    rw [hX1]
    exact run_copy3k 1 W ty w.heap.size (i * 3) (n + 1 - i) dc ⟨vb, 0, none⟩ 1 vc X0 33 (cel x) (nmin_l (by omega)) (by rw [hW]; exact hN0) rfl (fun j u hj => row_cell hv1 j u hj) (by rw [hZl]; simp [cel]; omega) (cel_one x)
  have h1N : ((w.drew.alloc (.cells X0.toArray 33)).setRow w.heap.size X1.toArray).heap[w.heap.size]? = some (.cells X1.toArray 33 (0, 0)) := setRow_heap _ _ _ _ 33 (0, 0) hN0
  have h1g : ((w.drew.alloc (.cells X0.toArray 33)).setRow w.heap.size X1.toArray).heap[g]? = some (.cells (cells l ++ sp).toArray 33 (0, 0)) := by
    rw [setRow_other _ _ _ _ hgN, heap_alloc_old w.drew _ hgw]; exact hrow
  have hcp2 : ∀ (W : World), W.heap = ((w.drew.alloc (.cells X0.toArray 33)).setRow w.heap.size X1.toArray).heap → ∀ ty dc sc, (Builtin.copy_ #[22, 22] ty #[.slice (some ⟨w.heap.size, (i + 1) * 3, none⟩) (n - i) dc, .slice (some ⟨g, i * 3, none⟩) (n - i) sc]).run Try.prog W = .ok (goInt (n - i : Nat)) (W.setRow w.heap.size X2.toArray) := fun W hW ty dc sc => by
    have h1N' : W.heap[w.heap.size]? = some (.cells X1.toArray 33 (0, 0)) := by rw [hW]; exact h1N
    have h1g' : W.heap[g]? = some (.cells (cells l ++ sp).toArray 33 (0, 0)) := by rw [hW]; exact h1g
    rw [hX2]
    exact run_copy3k (n - i) W ty w.heap.size ((i + 1) * 3) (n - i) dc ⟨g, i * 3, none⟩ (n - i) sc X1 33 (cells (l.drop i)) (nmin_r (by omega)) h1N' hD
      (fun j u hj => row_cell_at h1g' (i * 3) j u (by rw [List.getElem?_append_left (by have := (List.getElem?_eq_some_iff.1 hj).1; rw [cells_length, List.length_drop] at this; rw [cells_length]; omega), ← List.getElem?_drop, cells_drop]; exact hj))
      (by rw [hD, hX1l]; omega) (cells_one _)
  have hpost : ∀ W : World, W.heap = (((w.drew.alloc (.cells X0.toArray 33)).setRow w.heap.size X1.toArray).setRow w.heap.size X2.toArray).heap → W.os = w.os → W.tape = w.tape → W.output = w.output → Own W B (.slice (some ⟨w.heap.size, 0, none⟩) (n + 1) G) (l.take i ++ x :: l.drop i) ∧ Below B w W := by
    intro W hW h1 h2 h3
    have hlen : (l.take i ++ x :: l.drop i).length = n + 1 := by simp; omega
    have htk : X0.take (cells (l.take i)).length = cells (l.take i) := by rw [hX0, List.take_left]
    have hst := splice_then (X := cel x) (D := cells (l.drop i)) htk (by rw [hA, hD, hZl]; simp [cel]; omega)
    rw [hA, hD, show (cel x).length = 3 from rfl, show i * 3 + 3 = (i + 1) * 3 by omega, ← hX1, ← hX2] at hst
    refine ⟨Own.mk hB hlen.symm (by omega) hGm X2 ?_ hX2l ?_, h1, h2, h3, ?_, fun k hk => ?_⟩
    · rw [hW]; exact setRow_heap _ _ _ _ 33 (0, 0) h1N
    · rw [hlen, show (n + 1) * 3 = (i + 1) * 3 + (n - i) * 3 by omega, hst, cells_append, cells_cons, List.append_assoc]
    · rw [hW]; simp
    · rw [hW, setRow_other _ _ _ _ (by omega), setRow_other _ _ _ _ (by omega), heap_alloc_old w.drew _ (by show k < w.heap.size; omega)]; rfl
  have mixed : Try.prog.follows .mixedOrders = true := by kernel_rfl
  have hz1 : ¬ ((i : Int) = (n : Int)) := by omega
  have hz3 : (c : Int) < (n : Int) + 1 := by omega
  have hw1 : IntKind.i64.wrap ((i : Int) + 1) = (i : Int) + 1 := by rw [IntKind.wrap_i64]; omega
  have u33 := Try.underlying33
  have hnc2 : n ≤ c := by omega
  have hin : i ≤ n := by omega
  have hic : i ≤ c := by omega
  have htn : ((i : Int) + 1).toNat = i + 1 := by omega
  have hb1 : (0 : Int) ≤ (i : Int) + 1 := by omega
  have hb3 : (i : Int) ≤ (n : Int) := by omega
  have hb4 : ¬ (c = i) := by omega
  have hG63 : G ≤ 9223372036854775807 := by unfold maxLen at hGm; omega
  have hGi : ¬ (G = i) := by omega
  have hGi1 : ¬ (G = i + 1) := by omega
  have HC := Lib.hid hc
  have hF : (((w.alloc (.cells X0.toArray 33)).drew.setRow w.heap.size X1.toArray).drew).heap = ((w.drew.alloc (.cells X0.toArray 33)).setRow w.heap.size X1.toArray).heap := rfl
  have hE : ((w.alloc (.cells X0.toArray 33)).drew).heap = (w.drew.alloc (.cells X0.toArray 33)).heap := rfl
  have HP := Aside0.mk hpost
  clear hN0 hpost hX0 hX1 hX2 hnl hq hnc hsp hrow hvb ho hA hD hZl h1N h1g hX1l hX2l
  go_enter Try.func28, Try.ntmps28
  go_wp2_with (first
    | (at_builtin; refine Lib.wpList_append_run _ rfl _ _ _ _ rfl _ _ rfl rfl _ _ hrz ?_)
    | (at_builtin; refine wpList_copy_runI _ rfl _ _ 22 22 rfl _ _ rfl rfl (hcp1 _ hE _ _) ?_))
  go_region_law_o (refine step_copy_runI rfl _ _ 22 22 rfl (.slice (some ⟨w.heap.size, (i + 1) * 3, none⟩) (n - i) (G - (i + 1))) (.slice (some ⟨g, i * 3, none⟩) (n - i) (c - i)) (by simp [Act.eval, Act.put]) (by simp [Act.eval, Act.put]) (hcp2 _ hF 3 (G - (i + 1)) (c - i)) ?_)
  go_wp2
  go_ret
  exact ⟨_, rfl, HP.out _ rfl rfl rfl rfl⟩
end Go.Proofs.Ytbkogefcjcokhaa.Ed
