/- The contract of slices.Insert at edges, whatever the road; the contract of slices.Delete at edges (one edge). -/
import Derived.Test.YtbkogefcjcokhaaIg
set_option linter.unusedVariables false
set_option linter.unusedSimpArgs false
namespace Go.Proofs.Ytbkogefcjcokhaa.Ed
open Go.RowKit Go.Proofs.Ytbkogefcjcokhaa.PAll Go.Proofs.Ytbkogefcjcokhaa.Nm Go.Proofs.YtbkogefcjcokhaaW.PrintWords

theorem insert_any (v : Value) (l : List S33) (i : Nat) (x : S33) (vb vc B : Nat) (w : World) (ho : Own w B v l) (hi : i ≤ l.length) (hB : B ≤ w.heap.size) (hvb : w.heap[vb]? = some (.cells (cel x).toArray 33 (0, 0))) (hne : ∀ k, v.ownBlock = some k → vb ≠ k) (hl : l.length ≤ 1000) :
    Calls Try.prog 28 #[v, .int .i64 i, .slice (some ⟨vb, 0, none⟩) 1 vc] w fun e w' => ∃ v', e = .returned v' ∧ Own w' B v' (l.take i ++ x :: l.drop i) ∧ Below B w w' := by
  rcases Nat.lt_or_ge i l.length with hlt | hge
  · rcases ho.2 with ⟨rfl, h0⟩ | ⟨g, c, cur, rfl, hg', _⟩
    · omega
    · rcases Nat.lt_or_ge c (l.length + 1) with hc | hc
      · exact insert_grow g c l.length l i x vb vc B w ho rfl hlt hc hvb hl hB
      · exact insert_room g c l.length l i x vb vc B w ho rfl hlt hc (hne g rfl) hvb hl
  · obtain rfl : i = l.length := by omega
    rw [List.take_length, List.drop_length]
    exact insert_end v l x vb vc B w ho hB hvb hl

theorem step_append_runI {P : Program} {ops : Array Oper} {o : Oper} {a : Act} {w : World} {K : Act → World → Prop} {Q : Exit → Act → World → Prop} {E : Prop}
    (hg : o.guard = none) (d x : Operand) (dT sT : TypeId) (hop : o.op = Op.call { callee := Callee.builtin Builtin.append, args := #[d, x], argTypes := #[dT, sT] })
    (v u : Value) (hd : a.eval d = v) (hx : a.eval x = u) {v' : Value} {w' : World} (hr : (Builtin.append_ #[dT, sT] o.type #[v, u]).run P w = .ok v' w') (hK : K (a.put o.dst v') w') :
    if Region.wanted o (yielded ops a.tmps) = true then Oper.wp P o a w K Q else E := by
  have hw : Region.wanted o (yielded ops a.tmps) = true := by simp [Region.wanted, hg]
  rw [if_pos hw]
  unfold Oper.wp
  simp [execOp, hop, resolve, invoke, builtin, hd, hx, hr, Result.andThen]
  exact hK
theorem wpList_clear_runI {P : Program} (w : World) {ops : Array Oper} {rest : List Oper} {o : Oper} {a : Act} {Q : Exit → Act → World → Prop} (hgd : o.guard = none) (d : Operand) (t : TypeId)
    (ho : o.op = .call { callee := .builtin .clear, args := #[d], argTypes := #[t] }) (v : Value) (hd : a.eval d = v) {v' : Value} {w' : World}
    (hr : (Builtin.clear_ #[t] o.type #[v]).run P w = .ok v' w') (h : wpList P ops Q rest (a.put o.dst v') w') : wpList P ops Q (o :: rest) a w :=
  wpList_plain hgd fun K hK => by
    unfold Oper.wp execOp
    simp only [ho, resolve, invoke, builtin, Sem.run_bind, Sem.run_pure, Result.andThen_ok, List.map_toArray, List.map_cons, List.map_nil, hd, hr]
    exact hK _ _ h

theorem append_room3 (w : World) (ty : TypeId) (g sLen sCap : Nat) (cur : List Value) (a : Addr) (m c n : Nat) (news : List Value) (hg : w.heap[g]? = some (.cells cur.toArray 33 (0, 0)))
    (hl : news.length = m * 3) (hnews : ∀ j u, news[j]? = some u → w.cell? (a.add j) = some u) (h1 : ∀ u ∈ news, u.oneCell' = true) (hn : sLen + m = n) (hroom : n ≤ sCap) (hfit : sLen * 3 + news.length ≤ cur.length) :
    (Builtin.append_ #[22, 22] ty #[.slice (some ⟨g, 0, none⟩) sLen sCap, .slice (some a) m c]).run Try.prog w = .ok (.slice (some ⟨g, 0, none⟩) n sCap) (w.setRow g (splice cur (sLen * 3) news).toArray) := by
  subst hn
  cases hq : Try.prog.info? 33 with
  | none => have := size33; simp [hq] at this
  | some inf =>
    have hs : inf.size = 3 := by have := size33; simpa [hq] using this
    have h := run_append_room (P := Try.prog) w 22 ty 33 inf under22 hq g sLen sCap cur.toArray hg a m c news (by rw [hs]; exact hl) hnews h1 hroom (by rw [hs]; simpa using hfit)
    rw [h, hs]
    simp [splice]

set_option maxHeartbeats 4000000 in
set_option maxRecDepth 100000 in
theorem delete_any (g c m : Nat) (l : List S33) (i B : Nat) (w : World) (ho : Own w B (.slice (some ⟨g, 0, none⟩) (m + 1) c) l) (hnl : l.length = m + 1) (hi : i ≤ m) (hl : m ≤ 1000) :
    Calls Try.prog 29 #[.slice (some ⟨g, 0, none⟩) (m + 1) c, .int .i64 i, .int .i64 ((i : Int) + 1)] w fun e w' => ∃ v', e = .returned v' ∧ Own w' B v' (l.take i ++ l.drop (i + 1)) ∧ Below B w w' := by
  obtain ⟨hq, hBg, hgw, hnc, hcm, sp, hrow, hsp⟩ := Own.row ho
  have hcm' : c ≤ 9223372036854775807 := by unfold maxLen at hcm; omega
  have hrl : (cells l ++ sp).length = c * 3 := by rw [List.length_append, cells_length, hsp]; omega
  have hD : (cells (l.drop (i + 1))).length = (m - i) * 3 := by rw [cells_length, List.length_drop]; omega
  obtain ⟨X1, hX1⟩ : ∃ X1, X1 = splice (cells l ++ sp) (i * 3) (cells (l.drop (i + 1))) := ⟨_, rfl⟩
  have hX1l : X1.length = c * 3 := by rw [hX1, splice_length (by rw [hD, hrl]; omega), hrl]
  have hap : ∀ (a : Addr) cc ty, (i < m → a = ⟨g, (i + 1) * 3, none⟩) → (Builtin.append_ #[22, 22] ty #[.slice (some ⟨g, 0, none⟩) i c, .slice (some a) (m - i) cc]).run Try.prog w.drew = .ok (.slice (some ⟨g, 0, none⟩) m c) (w.drew.setRow g X1.toArray) := fun a cc ty ha => by
    rw [hX1]
    refine append_room3 w.drew ty g i c _ a (m - i) cc m _ hrow hD (fun j u hj => ?_) (cells_one _) (by omega) (by omega) (by rw [hD, hrl]; omega)
    have hlt := (List.getElem?_eq_some_iff.1 hj).1
    rw [hD] at hlt
    rw [ha (by omega)]
    refine row_cell_at (w := w.drew) hrow ((i + 1) * 3) j u ?_
    rw [List.getElem?_append_left (by rw [cells_length]; omega), ← List.getElem?_drop, cells_drop]
    exact hj
  obtain ⟨X2, hX2⟩ : ∃ X2, X2 = splice X1 (m * 3) (Builtin.zeroCells #[.int .i64 0, .int .i64 0, .int .i64 0] 1).toList := ⟨_, rfl⟩
  have hz3 : (Builtin.zeroCells #[Value.int .i64 0, .int .i64 0, .int .i64 0] 1).toList.length = 3 := by kernel_rfl
  have hX2l : X2.length = c * 3 := by rw [hX2, splice_length (by rw [hz3, hX1l]; omega), hX1l]
  have hcl : ∀ (W : World), W.heap = (w.drew.setRow g X1.toArray).heap → ∀ ty cc, (Builtin.clear_ #[22] ty #[.slice (some ⟨g, m * 3, none⟩) 1 cc]).run Try.prog W = .ok (.tuple #[]) (W.setRow g X2.toArray) := fun W hW ty cc => by
    rw [hX2]
    exact run_clear3 W ty g (m * 3) 1 cc X1 33 (by omega) (by rw [hW]; exact setRow_heap w.drew g _ _ 33 (0, 0) hrow) (by rw [hX1l]; omega)
  have hpost : ∀ W : World, W.heap = ((w.drew.setRow g X1.toArray).setRow g X2.toArray).heap → W.os = w.os → W.tape = w.tape → W.output = w.output → Own W B (.slice (some ⟨g, 0, none⟩) m c) (l.take i ++ l.drop (i + 1)) ∧ Below B w W := by
    intro W hW h1 h2 h3
    have hlen : (l.take i ++ l.drop (i + 1)).length = m := by simp; omega
    have hA : (cells (l.take i)).length = i * 3 := by rw [cells_length, List.length_take]; omega
    have htk : (cells l ++ sp).take (i * 3) = cells (l.take i) := by
      rw [List.take_append_of_le_length (by rw [cells_length]; omega), cells_take]
    refine ⟨Own.mk hBg hlen.symm (by omega) hcm X2 ?_ hX2l ?_, h1, h2, h3, ?_, fun k hk => ?_⟩
    · rw [hW]; exact setRow_heap _ g _ _ 33 (0, 0) (setRow_heap w.drew g _ _ 33 (0, 0) hrow)
    · rw [hlen, hX2, splice_take (Nat.le_refl _) (by rw [hz3, hX1l]; omega), hX1]
      unfold splice
      rw [htk, ← List.append_assoc, cells_append, show m * 3 = (cells (l.take i) ++ cells (l.drop (i + 1))).length by rw [List.length_append, hA, hD]; omega]
      exact List.take_left
    · rw [hW]; simp
    · rw [hW, setRow_other _ _ _ _ (by omega), setRow_other _ _ _ _ (by omega)]; rfl
  have mixed : Try.prog.follows .mixedOrders = true := by kernel_rfl
  have hz1 : ¬ ((i : Int) = (i : Int) + 1) := by omega
  have u33 := Try.underlying33
  have hin : i ≤ m + 1 := by omega
  have hmc : m + 1 ≤ c := by omega
  have hmc2 : m ≤ c := by omega
  have htn : ((i : Int) + 1).toNat = i + 1 := by omega
  have hb1 : (0 : Int) ≤ (i : Int) + 1 := by omega
  have hb2 : (i : Int) ≤ (i : Int) + 1 := by omega
  have hb3 : (i : Int) + 1 ≤ (m : Int) + 1 := by omega
  have hb4 : ¬ (c = i) := by omega
  have hb5 : ¬ (c = m) := by omega
  have htm : ((m : Int) + 1).toNat = m + 1 := by omega
  have hbm : (0 : Int) ≤ (m : Int) + 1 := by omega
  have HP := Aside0.mk hpost
  clear hpost hX1 hX2 hnl hq hnc hsp hrow ho hD hX1l hX2l hrl hz3
  by_cases hci : c = i + 1
  · obtain rfl : m = i := by omega
    subst hci
    have hap1 := fun cc ty => hap ⟨g, 0, none⟩ cc ty (fun h => by omega)
    rw [Nat.sub_self] at hap1
    have hm1 : (m : Int) ≤ (m : Int) + 1 := by omega
    have hm2 : ¬ (m + 1 = m) := by omega
    have hm3 : m ≤ m + 1 := by omega
    clear hap hb1 hb2 hb3 hb4 hb5 hin hmc hmc2 hi
    go_enter Try.func29, Try.ntmps29
    go_wp2_with fail
    go_region_law_o (refine step_append_runI rfl _ _ 22 22 rfl (.slice (some ⟨g, 0, none⟩) m (m + 1)) (.slice (some ⟨g, 0, none⟩) 0 0) (by simp [Act.eval, Act.put]) (by simp [Act.eval, Act.put]) (hap1 0 22) ?_)
    go_wp2_with (at_builtin; refine wpList_clear_runI _ rfl _ 22 rfl _ rfl (hcl _ rfl _ _) ?_)
    go_ret
    exact ⟨_, rfl, HP.out _ rfl rfl rfl rfl⟩
  · have hap1 := fun cc ty => hap ⟨g, (i + 1) * 3, none⟩ cc ty (fun h => rfl)
    have hic : i ≤ c := by omega
    have hm3 : m ≤ m + 1 := by omega
    have hm1 : (m : Int) ≤ (m : Int) + 1 := by omega
    clear hap
    go_enter Try.func29, Try.ntmps29
    go_wp2_with fail
    go_region_law_o (refine step_append_runI rfl _ _ 22 22 rfl (.slice (some ⟨g, 0, none⟩) i c) (.slice (some ⟨g, (i + 1) * 3, none⟩) (m - i) (c - (i + 1))) (by simp [Act.eval, Act.put]) (by simp [Act.eval, Act.put]) (hap1 _ 22) ?_)
    go_wp2_with (at_builtin; refine wpList_clear_runI _ rfl _ 22 rfl _ rfl (hcl _ rfl _ _) ?_)
    go_ret
    exact ⟨_, rfl, HP.out _ rfl rfl rfl rfl⟩
end Go.Proofs.Ytbkogefcjcokhaa.Ed
